/- What the walk of Of knows ahead of each declaration; a row that grows. No condition. The rows of Of, as lists; appends to them. No condition. The contract of Of: the Jo of any declarations, or an error. Conditions: the tables of powers and of math/bits lie in the world. -/
import Derived.Test.YtmohibkomlhlaaaGreatDoorPfc
set_option maxRecDepth 100000
set_option maxHeartbeats 16000000
namespace Go.Proofs.YtmohibkomlhlaaaGreatDoor
section
open Go.RowKit
def OwnT(q:Nat)(vs:List Value)(g:Nat):Prop:=g=q∨∃v∈vs,v.ownBlock=some g
structure qy(w:World)(b sb mb c:Nat)(A:Option Addr)(l:List Dc)(S:Nat→Prop)(q:Nat)(svA:Option Addr)(svc:Nat)(rows:List (um × Value))(wt:Nat)(r:Array Value)(W:World)(f:ByteArray→Option Value):Prop where
 bl:Below w.heap.size w W
 lo:w.heap.size<mb∧mb<q∧b<q∧sb<q
 r2:W.heap[w.heap.size]?=some (.cells Eb 48 (0,0))
 r8:W.heap[q]?=some (.cells r 48 (0,0))
 sv:ak W (fun g=>mb<g∧g<q) 1 svA (ai l).length (aC (ai l))
 rw:xR w.heap.size q mb rows W
 ms:MSt b sb mb c A l S (OwnT q (rows.map (·.2))) W f
 wl:wt<65536
section
variable {w:World} {b sb mb c:Nat} {A:Option Addr} {l:List Dc} {S:Nat→Prop} {q:Nat} {svA:Option Addr} {svc:Nat} {rows:List (um × Value)} {wt:Nat} {r:Array Value} {W W':World} {f f':ByteArray→Option Value}
theorem qy.qlt(h:qy w b sb mb c A l S q svA svc rows wt r W f):q<W.heap.size:=jS h.r8
theorem qy.later(h:qy w b sb mb c A l S q svA svc rows wt r W f)(hb:Below W.heap.size W W'):qy w b sb mb c A l S q svA svc rows wt r W' f:=
 ⟨h.bl.trans (hb.mono h.bl.size),h.lo,(hb.block _ (jS h.r2)).trans h.r2,(hb.block _ h.qlt).trans h.r8,h.sv.keep (aA hb),h.rw.but (X:=fun _=>False) (.of_below hb) (fun g k=>k.elim) h.lo.2.1 (by have:=h.lo;omega),h.ms.later hb,h.wl⟩
theorem qy.memo(h:qy w b sb mb c A l S q svA svc rows wt r W f)(hg:W.grownBy W' (some mb))(hm:MSt b sb mb c A l S (OwnT q (rows.map (·.2))) W' f'):qy w b sb mb c A l S q svA svc rows wt r W' f':=by
 have hlo:=h.lo
 exact⟨h.bl.trans (below_grown hg (by omega) h.bl.size),h.lo,ay hg h.r2 (by omega),ay hg h.r8 (by omega),h.sv.keep (fun g hg2 hl=>hg.block g hl (fun e=>by injection e;omega)),h.rw.but (X:=fun g=>g=mb) (.bE hg rfl) (fun g k=>Or.inr (Or.inr (Or.inl k))) hlo.2.1 (by omega),hm,h.wl⟩
theorem qy.field(h:qy w b sb mb c A l S q svA svc rows wt r W f)(k:Nat)(u:Value){wt':Nat}(hw:wt'<65536):qy w b sb mb c A l S q svA svc rows wt' (r.setIfInBounds k u) (W.setCell ⟨q,k,none⟩ u) f:=by
 have hlo:=h.lo
 have hbut:But (fun g=>g=q) W (W.setCell ⟨q,k,none⟩ u):=(But.refl (fun g=>g=q) W).setCell (b:=q) rfl k u
 have hq:=h.qlt
 exact⟨h.bl.setCell (p:=⟨q,k,none⟩) (show w.heap.size≤q by omega) _,h.lo,(hbut.block _ (by omega) (jS h.r2)).trans h.r2,aF h.r8 (i:=k) u,h.sv.keep (fun g hg hl=>hbut.block g (by omega) hl),h.rw.but hbut (fun g e=>Or.inr (Or.inl e)) hlo.2.1 (by omega),h.ms.but (hbut.mono (fun g e=>Or.inl e)),hw⟩
theorem qy.grow(h:qy w b sb mb c A l S q svA svc rows wt r W f)(i:Nat){s:um × Value}(hi:rows[i]?=some s)(Q':um)(v':Value)(hst:kW (q+1) Q')(hg:W.grownBy W' s.2.ownBlock)(hv:v'.ownBlock=s.2.ownBlock∨∃g,W.heap.size≤g∧v'.ownBlock=some g)
  (hQ:Q' W' (ny w.heap.size q mb ((rows.set i (Q',v')).map (·.2))) v'):qy w b sb mb c A l S q svA svc (rows.set i (Q',v')) wt r W' f:=by
 have hlo:=h.lo
 have hq:=h.qlt
 have hsl:∀g,s.2.ownBlock=some g→q+1≤g:=fun g e=>((h.rw.st s (List.mem_of_getElem? hi)).lt (h.rw.rq s (List.mem_of_getElem? hi)) g e).1
 have hbut:But (fun g=>s.2.ownBlock=some g) W W':=⟨hg.os,hg.tape,hg.output,hg.size,fun g hne hl=>hg.block g hl (fun e=>hne e.symm)⟩
 have hil:i<rows.length:=(List.getElem?_eq_some_iff.1 hi).1
 have hsm:s.2∈rows.map (·.2):=List.mem_map.2 ⟨s,List.mem_of_getElem? hi,rfl⟩
 refine⟨h.bl.trans (hbut.below (fun g e=>by have:=hsl g e;omega) h.bl.size),h.lo,(hbut.block _ (fun e=>by have:=hsl _ e;omega) (jS h.r2)).trans h.r2,(hbut.block _ (fun e=>by have:=hsl _ e;omega) hq).trans h.r8,h.sv.keep (fun g hg2 hl=>hbut.block g (fun e=>by have:=hsl _ e;omega) hl),h.rw.grow (by omega) hlo.2.1 hq i hi Q' v' hst hg hv hQ,?_,h.wl⟩
 have hmlt:=h.ms.lt
 have hwlt:=h.ms.wd.lt
 have h1:=h.ms.mono (T':=fun g=>OwnT q (rows.map (·.2)) g∨(W.heap.size≤g∧v'.ownBlock=some g)) (fun g k hl=>k.elim id (fun e=>by omega)) (fun g k=>k.elim (h.ms.th g) (fun e=>by omega))
 have h2:=h1.but (hbut.mono (fun g e=>Or.inl (Or.inr ⟨s.2,hsm,e⟩)))
 have hin:∀g,OwnT q ((rows.set i (Q',v')).map (·.2)) g→OwnT q (rows.map (·.2)) g∨(W.heap.size≤g∧v'.ownBlock=some g):=by
  intro g k
  rcases k with k|⟨u,hu,hug⟩
  ·exact Or.inl (Or.inl k)
  ·obtain⟨t,ht,rfl⟩:=List.mem_map.1 hu
   rcases List.mem_or_eq_of_mem_set ht with ht|rfl
   ·exact Or.inl (Or.inr ⟨t.2,List.mem_map.2 ⟨t,ht,rfl⟩,hug⟩)
   ·rcases hv with e|⟨g2,h3,e⟩
    ·exact Or.inl (Or.inr ⟨s.2,hsm,e.symm.trans hug⟩)
    ·have e3:v'.ownBlock=some g:=hug
     rw[e] at e3
     injection e3 with e3
     exact Or.inr ⟨by omega,hug⟩
 exact h2.mono (fun g k _=>hin g k) (fun g k=>h1.th g (hin g k))
end
end
section
open Go.RowKit
structure rZ(l:List Dc)(k:Nat)(acc:List BF):Prop where
 each:∀i (hi:i<l.length),i<k→l[i].kind=4→∃x∈acc,CfOk l l[i] x
 back:∀x∈acc,∃d∈l,d.kind=4∧CfOk l d x
 len:acc.length≤k
 cnt:acc.length=dR 4 (l.take k)
def xP(lo n:Nat):um:=fun W _ v=>∃a:List (ByteArray × Nat),W.ownsRow lo 90 2 v a.length (mP a)∧a.length≤n
def Ea(l:List Dc)(lo k:Nat):um:=fun W D v=>∃acc,dZ eH W D lo 54 6 v acc∧rZ l k acc
def BH(lo n:Nat):um:=fun W D v=>∃acc,dZ oh W D lo 93 3 v acc∧acc.length≤n
def FW(lo n:Nat):um:=fun W _ v=>∃a:List Int,W.ownsRow lo 3 1 v a.length (bY a)∧a.length≤n
theorem Ca(lo n:Nat):kW lo (xP lo n):=Gh lo 90 2 (fun a:List (ByteArray × Nat)=>(a.length,mP a)) (fun a=>a.length≤n)
theorem GQ(l:List Dc)(lo k:Nat):kW lo (Ea l lo k):=Gg jL lo 54 6 (rZ l k)
theorem Bw(lo n:Nat):kW lo (BH lo n):=Gg ji lo 93 3 (fun a=>a.length≤n)
theorem AX(lo n:Nat):kW lo (FW lo n):=Gh lo 3 1 (fun a:List Int=>(a.length,bY a)) (fun a=>a.length≤n)
def rowsOf(l:List Dc)(q k j:Nat)(v0 v1 v2 v3:Value):List (um × Value):=[(xP (q+1) k,v0),(Ea l (q+1) k,v1),(BH (q+1) k,v2),(FW (q+1) j,v3)]
theorem jM(l:List Dc)(q k j:Nat)(v0 v1 v2 v3:Value):∀r∈rowsOf l q k j v0 v1 v2 v3,kW (q+1) r.1:=by
 intro r hr
 simp only[rowsOf,List.mem_cons,List.not_mem_nil,or_false] at hr
 rcases hr with rfl|rfl|rfl|rfl
 ·exact Ca _ _
 ·exact GQ _ _ _
 ·exact Bw _ _
 ·exact AX _ _
section
variable {w:World} {b sb mb c:Nat} {A:Option Addr} {l:List Dc} {S:Nat→Prop} {q:Nat} {svA:Option Addr} {svc:Nat} {wt:Nat} {r:Array Value} {W W':World} {f:ByteArray→Option Value} {k j:Nat} {v0 v1 v2 v3:Value}
theorem qy.weak{rows rows':List (um × Value)}(h:qy w b sb mb c A l S q svA svc rows wt r W f)(hm:rows'.map (·.2)=rows.map (·.2))(hst:∀s∈rows',kW (q+1) s.1)
  (hq:∀(i:Nat)(s s':um × Value),rows[i]?=some s→rows'[i]?=some s'→∀D,s.1 W D s.2→s'.1 W D s.2):qy w b sb mb c A l S q svA svc rows' wt r W f:=by
 have hget:∀(i:Nat)(s':um × Value),rows'[i]?=some s'→∃s,rows[i]?=some s∧s.2=s'.2:=by
  intro i s' hs
  have h1:(rows'.map (·.2))[i]?=some s'.2:=by rw[List.getElem?_map,hs];rfl
  rw[hm,List.getElem?_map] at h1
  cases e:rows[i]? with
  |none=>rw[e] at h1;cases h1
  |some s=>rw[e] at h1;exact⟨s,rfl,Option.some.inj h1⟩
 refine⟨h.bl,h.lo,h.r2,h.r8,h.sv,⟨fun s' hs=>?_,hst,fun i j s t hi hj hij g hs ht=>?_⟩,by rw[hm];exact h.ms,h.wl⟩
 ·obtain⟨i,hi⟩:=List.getElem?_of_mem hs
  obtain⟨s,hs1,hs2⟩:=hget i s' hi
  rw[hm,←hs2]
  exact hq i s s' hs1 hi _ (h.rw.rq s (List.mem_of_getElem? hs1))
 ·obtain⟨s1,h1,e1⟩:=hget i s hi
  obtain⟨t1,h2,e2⟩:=hget j t hj
  exact h.rw.dj i j s1 t1 h1 h2 hij g (e1▸hs) (e2▸ht)
theorem CK(hi:k<l.length):dR 4 (l.take (k+1))=dR 4 (l.take k)+if l[k].kind=4 then 1 else 0:=by
 unfold dR
 rw[cO hi,List.countP_append,List.countP_singleton]
 simp
theorem xI{acc:List BF}(h:rZ l k acc)(hk:∀hi:k<l.length,l[k].kind≠4):rZ l (k+1) acc:=
 ⟨fun i hi h1 h4=>by
  by_cases e:i<k
  ·exact h.each i hi e h4
  ·obtain rfl:i=k:=by omega
   exact absurd h4 (hk hi),h.back,by have:=h.len;omega,by
  by_cases hi:k<l.length
  ·rw[CK hi,if_neg (hk hi),h.cnt];rfl
  ·rw[h.cnt,List.take_of_length_le (by omega),List.take_of_length_le (by omega)]⟩
theorem qy.next(h:qy w b sb mb c A l S q svA svc (rowsOf l q k j v0 v1 v2 v3) wt r W f)(hk:∀hi:k<l.length,l[k].kind≠4):qy w b sb mb c A l S q svA svc (rowsOf l q (k+1) j v0 v1 v2 v3) wt r W f:=by
 refine h.weak rfl (jM _ _ _ _ _ _ _ _) (fun i s s' hs hs' D=>?_)
 match i,hs,hs' with
 |0,hs,hs'=>cases hs;cases hs';exact fun⟨a,h1,h2⟩=>⟨a,h1,by omega⟩
 |1,hs,hs'=>cases hs;cases hs';exact fun⟨a,h1,h2⟩=>⟨a,h1,xI h2 hk⟩
 |2,hs,hs'=>cases hs;cases hs';exact fun⟨a,h1,h2⟩=>⟨a,h1,by omega⟩
 |3,hs,hs'=>cases hs;cases hs';exact id
 |i+4,hs,hs'=>simp[rowsOf] at hs
theorem qy.own(h:qy w b sb mb c A l S q svA svc (rowsOf l q k j v0 v1 v2 v3) wt r W f):∀g,OwnT q [v0,v1,v2,v3] g→g<W.heap.size:=by
 intro g hg
 rcases hg with rfl|⟨v,hv,hvg⟩
 ·exact h.qlt
 ·have:v∈(rowsOf l q k j v0 v1 v2 v3).map (·.2):=hv
  obtain⟨s,hs,rfl⟩:=List.mem_map.1 this
  exact ((h.rw.st s hs).lt (h.rw.rq s hs) g hvg).2
theorem FJ{vs:List Value}{X:Nat}(h:qy w b sb mb c A l S q svA svc (rowsOf l q k j v0 v1 v2 v3) wt r W f)(hvs:∀v∈vs,(∃u∈[v0,v1,v2,v3],v.ownBlock=u.ownBlock)∨∃g,X≤g∧v.ownBlock=some g){g:Nat}(hg:W.heap.size≤g)(hgX:g<X):ny w.heap.size q mb vs g:=by
 have hlo:=h.lo
 have hq:=h.qlt
 refine⟨by omega,fun k=>?_,by omega⟩
 rcases k with k|k|⟨v,hv,hvg⟩
 ·omega
 ·omega
 ·rcases hvs v hv with ⟨u,hu,e⟩|⟨g2,h2,e⟩
  ·have:=h.own g (Or.inr ⟨u,hu,by rw[←e];exact hvg⟩)
   omega
  ·rw[e] at hvg;injection hvg with hvg;omega
end
end
section
open Go.RowKit
open _root_.Go.Proofs.Tryz
theorem op_site2(w:World){o:Oper}{a:Act}{K:Act→World→Prop}{Q:Exit→Act→World→Prop}(s x:Operand)
  (ho:o.op=.call { callee:=.builtin .append,args:=#[s,x],argTypes:=#[44,44] })
  (base:Nat) (v:Value) (n:Nat) (xs:List Value) (hown:w.ownsRow base 90 2 v n xs) (hs:a.eval s=v)
  (g cc:Nat) (u:ByteArray) (k:Int)
  (hblk:w.heap[g]?=some (.cells #[.string u,.int .u16 k] 90 (0,0))) (hx:a.eval x=.slice (some ⟨g,0,none⟩) 1 cc)
  (hlim:n≤1000000000) (hbase:base≤w.heap.size)
  (h:∀v' w',w'.ownsRow base 90 2 v' (n+1) (xs++[.string u,.int .u16 k])→w.grownBy w' v.ownBlock→(v'.ownBlock=v.ownBlock∨∃g,w.heap.size≤g∧v'.ownBlock=some g)→K (a.put o.dst v') w'):Oper.wp prog o a w K Q:=by
 obtain⟨i0,hi,hz0,hz1,hz2⟩:=info_parts info_site
 have hcell:∀j u',[Value.string u,.int .u16 k][j]?=some u'→w.cell? ((⟨g,0,none⟩:Addr).add j)=some u':=by
  intro j u' hu
  have hadd:(⟨g,0,none⟩:Addr).add j=⟨g,j,none⟩:=by unfold Addr.add;split<;>simp_all
  rw[hadd,j5 _ g j _ _ (0,0) hblk]
  simpa using hu
 exact wp_append_lies w s x _ ho base 90 i0 _ 2 24 underlying44 hi hz0 hz1 hz2 rfl (by decide) v n xs hs hown ⟨g,0,none⟩ 1 cc _ hx rfl hcell (by simp[Value.oneCell']) (by omega) (by unfold maxLen;omega) (by omega) hbase w.heap.size rfl (fun g' cap w' h2 h3 h4 _=>h _ w' h2 h3 (h4.elim (fun e=>Or.inl e.symm) (fun e=>Or.inr ⟨g',by omega,rfl⟩)))
theorem op_int2(w:World){o:Oper}{a:Act}{K:Act→World→Prop}{Q:Exit→Act→World→Prop}(s x:Operand)
  (ho:o.op=.call { callee:=.builtin .append,args:=#[s,x],argTypes:=#[23,23] })
  (base:Nat) (v:Value) (n:Nat) (xs:List Value) (hown:w.ownsRow base 3 1 v n xs) (hs:a.eval s=v)
  (g cc:Nat) (k:Int)
  (hblk:w.heap[g]?=some (.cells #[.int .i64 k] 3 (0,0))) (hx:a.eval x=.slice (some ⟨g,0,none⟩) 1 cc)
  (hlim:n≤1000000000) (hbase:base≤w.heap.size)
  (h:∀v' w',w'.ownsRow base 3 1 v' (n+1) (xs++[.int .i64 k])→w.grownBy w' v.ownBlock→(v'.ownBlock=v.ownBlock∨∃g,w.heap.size≤g∧v'.ownBlock=some g)→K (a.put o.dst v') w'):Oper.wp prog o a w K Q:=by
 obtain⟨i0,hi,hz0,hz1,hz2⟩:=info_parts Gw
 have hcell:∀j u',[Value.int .i64 k][j]?=some u'→w.cell? ((⟨g,0,none⟩:Addr).add j)=some u':=by
  intro j u' hu
  have hadd:(⟨g,0,none⟩:Addr).add j=⟨g,j,none⟩:=by unfold Addr.add;split<;>simp_all
  rw[hadd,j5 _ g j _ _ (0,0) hblk]
  simpa using hu
 exact wp_append_lies w s x _ ho base 3 i0 _ 1 8 underlying23 hi hz0 hz1 hz2 rfl (by decide) v n xs hs hown ⟨g,0,none⟩ 1 cc _ hx rfl hcell (by simp[Value.oneCell']) (by omega) (by unfold maxLen;omega) (by omega) hbase w.heap.size rfl (fun g' cap w' h2 h3 h4 _=>h _ w' h2 h3 (h4.elim (fun e=>Or.inl e.symm) (fun e=>Or.inr ⟨g',by omega,rfl⟩)))
theorem Fb:(prog.info? 93).map (fun i=>(i.zero,i.size,i.bytes))=some (some (.agg #[.string ByteArray.empty,.bool false,.slice none 0 0]),3,48):=by kernel_rfl
theorem vU(w:World){ops:Array Oper}{rest:List Oper}{o:Oper}{a:Act}{Q:Exit→Act→World→Prop}(hgd:o.guard=none)(s x:Operand)
  (ho:o.op=.call { callee:=.builtin .append,args:=#[s,x],argTypes:=#[46,46] })
  (base:Nat) (v:Value) (n:Nat) (xs:List Value) (hown:w.ownsRow base 93 3 v n xs) (hs:a.eval s=v)
  (nm:ByteArray) (pl:Bool) (fA:Option Addr) (fn fc:Nat) (hx:a.eval x=.slice (some ⟨w.heap.size,0,none⟩) 1 1)
  (hlim:n≤100000000000) (hbase:base≤w.heap.size)
  (h:∀v' w',w'.ownsRow base 93 3 v' (n+1) (xs++[.string nm,.bool pl,.slice fA fn fc])→w.grownBy w' v.ownBlock→(v'.ownBlock=v.ownBlock∨v'.ownBlock=some (w.heap.size+1))→wpList prog ops Q rest (a.put o.dst v') w'):
  wpList prog ops Q (o::rest) a (w.alloc (.cells #[.string nm,.bool pl,.slice fA fn fc] 93)):=by
 obtain⟨i0,hi,hz0,hz1,hz2⟩:=info_parts Fb
 exact eB w hgd s x _ ho base 93 i0 _ 3 48 underlying46 hi hz0 hz1 hz2 rfl (by decide) v n xs hown hs [.string nm,.bool pl,.slice fA fn fc] hx rfl (by simp[Value.oneCell']) (by omega) (by omega) hbase h
theorem decl_two{l:List Dc}(hc:(bf l).2=0):l.length * 2≤(l.map aW).sum∧∀d∈l,d.names.length * 2≤aW d:=by
 have hk:=(dW hc).1
 have hnm:∀d∈l,d.names.length * 2≤aZ d.names:=fun d hd=>by
  have h1:=(hk d hd).names
  unfold dQ at h1
  unfold aZ
  generalize d.names=L at h1
  induction L with
  |nil=>simp
  |cons a r ih=>
   rw[List.all_cons,Bool.and_eq_true] at h1
   have h2:=(kP h1.1).2
   have h3:=ih h1.2
   rw[List.map_cons,List.sum_cons,fM]
   omega
 have e1:∀d:Dc,aW d=d.name.size+aZ d.names+(d.faults.map dJ).sum+ax d.term+d.proto.size+ax d.read+ax d.write+d.use.size+1:=fun _=>rfl
 have two:∀d∈l,2≤aW d:=fun d hd=>by
  have h:=hk d hd
  have h1:=h.hname
  have h2:=h.hnames
  have h3:=hnm d hd
  have h4:=e1 d
  rcases xA h with e|e|e|e|e|e|e<;>rw[e] at h1 h2
  all_goals first
   |have h5:¬d.name.size=0:=fun h0=>absurd h1 (by rw[h0];decide)
    omega
   |have h5:¬d.names.length=0:=fun h0=>absurd h2 (by rw[h0];decide)
    omega
 refine⟨?_,fun d hd=>by have:=hnm d hd;have:=e1 d;omega⟩
 clear hnm e1 hk hc
 induction l with
 |nil=>simp
 |cons a r ih=>
  rw[List.map_cons,List.sum_cons,fM]
  have:=two a (by simp)
  have:=ih (fun d hd=>two d (by simp[hd]))
  omega
theorem cfg_test2(x:BF)(v:Value)(n:ByteArray)(p:Nat)(w:World)(S:Nat→Prop)(hx:eH w S x v)(hp:w.heap[p]?=some (.cells #[.string n] 9 (0,0))):
  Calls prog 43 #[v,.pointer (some ⟨p,0,none⟩)] w fun e w'=>e=.returned (.bool (x.name==n))∧Below w.heap.size w w':=by
 obtain⟨rA,rc,wA,wc,fA,fc,rfl,-⟩:=hx
 obtain⟨W,hW⟩:=kE (w.alloc (.cells #[.string x.name,.int .i64 x.kind,.int .u16 (x.mem:Nat),.slice rA x.read.length rc,.slice wA x.write.length wc,.slice fA x.faults.length fc] 54))
 have hb:Below w.heap.size w W:=by rw[hW];exact (jQ _ _).alloc (aP _) _
 have hr:W.heap[w.heap.size]?=some (.cells #[.string x.name,.int .i64 x.kind,.int .u16 (x.mem:Nat),.slice rA x.read.length rc,.slice wA x.write.length wc,.slice fA x.faults.length fc] 54 (0,0)):=by rw[hW];exact jR _ _
 have c0:=ah hr 0 _ rfl
 have c1:=ah ((hb.block _ (jS hp)).trans hp) 0 _ rfl
 have H1:=jI hW
 have HB:=jI hb
 clear hW hb hr hp
 go_enter func43,ntmps43
 go_upto_region 1 with fail
 rw[←H1.out]
 go_wp2
 go_ret
 exact⟨by rw[←ba_eqd];rfl,HB.out⟩
def OfG(l:List Dc):Prop:=(bf l).2=0∧(∀d∈l,d.kind=4→CfG l d)∧∀d∈l,d.kind≠6
def zDep:DDep:=⟨[],[],0,[],[],[]⟩
theorem Ec(w:World)(S:Nat→Prop):xV w S zDep (.agg Eb):=⟨none,0,none,0,none,0,none,0,none,0,rfl,.empty _ _ _ _,.empty _ _ _ _,.empty _ _ _ _ _,.empty _ _ _ _,.empty _ _ _ _ _⟩
def OfW(l:List Dc)(w:World)(e:Ending)(w':World):Prop:=
 ∃(x:DDep)(v:Value)(ln:Int)(er:Nat),e=.returned (.tuple #[v,.int .i64 ln,.int .i64 (er:Nat)])∧xV w' (w.heap.size<·) x v∧((er=0→ln=0∧(bf l).2=0∧x.servers=ai l∧rZ l l.length x.gI)∧(OfG l→er=0))∧DLim x∧Below w.heap.size w w'
theorem zR:DLim zDep:=⟨cu _,cu _,cu _,cu _,cu _,fun x hx=>by (cases hx)⟩
section
variable {w:World} {b sb mb c:Nat} {A:Option Addr} {l:List Dc} {S:Nat→Prop} {q:Nat} {svA:Option Addr} {svc:Nat} {wt:Nat} {r:Array Value} {W Z:World} {f:ByteArray→Option Value} {k j:Nat} {v0 v1 v2 v3:Value}
theorem qy.forms(h:qy w b sb mb c A l S q svA svc (rowsOf l q k j v0 v1 v2 v3) wt r W f):(∃A m c,v0=.slice A m c∧m≤k)∧(∃A m c,v1=.slice A m c∧m≤k)∧(∃A m c,v2=.slice A m c∧m≤k)∧∃A m c,v3=.slice A m c∧m≤j:=by
 obtain⟨a0,h0,l0⟩:xP (q+1) k W (ny w.heap.size q mb [v0,v1,v2,v3]) v0:=h.rw.rq (xP (q+1) k,v0) (by simp[rowsOf])
 obtain⟨a1,h1,l1⟩:Ea l (q+1) k W (ny w.heap.size q mb [v0,v1,v2,v3]) v1:=h.rw.rq (Ea l (q+1) k,v1) (by simp[rowsOf])
 obtain⟨a2,h2,l2⟩:BH (q+1) k W (ny w.heap.size q mb [v0,v1,v2,v3]) v2:=h.rw.rq (BH (q+1) k,v2) (by simp[rowsOf])
 obtain⟨a3,h3,l3⟩:FW (q+1) j W (ny w.heap.size q mb [v0,v1,v2,v3]) v3:=h.rw.rq (FW (q+1) j,v3) (by simp[rowsOf])
 obtain⟨A0,c0,e0,-⟩:=aD h0
 obtain⟨A1,c1,e1,-⟩:=h1.list jL
 obtain⟨A2,c2,e2,-⟩:=h2.list ji
 obtain⟨A3,c3,e3,-⟩:=aD h3
 exact⟨⟨A0,_,c0,e0,l0⟩,⟨A1,_,c1,e1,l1.len⟩,⟨A2,_,c2,e2,l2⟩,⟨A3,_,c3,e3,l3⟩⟩
theorem qy.dep(h:qy w b sb mb c A l S q svA svc (rowsOf l q k j v0 v1 v2 v3) wt r W f)(hb:But (fun g=>g=w.heap.size) W Z)(hk:k=l.length)(hk5:k≤550000)(hj:j≤600000){n:Nat}(hn:n=(ai l).length)(h12:n≤12):
  ∃x:DDep,xV Z (w.heap.size<·) x (.agg #[.slice svA n svc,v0,.int .u16 (wt:Nat),v1,v3,v2])∧x.servers=ai l∧rZ l l.length x.gI∧DLim x:=by
 have hlo:=h.lo
 obtain⟨a0,h0,l0⟩:xP (q+1) k W (ny w.heap.size q mb [v0,v1,v2,v3]) v0:=h.rw.rq (xP (q+1) k,v0) (by simp[rowsOf])
 obtain⟨a1,h1,l1⟩:Ea l (q+1) k W (ny w.heap.size q mb [v0,v1,v2,v3]) v1:=h.rw.rq (Ea l (q+1) k,v1) (by simp[rowsOf])
 obtain⟨a2,h2,l2⟩:BH (q+1) k W (ny w.heap.size q mb [v0,v1,v2,v3]) v2:=h.rw.rq (BH (q+1) k,v2) (by simp[rowsOf])
 obtain⟨a3,h3,l3⟩:FW (q+1) j W (ny w.heap.size q mb [v0,v1,v2,v3]) v3:=h.rw.rq (FW (q+1) j,v3) (by simp[rowsOf])
 obtain⟨A0,c0,rfl,-⟩:=aD h0
 obtain⟨A1,c1,rfl,-,hl1⟩:=h1.list jL
 obtain⟨A2,c2,rfl,-,hl2⟩:=h2.list ji
 obtain⟨A3,c3,rfl,-⟩:=aD h3
 have hK:Kept (w.heap.size<·) W Z:=fun g hg hl=>hb.block g (by omega) hl
 have up:∀{α:Type}{P:World→(Nat→Prop)→α→Value→Prop}{m:Nat}{B:Option Addr}{acc:List α},qp P→0<m→aO (P W (ny w.heap.size q mb [.slice A0 a0.length c0,.slice A1 a1.length c1,.slice A2 a2.length c2,.slice A3 a3.length c3])) W (q+1≤·) m B acc→aO (P Z (w.heap.size<·)) Z (w.heap.size<·) m B acc:=fun hP hm hl=>by
  obtain⟨vs,e1,e2,e3⟩:=hl
  exact⟨vs,e1,(e2.mono (S':=(w.heap.size<·)) (fun g hg _=>by omega) hm).keep hK,fun i x v hx hv=>hP.keep (hP.mono (e3 i x v hx hv) (fun g hg _=>hg.1)) hK⟩
 refine⟨⟨ai l,a0,wt,a1,a3,a2⟩,⟨svA,svc,A0,c0,A1,c1,A3,c3,A2,c2,by rw[hn],(h.sv.mono (S':=(w.heap.size<·)) (fun g hg _=>by omega) (by decide)).keep hK,((ak.own h0).mono (S':=(w.heap.size<·)) (fun g hg _=>by omega) (by decide)).keep hK,up jL (by decide) hl1,((ak.own h3).mono (S':=(w.heap.size<·)) (fun g hg _=>by omega) (by decide)).keep hK,up ji (by decide) hl2⟩,rfl,by rw[←hk];exact l1,?_⟩
 refine⟨by show (ai l).length≤_;omega,by show a0.length≤_;omega,by show a1.length≤_;have:=l1.len;omega,by show a3.length≤_;omega,by show a2.length≤_;omega,fun x hx=>?_⟩
 obtain⟨d,-,-,hd⟩:=l1.back x hx
 have e1:=hd.lim.1
 have e2:=hd.lim.2.1.1
 have e3:=hd.lim.2.2.1
 omega
end
theorem Cs{l:List Dc}{q k j:Nat}{v0 v1 v2 v3 u:Value}{W:World}(i:Nat)(s s':um × Value)(hs:((rowsOf l q k j v0 v1 v2 u).set 3 (FW (q+1) (j+1),v3))[i]?=some s)(hs':(rowsOf l q k (j+1) v0 v1 v2 v3)[i]?=some s')(D:Nat→Prop)(h:s.1 W D s.2):s'.1 W D s.2:=by
 match i,hs,hs' with
 |0,hs,hs'=>cases hs;cases hs';exact h
 |1,hs,hs'=>cases hs;cases hs';exact h
 |2,hs,hs'=>cases hs;cases hs';exact h
 |3,hs,hs'=>cases hs;cases hs';exact h
 |i+4,hs,hs'=>simp[rowsOf] at hs
theorem Ct{l:List Dc}{q k j:Nat}{v0 v1 v2 v3 u:Value}{W:World}(hk:∀hi:k<l.length,l[k].kind≠4)(i:Nat)(s s':um × Value)(hs:((rowsOf l q k j v0 v1 u v3).set 2 (BH (q+1) (k+1),v2))[i]?=some s)(hs':(rowsOf l q (k+1) j v0 v1 v2 v3)[i]?=some s')(D:Nat→Prop)(h:s.1 W D s.2):s'.1 W D s.2:=by
 match i,hs,hs' with
 |0,hs,hs'=>cases hs;cases hs';obtain⟨a,h1,h2⟩:=h;exact⟨a,h1,by omega⟩
 |1,hs,hs'=>cases hs;cases hs';obtain⟨a,h1,h2⟩:=h;exact⟨a,h1,xI h2 hk⟩
 |2,hs,hs'=>cases hs;cases hs';exact h
 |3,hs,hs'=>cases hs;cases hs';exact h
 |i+4,hs,hs'=>simp[rowsOf] at hs
theorem FI{p q mb:Nat}{rows:List (um × Value)}{i:Nat}{r:um × Value}{Q':um}{v':Value}(hi:rows[i]?=some r){X:Nat}(hv:v'.ownBlock=r.2.ownBlock∨∃g,X≤g∧v'.ownBlock=some g){g:Nat}(hg:ny p q mb (rows.map (·.2)) g)(hl:g<X):ny p q mb ((rows.set i (Q',v')).map (·.2)) g:=by
 refine⟨hg.1,fun k=>?_,hg.2.2⟩
 rcases k with k|k|⟨v,hv2,hvg⟩
 ·exact hg.2.1 (Or.inl k)
 ·exact hg.2.1 (Or.inr (Or.inl k))
 ·obtain⟨s,hs,rfl⟩:=List.mem_map.1 hv2
  rcases List.mem_or_eq_of_mem_set hs with hs|rfl
  ·exact hg.2.1 (Or.inr (Or.inr ⟨s.2,List.mem_map.2 ⟨s,hs,rfl⟩,hvg⟩))
  ·rcases hv with e|⟨g2,h2,e⟩
   ·exact hg.2.1 (Or.inr (Or.inr ⟨r.2,List.mem_map.2 ⟨r,List.mem_of_getElem? hi,rfl⟩,e.symm.trans hvg⟩))
   ·have e3:v'.ownBlock=some g:=hvg
    rw[e] at e3
    injection e3 with e3
    omega
theorem cfgs_snoc{l:List Dc}{k:Nat}(hk:k<l.length)(h4:l[k].kind=4){acc:List BF}(h:rZ l k acc){x:BF}(hx:CfOk l l[k] x):rZ l (k+1) (acc++[x]):=
 ⟨fun i hi h1 h2=>by
  by_cases e:i<k
  ·obtain⟨y,hy,hy2⟩:=h.each i hi e h2
   exact⟨y,dO _ hy,hy2⟩
  ·obtain rfl:i=k:=by omega
   exact⟨x,by simp,hx⟩,fun y hy=>by
  rcases List.mem_append.1 hy with hy|hy
  ·exact h.back y hy
  ·obtain rfl:y=x:=by simpa using hy
   exact⟨l[k],bQ hk,h4,hx⟩,by rw[bD];have:=h.len;simp;omega,by rw[CK hk,if_pos h4,bD,h.cnt];rfl⟩
theorem next_row1{l:List Dc}{q k j:Nat}{v0 v1 v2 v3 u:Value}{W:World}(i:Nat)(s s':um × Value)(hs:((rowsOf l q k j v0 u v2 v3).set 1 (Ea l (q+1) (k+1),v1))[i]?=some s)(hs':(rowsOf l q (k+1) j v0 v1 v2 v3)[i]?=some s')(D:Nat→Prop)(h:s.1 W D s.2):s'.1 W D s.2:=by
 match i,hs,hs' with
 |0,hs,hs'=>cases hs;cases hs';obtain⟨a,h1,h2⟩:=h;exact⟨a,h1,by omega⟩
 |1,hs,hs'=>cases hs;cases hs';exact h
 |2,hs,hs'=>cases hs;cases hs';obtain⟨a,h1,h2⟩:=h;exact⟨a,h1,by omega⟩
 |3,hs,hs'=>cases hs;cases hs';exact h
 |i+4,hs,hs'=>simp[rowsOf] at hs
theorem next_row{l:List Dc}{q k j:Nat}{v0 v1 v2 v3:Value}{W:World}(hk:∀hi:k<l.length,l[k].kind≠4)(i:Nat)(s s':um × Value)(hs:((rowsOf l q k j v0 v1 v2 v3).set 0 (xP (q+1) (k+1),v0))[i]?=some s)(hs':(rowsOf l q (k+1) j v0 v1 v2 v3)[i]?=some s')(D:Nat→Prop)(h:s.1 W D s.2):s'.1 W D s.2:=by
 match i,hs,hs' with
 |0,hs,hs'=>cases hs;cases hs';exact h
 |1,hs,hs'=>cases hs;cases hs';obtain⟨a,h1,h2⟩:=h;exact⟨a,h1,xI h2 hk⟩
 |2,hs,hs'=>cases hs;cases hs';obtain⟨a,h1,h2⟩:=h;exact⟨a,h1,by omega⟩
 |3,hs,hs'=>cases hs;cases hs';exact h
 |i+4,hs,hs'=>simp[rowsOf] at hs
theorem Ae(l:List (ByteArray × Nat))(p:ByteArray × Nat):mP (l++[p])=mP l++[.string p.1,.int .u16 (p.2:Nat)]:=by
 unfold mP
 rw[List.flatMap_append]
 rfl
theorem ofW(l:List Dc)(A:Option Addr)(c:Nat)(w:World)(S:Nat→Prop)(hl:aO (dS w S) w S 22 A l)(hS:∀g,S g→g<w.heap.size)(hsz:(l.map aW).sum≤1100000)(hpw:Pow w)(hz:Tz w):
  Calls prog 12 #[.slice A l.length c] w (OfW l w):=by
 have hbA:∀(W:World)(o:Obj),Below W.heap.size W (W.alloc o):=fun W o=>(jQ _ _).alloc (aP _) o
 have hLS:=fun(W:World)(hW:Below w.heap.size w W)=>(⟨hl.keep (P':=dS W S) (aj hW hS) (fun _ _ h=>h.keep (aj hW hS)),fun g hg=>by have:=hS g hg;have:=hW.size;omega⟩:aO (dS W S) W S 22 A l∧∀g,S g→g<W.heap.size)
 have HLS:=jI hLS
 have HCK:=jI (fun(W:World)(hW:Below w.heap.size w W)=>check25 l A c W S (hLS W hW).1 (hLS W hW).2 hsz (hpw.below hW))
 have hlen:=gY l
 obtain⟨W0,hW0⟩:=kE (w.alloc (.cells Eb 48))
 have hb0:Below w.heap.size w W0:=by rw[hW0];exact hbA _ _
 have hr0:W0.heap[w.heap.size]?=some (.cells Eb 48 (0,0)):=by rw[hW0];exact jR _ _
 have H0:=jI hW0
 have HR0:=jI hr0
 have zk:=jS hr0
 by_cases hc:(bf l).2=0
 rotate_left
 ·obtain⟨l1,hl1⟩:=kE ((bf l).1)
  obtain⟨l2,hl2⟩:=kE ((bf l).2)
  rw[←hl2] at hc
  simp only[←hl1,←hl2] at HCK
  have heI:((l2:Int) != 0)=true:=by simpa using hc
  have I7:¬(l2:Int)=0:=by omega
  have HL2:=jI hl2
  clear hl1 hl2 hW0 hr0 hl hz hpw hLS
  go_enter func12,ntmps12
  go_wp2_with fail
  rw[←H0.out]
  refine (HCK.out W0 hb0).mono ?_
  rintro e w1 ⟨rfl,hb1⟩
  have r1:=(hb1.block _ zk).trans HR0.out
  obtain⟨⟨z0,z1,z2,z3,z4,z5⟩,hfz⟩:=jk r1
  have f0:=hfz 0
  have f1:=hfz 1
  have f2:=hfz 2
  have f3:=hfz 3
  have f4:=hfz 4
  have f5:=hfz 5
  obtain⟨Z,hZ,hz1,hz2⟩:=H8 r1 (.slice none 0 0) (.slice none 0 0) (.int .u16 0) (.slice none 0 0) (.slice none 0 0) (.slice none 0 0)
  have HZ:=jI hZ
  have HZ1:=jI hz1
  have HZ2:=jI hz2
  have HB1:=jI (hb0.trans (hb1.mono hb0.size))
  clear hZ hz1 hz2 r1 hb1 hfz
  go_wp2
  rw[←HZ.out]
  refine oJ rfl rfl rfl rfl rfl HZ1.out rfl ?_
  exact⟨zDep,_,l1,l2,rfl,Ec _ _,⟨fun h=>absurd h hc,fun h=>HL2.out.trans h.1⟩,zR,HB1.out.trans (HZ2.out.below (fun g e=>by omega) HB1.out.size)⟩
 have hsv:=(fw hc).2
 have hnd:=(mQ l).nodup (fw hc).1
 have hlok:=wH hc hsz
 have hbg:=fun(W:World)(hW:Below w.heap.size w W)=>DX l A c W S (hLS W hW).1 (hLS W hW).2 (by omega) hnd (fun x hx=>by
  obtain⟨d,hd,hx⟩:=List.mem_flatMap.1 hx
  split at hx
  ·exact (hlok.names d hd).2 x hx
  ·simp at hx) (by omega)
 have hsr:=fun(W:World)(hW:Below w.heap.size w W)=>vQ l A c W S (hLS W hW).1 (hLS W hW).2 (by omega) (by omega)
 have hck0:bf l=(0,0):=(je hc).2.2.2.2
 have HBG:=jI hbg
 have HSR:=jI hsr
 have HZ:=jI hz
 have HL:=jI hl
 have HN:=jI hlok.names
 have HC:=jI hc
 simp only[hck0] at HCK
 have htwo:=decl_two hc
 have hl55:l.length≤550000:=by have:=htwo.1;omega
 have HN55:=jI (show ∀d∈l,d.names.length≤600000 from fun d hd=>by have:=htwo.2 d hd;have:=gZ hd;omega)
 have HKD:=jI (dW hc).1
 obtain⟨n,hn⟩:=kE ((ai l).length)
 have HNN:=jI hn
 obtain⟨N,hNl⟩:=kE l.length
 have HNL:=jI hNl
 rw[←hNl] at HCK HBG HSR hl55 hlen ⊢
 clear hl hlok hLS hbg hsr hz hpw hW0 hr0 hn hck0 hc hnd htwo hNl
 go_enter func12,ntmps12
 go_wp2_with fail
 rw[←H0.out]
 refine (HCK.out W0 hb0).mono ?_
 rintro e w1 ⟨rfl,hb1⟩
 have iC:=hb0.trans (hb1.mono hb0.size)
 have r1:=(hb1.block _ zk).trans HR0.out
 clear hb1
 go_wp2_with fail
 refine (HBG.out w1 iC).mono ?_
 rintro e w2 ⟨b,sb,mb,rfl,hwd,hmb,hb2,⟨l1,l2,l3⟩,n1,n2,n3⟩
 have hbw2:=iC.trans (hb2.mono iC.size)
 have r2:=(hb2.block _ (jS r1)).trans r1
 have HWD:=jI hwd
 have HMB:=jI hmb
 clear hwd hmb hb2
 go_wp2_with fail
 refine (HSR.out w2 hbw2).mono ?_
 unfold tu
 rw[←HNN.out]
 rintro e w3 ⟨v3,rfl,hown3,hb3⟩
 have jC:=hbw2.trans (hb3.mono hbw2.size)
 have r3:=(hb3.block _ (jS r2)).trans r2
 obtain⟨A3,c3,rfl,hc3⟩:=aD hown3
 have hcl:=JG (ai l) A3 c3 w3 _ (by rw[←HNN.out];exact (ak.own hown3)) (by omega)
 rw[←HNN.out] at hcl
 have HCL:=jI hcl
 have HWD3:=jI (HWD.out.below hb3)
 have HMB3:=jI (HMB.out.below hb3 HMB.out.lt)
 have hmb3:=HMB3.out.lt
 clear hown3 hcl hb3 HWD HMB
 go_wp2_with fail
 refine HCL.out.mono ?_
 rintro e w4 ⟨v4,rfl,jX,hb4⟩
 have hbw4:=jC.trans (hb4.mono jC.size)
 have r4:=(hb4.block _ (jS r3)).trans r3
 obtain⟨A4,c4,rfl,hc4⟩:=aD jX
 have hs4:=(ak.own jX)
 have HWD4:=jI (HWD3.out.below hb4)
 have HMB4:=jI (HMB3.out.below hb4 HMB3.out.lt)
 have hltb4:b<w4.heap.size∧sb<w4.heap.size∧mb<w4.heap.size:=⟨HWD4.out.lt.1,HWD4.out.lt.2,HMB4.out.lt⟩
 have hb4s:=hb4.size
 clear jX hb4 HWD3 HMB3 HCL
 obtain⟨q,hq⟩:=kE w4.heap.size
 rw[←hq] at hltb4 hb4s
 obtain⟨W5,hW5⟩:=kE (w4.alloc (.cells #[.slice A4 n c4,.slice none 0 0,.int .u16 0,.slice none 0 0,.slice none 0 0,.slice none 0 0] 48))
 have hb5:Below w4.heap.size w4 W5:=by rw[hW5];exact hbA _ _
 have tV:=hbw4.trans (hb5.mono hbw4.size)
 have hlw1:=jS r1
 have hzl:=HZ.out.1
 have nob:∀v∈[Value.slice none 0 0,Value.slice none 0 0,Value.slice none 0 0,Value.slice none 0 0],∀g,v.ownBlock≠some g:=fun v hv g e=>by
  obtain rfl:v=.slice none 0 0:=by simpa using hv
  cases e
 have hst:qy w b sb mb c A l S q A4 c4 (rowsOf l q 0 0 (.slice none 0 0) (.slice none 0 0) (.slice none 0 0) (.slice none 0 0)) 0 #[.slice A4 n c4,(.slice none 0 0),.int .u16 (0:Nat),(.slice none 0 0),(.slice none 0 0),(.slice none 0 0)] W5 (fun _=>none):=by
  refine⟨tV,⟨by omega,by omega,by omega,by omega⟩,(hb5.block _ (jS r4)).trans r4,by rw[hW5,hq];exact jR _ _,?_,⟨?_,jM _ _ _ _ _ _ _ _,?_⟩,⟨HWD4.out.below hb5,(HLS.out W5 tV).1,fun g hg=>by have:=hS g hg;omega,⟨n2,n3,by omega⟩,?_,HZ.out.below tV (aP _),⟨0,HMB4.out.below hb5 HMB4.out.lt,cu _⟩,fun x v hx=>by cases hx⟩,by decide⟩
  ·rw[←HNN.out]
   exact (hs4.mono (S':=fun g=>mb<g∧g<q) (fun g hg hl=>⟨by omega,by omega⟩) (by decide)).keep (aA hb5)
  ·intro s hs
   simp only[rowsOf,List.mem_cons,List.not_mem_nil,or_false] at hs
   rcases hs with rfl|rfl|rfl|rfl
   ·exact⟨[],World.ownsRow_nil _ _ _ _,cu _⟩
   ·exact⟨[],dZ.nil _ _ _ _ _,⟨fun i hi h=>absurd h (Nat.not_lt_zero _),fun x hx=>by (cases hx),cu _,rfl⟩⟩
   ·exact⟨[],dZ.nil _ _ _ _ _,cu _⟩
   ·exact⟨[],World.ownsRow_nil _ _ _ _,cu _⟩
  ·intro i j s t hi _ _ g hs
   exact absurd hs (nob s.2 (List.mem_map.2 ⟨s,List.mem_of_getElem? hi,rfl⟩) g)
  ·intro g hg
   rcases hg with rfl|⟨v,hv,e⟩
   ·exact⟨by omega,by omega,by omega⟩
   ·exact absurd e (nob v hv g)
 have HST:=jI hst
 have H5:=jI hW5
 have HQ:=jI hq
 clear hW5 hb5 hst HWD4 HMB4 r1 r2 r3 r4 hq l1 l2 l3 n1 n2 n3 hs4 nob hltb4 iC hbw2 jC hbw4 tV hb4s hmb3 hlw1 hzl
 go_wp2
 rw[←H5.out,←HQ.out]
 go_loopw [9,38] (fun s9 x wr=>∃(k:Nat)(v0 v1 v2:Value)(wt:Nat)(fk:ByteArray→Option Value)(ch:List ByteArray)(hA:Option Addr)(hcap:Nat),k≤N∧x=.int .i64 k∧s9=.slice hA ch.length hcap∧Hid (ak w S 1 hA ch.length (aC ch))∧ch.length≤600000∧Hid (qy w b sb mb c A l S q A4 c4 (rowsOf l q k 0 v0 v1 v2 (.slice none 0 0)) wt #[.slice A4 n c4,v0,.int .u16 (wt:Nat),v1,(.slice none 0 0),v2] wr fk)) (fun _ x _=>N-(intOf x).toNat)
 case atStart=>exact⟨0,_,_,_,0,_,[],none,0,cu _,rfl,rfl,jI (ak.empty _ _ _ _),cu _,HST⟩
 case round=>
  obtain⟨k,v0,v1,v2,wt,fk,ch,hA,hcap,hk,rfl,rfl,HCH,hchl,HO⟩:=hrel
  have hbw:=HO.out.bl
  by_cases hlt:k<N
  ·have hjl:k<l.length:=by rw[←HNL.out];exact hlt
   obtain⟨g,o,v,hAe,hSg,hp,hcs⟩:=dB (fun _ _ h=>lD h) HL.out hjl
   subst hAe
   obtain⟨d,hd⟩:=kE (l[k])
   have hdm:d∈l:=by rw[hd];exact bQ hjl
   have HD:=jI (show ∀hi:k<l.length,l[k]=d from fun _=>hd.symm)
   rw[←hd] at hp
   have HP:=jI hp
   obtain⟨cs,nA,nc,hcl,hone,rfl,c0,c1,c2,c3,c21,hsn,hnc⟩:=j4 hp
   have hgs:g<wr.heap.size:=by have:=hS g hSg;have:=hbw.size;omega
   have hrange:wr.rangeAt g (o+k * 22) cs:=fun i u hu=>(hbw.cell (p:=⟨g,o+k * 22+i,none⟩) (hS g hSg)).trans (hcs i u (by simpa [cellsOf,Value.cells] using hu))
   have mW:(prog.info? 35).map (·.size)=some cs.length:=by rw[hcl];exact cZ
   have hcs2:cs.toArray.size=22:=by simpa using hcl
   have nD:=jI hone
   have HCS:=jI hcs2
   have C0:=jI c0
   have C1:=jI c1
   have C2:=jI c2
   have C3:=jI c3
   have C21:=jI c21
   have HSN:=jI hsn
   have hdl:=HN55.out d hdm
   have hkI:(k:Int)<(N:Int):=by omega
   have hk0:(0:Int)≤(k:Int):=by omega
   have hbN:∀o,Below wr.heap.size wr (wr.alloc o):=fun o=>(jQ _ _).alloc (aP _) o
   clear hp hcs hone hcs2 hcl c0 c1 c2 c3 c21 hsn hd
   rcases xA (HKD.out d hdm) with hkd|hkd|hkd|hkd|hkd|hkd|hkd
   ·obtain⟨sl,hso,hsl⟩:xP (q+1) k wr (ny w.heap.size q mb [v0,v1,v2,(Value.slice none 0 0)]) v0:=HO.out.rw.rq (xP (q+1) k,v0) (by simp[rowsOf])
    obtain⟨sA,sc,rfl,-⟩:=aD hso
    have HSO:=jI hso
    clear hso
    go_upto_region 12 with (first|(with_reducible refine wpList_load_mid rfl 35 (.tmp 40) rfl g (o+k * 22) rfl cs _ hrange underlying35 rfl mW ?_)|(with_reducible refine bO _ rfl rfl (.tmp 11) (.tmp 41) rfl wr.heap.size cs.toArray rfl rfl _ (jR wr _) rfl HCS.out nD.out ?_;intro W6 hr6 hg6;have p0:=aY hr6 C0.out;rw[hkd] at p0))
    have hb6:Below wr.heap.size wr W6:=(hbN _).trans (below_grown hg6 (aP _) (by simp))
    have OS6:=jI (HO.out.later hb6)
    have HR6:=jI hr6
    have yo:=jS hr6
    have hnl:=HN.out d hdm
    have hXq:∀g,(Value.slice sA sl.length sc).ownBlock=some g→q+1≤g∧g<wr.heap.size:=fun g e=>HSO.out.lt g e
    have HXB:=jI (fun(W:World)(hW:But (fun g=>(Value.slice sA sl.length sc).ownBlock=some g) W6 W)=>OS6.out.ms.but (hW.mono (fun g e=>Or.inr ⟨_,by simp[rowsOf],e⟩)))
    have hlo6:=OS6.out.lo
    have hXS:∀g,S g→¬(Value.slice sA sl.length sc).ownBlock=some g:=fun g hg e=>by have:=(hXq g e).1;have:=hS g hg;omega
    have HSET:=jI (fun(W:World)(hW:But (fun g=>(Value.slice sA sl.length sc).ownBlock=some g) W6 W)=>qD W (HXB.out W hW).wd d.names nA nc S (((HSN.out.keep (aj OS6.out.bl hS))).keep (hW.kept hXS)) hsv hnl.2 hnl.1)
    have hss16:=lq hsv d.names
    obtain⟨ss,hss⟩:=kE (iA (ai l) d.names)
    rw[←hss] at HSET hss16
    clear hss hnl p0 hr6 hg6
    obtain⟨dn,hdn⟩:=kE d.name
    rw[←hdn] at C2
    clear hdn
    have HSO6:=jI (own_below HSO.out hb6 (aP _))
    have hqW:=OS6.out.qlt
    have hBel:=below_drewN (jQ W6.heap.size W6) 1
    refine av.start (fun W'=>But (fun g=>(Value.slice sA sl.length sc).ownBlock=some g) W6 W') [12] [0,1,2,3,4,5,6,8,11] (by kernel_rfl) (.of_below (below_drewN (jQ _ _) 1)) (fun hHeld=>?_)
    repeat
     refine av.take (v:=?_) rfl (by decide +kernel) (by rfl) (fun _ _ _ h=>h) hHeld ?_ ?_
     rotate_left
     focus
      intro w9 h9
      obtain⟨z0,z1,z2,z3,z4,z5⟩:=dz ((h9.block q (fun e=>by have:=(hXq q e).1;omega) hqW).trans OS6.out.r8)
      have hr9:=(h9.block wr.heap.size (fun e=>by have:=(hXq _ e).2;omega) yo).trans HR6.out
      have y2:=aY hr9 C2.out
      have y3:=aY hr9 C3.out
      go_simp
      (try with_reducible rfl)
      done
     simp only[Act.put,List.getElem_toArray,List.getElem_cons_succ,List.getElem_cons_zero,List.setIfInBounds_toArray,List.set_cons_zero,List.set_cons_succ]
    repeat'
     first
     |refine av.pure (v:=?_) rfl (by decide +kernel) (by rfl) (fun _ _ _ h=>h) (by first|exact fun h=>absurd h (by decide)|exact fun _=>hHeld) ?_ ?_
      rotate_left
      focus
       intro w9
       go_simp
       (try with_reducible rfl)
       done
      simp only[Act.put,List.getElem_toArray,List.getElem_cons_succ,List.getElem_cons_zero,List.setIfInBounds_toArray,List.set_cons_zero,List.set_cons_succ]
     |refine av.one 7 rfl (by decide +kernel) (by rfl) (fun K hK=>?_)
     |refine av.one 9 rfl (by decide +kernel) (by rfl) (fun K hK=>?_)
     |go_simp
      first
      |go_at_call 39
       (refine (HSET.out _ hHeld).mono ?_);rintro e Y1 ⟨rfl,hY⟩;have hBel:Below W6.heap.size W6 Y1:=(by rw[←hY];exact hBel);have hHeld:But (fun g=>(Value.slice sA sl.length sc).ownBlock=some g) W6 Y1:=.of_below hBel;clear hY
       try go_simp
       refine hK.out _ _ (fun _=>hHeld) ?_
       clear hK K
      |refine hK.out _ (World.alloc _ _) (fun _=>.of_below (hBel.alloc hBel.size _)) ?_
       have hlit:=jR Y1 (.cells #[.string dn,.int .u16 (ss:Nat)] 90)
       have hBel:=hBel.alloc hBel.size (.cells #[.string dn,.int .u16 (ss:Nat)] 90)
       have hHeld:But (fun g=>(Value.slice sA sl.length sc).ownBlock=some g) W6 (Y1.alloc (.cells #[.string dn,.int .u16 (ss:Nat)] 90)):=.of_below hBel
       clear hK K
    refine av.one 10 rfl (by decide +kernel) (by rfl) (fun K hK=>?_)
    have OS7:=jI (OS6.out.later hBel)
    refine op_site2 _ (.tmp 47) (.tmp 55) rfl (q+1) (.slice sA sl.length sc) sl.length (mP sl) (own_below HSO6.out hBel (aP _)) rfl _ 1 dn ss hlit rfl (by omega) (by have:=OS7.out.qlt;omega) ?_
    intro v7 W7 fu hg7 hv7
    obtain⟨A7,c7,rfl,-⟩:=aD fu
    have Db:But (fun g=>(Value.slice sA sl.length sc).ownBlock=some g) W6 W7:=hHeld.trans ⟨hg7.os,hg7.tape,hg7.output,hg7.size,fun g hne hl=>hg7.block g hl (fun e=>hne e.symm)⟩
    refine hK.out _ _ (fun _=>Db) ?_
    clear hK K hHeld
    have hHeld:=Db
    have OS8:=jI ((OS7.out.grow 0 (s:=(xP (q+1) k,.slice sA sl.length sc)) rfl (xP (q+1) (k+1)) _ (Ca _ _) hg7 hv7 ⟨sl++[(dn,ss)],by rw[Ae,bD];exact fu,by rw[bD];show sl.length+1≤k+1;omega⟩))
    have r8:=OS8.out.r8
    obtain⟨⟨z0,z1,z2,z3,z4,z5⟩,hfz⟩:=jk r8
    have f1:=hfz 1
    repeat'
     first
     |refine av.pure (v:=?_) rfl (by decide +kernel) (by rfl) (fun _ _ _ h=>h) (by first|exact fun h=>absurd h (by decide)|exact fun _=>hHeld) ?_ ?_
      rotate_left
      focus
       intro w9
       go_simp
       (try with_reducible rfl)
       done
      simp only[Act.put,List.getElem_toArray,List.getElem_cons_succ,List.getElem_cons_zero,List.setIfInBounds_toArray,List.set_cons_zero,List.set_cons_succ]
    refine av.one 12 rfl (by decide +kernel) (by rfl) (fun K hK=>?_)
    go_simp
    refine hK.out _ (World.setCell _ ⟨q,1,none⟩ _) (fun h=>absurd h (by decide)) ?_
    clear hK K
    refine av.done (by decide +kernel) ?_
    have OS9:=jI (OS8.out.field 1 (.slice A7 (sl.length+1) c7) OS8.out.wl)
    go_wp2_with fail
    go_roundw
    case rel=>exact⟨k+1,_,v1,v2,wt,fk,ch,hA,hcap,by omega,by go_num,rfl,HCH,hchl,jI ((OS9.out.weak rfl (jM _ _ _ _ _ _ _ _) (fun i s s' hs hs' D=>next_row (fun hi=>by rw[HD.out hi,hkd];decide) i s s' hs hs' D)))⟩
    case measure=>simp[intOf];omega
   ·go_wp2_with (first|(with_reducible refine wpList_load_mid rfl 35 (.tmp 40) rfl g (o+k * 22) rfl cs _ hrange underlying35 rfl mW ?_)|(with_reducible refine bO _ rfl rfl (.tmp 11) (.tmp 41) rfl wr.heap.size cs.toArray rfl rfl _ (jR wr _) rfl HCS.out nD.out ?_;intro W6 hr6 hg6;have p0:=aY hr6 C0.out;rw[hkd] at p0))
    have hb6:Below wr.heap.size wr W6:=(hbN _).trans (below_grown hg6 (aP _) (by simp))
    have OS6:=jI (HO.out.later hb6)
    have HR6:=jI hr6
    have yo:=jS hr6
    go_roundw
    case rel=>exact⟨k+1,v0,v1,v2,wt,fk,ch,hA,hcap,by omega,by go_num,rfl,HCH,hchl,jI (OS6.out.next (fun hi=>by rw[HD.out hi,hkd];decide))⟩
    case measure=>simp[intOf];omega
   ·go_wp2_with (first|(with_reducible refine wpList_load_mid rfl 35 (.tmp 40) rfl g (o+k * 22) rfl cs _ hrange underlying35 rfl mW ?_)|(with_reducible refine bO _ rfl rfl (.tmp 11) (.tmp 41) rfl wr.heap.size cs.toArray rfl rfl _ (jR wr _) rfl HCS.out nD.out ?_;intro W6 hr6 hg6;have p0:=aY hr6 C0.out;rw[hkd] at p0))
    have hb6:Below wr.heap.size wr W6:=(hbN _).trans (below_grown hg6 (aP _) (by simp))
    have OS6:=jI (HO.out.later hb6)
    have HR6:=jI hr6
    have yo:=jS hr6
    go_roundw
    case rel=>exact⟨k+1,v0,v1,v2,wt,fk,ch,hA,hcap,by omega,by go_num,rfl,HCH,hchl,jI (OS6.out.next (fun hi=>by rw[HD.out hi,hkd];decide))⟩
    case measure=>simp[intOf];omega
   ·obtain⟨acc0,Bb,-⟩:Ea l (q+1) k wr (ny w.heap.size q mb [v0,v1,v2,(Value.slice none 0 0)]) v1:=HO.out.rw.rq (Ea l (q+1) k,v1) (by simp[rowsOf])
    obtain⟨A1,c1',rfl,-⟩:=Bb.list jL
    obtain⟨n1,hn1⟩:=kE acc0.length
    rw[←hn1] at HO
    clear Bb hn1
    go_upto_region 16 with (first|(with_reducible refine wpList_load_mid rfl 35 (.tmp 40) rfl g (o+k * 22) rfl cs _ hrange underlying35 rfl mW ?_)|(with_reducible refine bO _ rfl rfl (.tmp 11) (.tmp 41) rfl wr.heap.size cs.toArray rfl rfl _ (jR wr _) rfl HCS.out nD.out ?_;intro W6 hr6 hg6;have p0:=aY hr6 C0.out;rw[hkd] at p0))
    have hb6:Below wr.heap.size wr W6:=(hbN _).trans (below_grown hg6 (aP _) (by simp))
    have OS6:=jI (HO.out.later hb6)
    have HR6:=jI hr6
    have yo:=jS hr6
    have HC6:=jI (configW HC.out hsz k hjl (by rw[HD.out hjl,hkd]) (OwnT q [v0,.slice A1 n1 c1',v2,(.slice none 0 0)]) W6 fk OS6.out.ms OS6.out.own (.agg cs.toArray) (by rw[HD.out hjl];exact HP.out.keep (aj OS6.out.bl hS)))
    clear hr6 hg6 p0
    go_wp2_with (with_reducible refine gy _ rfl (.tmp 11) rfl wr.heap.size rfl _ HR6.out HCS.out ?_)
    refine HC6.out.mono ?_
    rintro e Y ⟨x,v,er,f',rfl,hx,hok,hgY,hmY⟩
    have OS7:=jI (OS6.out.memo hgY hmY)
    have hrY:=ay hgY HR6.out (show wr.heap.size≠mb by have:=OS6.out.lo;have:=HO.out.qlt;omega)
    obtain⟨rA,rc,wA,wc,fA,fc,rfl,hs1,hs2,hs3⟩:=hx
    obtain⟨X,hX⟩:=kE (Y.alloc (.cells #[.string x.name,.int .i64 x.kind,.int .u16 (x.mem:Nat),.slice rA x.read.length rc,.slice wA x.write.length wc,.slice fA x.faults.length fc] 54))
    have hbX:Below Y.heap.size Y X:=by rw[hX];exact hbA _ _
    have hrX:X.heap[Y.heap.size]?=some (.cells #[.string x.name,.int .i64 x.kind,.int .u16 (x.mem:Nat),.slice rA x.read.length rc,.slice wA x.write.length wc,.slice fA x.faults.length fc] 54 (0,0)):=by rw[hX];exact jR _ _
    have OS8:=jI (OS7.out.later hbX)
    have HX:=jI hX
    have HRX:=jI hrX
    have HXA:=jI (eH.mk (x:=x) (rc:=rc) (wc:=wc) (fc:=fc) (hs1.keep (aA hbX)) (hs2.keep (aA hbX)) (hs3.keep (aA hbX)))
    have HOK:=jI hok
    have HRY:=jI ((hbX.block _ (jS hrY)).trans hrY)
    have h6Y:=hgY.size
    have hYX:=hbX.size
    clear hX hrX hs1 hs2 hs3 hok hgY hmY hrY
    by_cases he0:er=0
    rotate_left
    ·have heI:((er:Int) != 0)=true:=by simpa using he0
     have I7:¬(er:Int)=0:=by omega
     go_upto_region 18 with fail
     rw[←HX.out]
     have HRL:=jI (HRY.out)
     have hrp:=OS8.out.r2
     have hltp:=jS hrp
     have hltL:=jS HRL.out
     have hneL:wr.heap.size≠w.heap.size:=by have:=HO.out.qlt;have:=HO.out.lo;omega
     obtain⟨Z,hZ,hz1,hz2⟩:=H8 (X:=X) hrp (.slice none 0 0) (.slice none 0 0) (.int .u16 0) (.slice none 0 0) (.slice none 0 0) (.slice none 0 0)
     have HZZ:=jI hZ
     have HZ1:=jI (show Z.drew.heap[w.heap.size]?=_ from hz1)
     have HBZ:=jI (show Below w.heap.size w Z.drew from below_drewN (OS8.out.bl.trans (hz2.below (fun g e=>by omega) OS8.out.bl.size)) 1)
     have hbd:But (fun g=>g=w.heap.size) X X.drew:=.of_below (below_drewN (jQ _ _) 1)
     have hbe:But (fun g=>g=w.heap.size) X Z.drew:=hz2.trans (.of_below (below_drewN (jQ _ Z) 1))
     rw[hZ] at hbe
     have HRP:=jI hrp
     clear hZ hz1 hz2 hrp
     obtain⟨⟨z0,z1,z2,z3,z4,z5⟩,hfz⟩:=jk (w:=X) HRP.out
     have f0:=hfz 0
     have f1:=hfz 1
     have f2:=hfz 2
     have f3:=hfz 3
     have f4:=hfz 4
     have f5:=hfz 5
     refine av.start (fun W'=>But (fun g=>g=w.heap.size) X W') [] [0,1,2,3,5,6] (by kernel_rfl) hbd (fun hHeld=>?_)
     repeat'
      first
      |refine av.take (v:=?_) rfl (by decide +kernel) (by rfl) (fun _ _ _ h=>h) hHeld ?_ ?_
       rotate_left
       focus
        intro w9 h9
        have y1:=aY ((h9.block _ hneL hltL).trans HRL.out) C1.out
        go_simp
        (try with_reducible rfl)
        done
       simp only[Act.put,List.getElem_toArray,List.getElem_cons_succ,List.getElem_cons_zero,List.setIfInBounds_toArray,List.set_cons_zero,List.set_cons_succ]
      |refine av.one 4 rfl (by decide +kernel) (by rfl) (fun K hK=>?_)
      |go_simp
       refine hK.out _ _ (fun _=>hbe) ?_
       clear hK K
       have hHeld:=hbe
     refine av.done (by decide +kernel) ?_
     focus
      go_wp2_with fail
      rw[←HZZ.out]
      refine oJ rfl rfl rfl rfl rfl HZ1.out rfl ?_
      exact⟨zDep,_,d.line,er,rfl,Ec _ _,⟨fun h=>absurd h he0,fun h=>HOK.out.2 (by rw[HD.out hjl];exact h.2.1 d hdm hkd)⟩,zR,HBZ.out⟩
    subst he0
    obtain⟨acc,⟨vs,g1,hown,g3⟩,hcok⟩:Ea l (q+1) k X (ny w.heap.size q mb [v0,.slice A1 n1 c1',v2,(Value.slice none 0 0)]) (.slice A1 n1 c1'):=OS8.out.rw.rq (Ea l (q+1) k,.slice A1 n1 c1') (by simp[rowsOf])
    obtain rfl:n1=acc.length:=by obtain⟨_,_,e,-⟩:=aD hown;injection e
    have hal:=hcok.len
    have HOWN:=jI hown
    have r8X:=OS8.out.r8
    have hlo8:=OS8.out.lo
    have hqX:=OS8.out.qlt
    have wQ:∀g,(Value.slice A1 acc.length c1').ownBlock=some g→q+1≤g∧g<W6.heap.size:=fun g e=>⟨(hown.lt g e).1,OS6.out.own g (Or.inr ⟨_,by simp,e⟩)⟩
    have HG3:=jI g3
    have HCOK:=jI hcok
    have HR8X:=jI r8X
    clear hown g3 hcok r8X
    go_upto_region 19 with fail
    rw[←HX.out]
    obtain⟨z0,z1,z2,z3,z4,z5⟩:=dz HR8X.out
    obtain⟨y0,y1,y2,y3,y4,y5⟩:=dz HRX.out
    go_wp2_with (at_builtin;refine EJ X rfl (.tmp 83) (.tmp 85) rfl (q+1) _ acc.length _ HOWN.out rfl x.name x.kind (x.mem:Nat) rA x.read.length rc wA x.write.length wc fA x.faults.length fc rfl (by omega) (by omega) ?_;intro v7 W7 fu hg7 hv7;obtain⟨A7,c7,hv8,hc7⟩:=aD fu;subst hv8;have r8W:=(hg7.block q hqX (fun e=>by have:=(wQ q e.symm).1;omega)).trans HR8X.out;obtain⟨⟨x0,x1,x2,x3,x4,x5⟩,hfz⟩:=jk r8W;have f3:=hfz 3)
    have hv9:(Value.slice A7 (acc.length+1) c7).ownBlock=(Value.slice A1 acc.length c1').ownBlock∨∃g,X.heap.size≤g∧(Value.slice A7 (acc.length+1) c7).ownBlock=some g:=hv7.imp id (fun e=>⟨_,Nat.le_succ _,e⟩)
    have hdn:∀g,W6.heap.size≤g→g<X.heap.size→ny w.heap.size q mb [v0,.slice A7 (acc.length+1) c7,v2,(Value.slice none 0 0)] g:=fun g h1 h2=>FJ OS6.out (fun v hv=>by
     simp only[List.mem_cons,List.not_mem_nil,or_false] at hv
     rcases hv with rfl|rfl|rfl|rfl
     ·exact Or.inl ⟨_,by simp,rfl⟩
     ·exact hv9.imp (fun e=>⟨_,by simp,e⟩) (fun⟨g,h3,h4⟩=>⟨g,h3,h4⟩)
     ·exact Or.inl ⟨_,by simp,rfl⟩
     ·exact Or.inl ⟨_,by simp,rfl⟩) h1 h2
    have hdo:∀g,ny w.heap.size q mb [v0,.slice A1 acc.length c1',v2,(Value.slice none 0 0)] g→g<X.heap.size→ny w.heap.size q mb [v0,.slice A7 (acc.length+1) c7,v2,(Value.slice none 0 0)] g:=fun g h1 h2=>FI (rows:=rowsOf l q k 0 v0 (.slice A1 acc.length c1') v2 (.slice none 0 0)) (i:=1) (Q':=Ea l (q+1) (k+1)) rfl hv9 h1 h2
    have hpush:=dZ.push (P:=eH) (S:=ny w.heap.size q mb [v0,.slice A7 (acc.length+1) c7,v2,(Value.slice none 0 0)]) g1 (fun i y u hy hu=>jL.mono (HG3.out i y u hy hu) (fun g h1 h2=>⟨hdo g h1.1 h2,h1.2⟩)) jL rfl (HXA.out.mono (fun g h1 h2=>⟨hdn g h1 h2,fun e=>by have:=(wQ g e.symm).2;omega⟩)) fu hg7 hv7
    have OS9:=jI (OS8.out.grow 1 (s:=(Ea l (q+1) k,.slice A1 acc.length c1')) rfl (Ea l (q+1) (k+1)) _ (GQ _ _ _) hg7 hv9 ⟨acc++[x],hpush,cfgs_snoc hjl (by rw[HD.out hjl,hkd]) HCOK.out (HOK.out.1 (by first|rfl|trivial))⟩)
    have OS10:=jI (OS9.out.field 3 (.slice A7 (acc.length+1) c7) OS9.out.wl)
    go_roundw
    case rel=>exact⟨k+1,v0,_,v2,wt,f',ch,hA,hcap,by omega,by go_num,rfl,HCH,hchl,jI (OS10.out.weak rfl (jM _ _ _ _ _ _ _ _) (fun i s s' hs hs' D=>next_row1 i s s' hs hs' D))⟩
    case measure=>simp[intOf];omega
   ·go_upto_region 14 with (first|(with_reducible refine wpList_load_mid rfl 35 (.tmp 40) rfl g (o+k * 22) rfl cs _ hrange underlying35 rfl mW ?_)|(with_reducible refine bO _ rfl rfl (.tmp 11) (.tmp 41) rfl wr.heap.size cs.toArray rfl rfl _ (jR wr _) rfl HCS.out nD.out ?_;intro W6 hr6 hg6;have p0:=aY hr6 C0.out;rw[hkd] at p0))
    have hb6:Below wr.heap.size wr W6:=(hbN _).trans (below_grown hg6 (aP _) (by simp))
    have OS6:=jI (HO.out.later hb6)
    have HR6:=jI hr6
    have yo:=jS hr6
    have hnl:=HN.out d hdm
    have HSET:=jI (fun(W:World)(hW:Below W6.heap.size W6 W)=>qD W (OS6.out.later hW).ms.wd d.names nA nc S (HSN.out.keep (aj (OS6.out.later hW).bl hS)) hsv hnl.2 hnl.1)
    have hss16:=lq hsv d.names
    obtain⟨ss,hss⟩:=kE (iA (ai l) d.names)
    rw[←hss] at HSET hss16
    clear hss hnl p0 hr6 hg6
    have hwt:=OS6.out.wl
    have hob:=u16_or_nat wt ss hwt (by omega)
    have hw2:wt|||ss<65536:=Nat.or_lt_two_pow (n:=16) hwt (by omega)
    obtain⟨w2,hw2e⟩:=kE (wt|||ss)
    rw[←hw2e] at hob hw2
    clear hw2e
    refine av.start (fun W'=>Below W6.heap.size W6 W') [8] [0,1,2,3,4,6,7] (by kernel_rfl) (below_drewN (jQ _ _) 1) (fun hHeld=>?_)
    repeat
     refine av.take (v:=?_) rfl (by decide +kernel) (by rfl) (fun _ _ _ h=>h) hHeld ?_ ?_
     rotate_left
     focus
      intro w9 h9
      obtain⟨z0,z1,z2,z3,z4,z5⟩:=dz (OS6.out.later h9).r8
      have hr9:=(h9.block _ yo).trans HR6.out
      have y3:=aY hr9 C3.out
      go_simp
      (try with_reducible rfl)
      done
     simp only[Act.put,List.getElem_toArray,List.getElem_cons_succ,List.getElem_cons_zero,List.setIfInBounds_toArray,List.set_cons_zero,List.set_cons_succ]
    repeat'
     first
     |refine av.pure (v:=?_) rfl (by decide +kernel) (by rfl) (fun _ _ _ h=>h) (by first|exact fun h=>absurd h (by decide)|exact fun _=>hHeld) ?_ ?_
      rotate_left
      focus
       intro w9
       go_simp
       (try with_reducible rfl)
       done
      simp only[Act.put,List.getElem_toArray,List.getElem_cons_succ,List.getElem_cons_zero,List.setIfInBounds_toArray,List.set_cons_zero,List.set_cons_succ]
     |refine av.one 5 rfl (by decide +kernel) (by rfl) (fun K hK=>?_)
     |refine av.one 8 rfl (by decide +kernel) (by rfl) (fun K hK=>?_)
     |have r8:=(OS6.out.later hHeld).r8
      obtain⟨⟨z0,z1,z2,z3,z4,z5⟩,hfz⟩:=jk r8
      have f2:=hfz 2
      go_simp
      first
      |go_at_call 39
       (refine (HSET.out _ hHeld).mono ?_);rintro e Y1 ⟨rfl,hY⟩;have hHeld:Below W6.heap.size W6 Y1:=(by rw[←hY];exact hHeld);clear hY
       try go_simp
       refine hK.out _ _ (fun _=>hHeld) ?_
       clear hK K z0 z1 z2 z3 z4 z5 f2 r8 hfz
      |refine hK.out _ (World.setCell _ ⟨q,2,none⟩ (.int .u16 (w2:Nat))) (fun h=>absurd h (by decide)) ?_
       clear hK K z0 z1 z2 z3 z4 z5 f2 r8 hfz
    refine av.done (by decide +kernel) ?_
    have OS7:=jI ((OS6.out.later hHeld).field 2 (.int .u16 (w2:Nat)) hw2)
    go_wp2_with fail
    go_roundw
    case rel=>exact⟨k+1,v0,v1,v2,w2,fk,ch,hA,hcap,by omega,by go_num,rfl,HCH,hchl,jI (OS7.out.next (fun hi=>by rw[HD.out hi,hkd];decide))⟩
    case measure=>simp[intOf];omega
   ·obtain⟨acc0,Bb,-⟩:BH (q+1) k wr (ny w.heap.size q mb [v0,v1,v2,(Value.slice none 0 0)]) v2:=HO.out.rw.rq (BH (q+1) k,v2) (by simp[rowsOf])
    obtain⟨A1,c1',rfl,-⟩:=Bb.list ji
    obtain⟨n1,hn1⟩:=kE acc0.length
    rw[←hn1] at HO
    clear Bb hn1
    obtain⟨dn,hdn⟩:=kE d.name
    rw[←hdn] at C2
    clear hdn
    by_cases hu0:d.use.size=0
    ·have hus:d.use=⟨#[]⟩:=ByteArray.ext (Array.eq_empty_of_size_eq_zero hu0)
     rw[hus] at C21
     clear hu0 hus
     go_upto_region 21 with (first|(with_reducible refine wpList_load_mid rfl 35 (.tmp 40) rfl g (o+k * 22) rfl cs _ hrange underlying35 rfl mW ?_)|(with_reducible refine bO _ rfl rfl (.tmp 11) (.tmp 41) rfl wr.heap.size cs.toArray rfl rfl _ (jR wr _) rfl HCS.out nD.out ?_;intro W6 hr6 hg6;have p0:=aY hr6 C0.out;rw[hkd] at p0;have p2:=aY hr6 C2.out;have p21:=aY hr6 C21.out))
     have hb6:Below wr.heap.size wr W6:=(hbN _).trans (below_grown hg6 (aP _) (by simp))
     have OS6:=jI (HO.out.later hb6)
     have HR6:=jI hr6
     have yo:=jS hr6
     obtain⟨X,hX⟩:=kE (W6.alloc (.cells #[.string dn,.bool true,.slice none 0 0] 93))
     have hbX:Below W6.heap.size W6 X:=by rw[hX];exact hbA _ _
     have hrX:X.heap[W6.heap.size]?=some (.cells #[.string dn,.bool true,.slice none 0 0] 93 (0,0)):=by rw[hX];exact jR _ _
     have hXs:X.heap.size=W6.heap.size+1:=by rw[hX];simp
     have HX:=jI hX
     have HRX:=jI hrX
     have HXS:=jI hXs
     have h6q:=OS6.out.qlt
     clear hX hr6 hg6 p0 hXs
     go_upto_region 22 with fail
     rw[←HX.out]
     clear p2 p21
     obtain⟨y0,y1,y2⟩:=row3 hrX
     go_upto_region 27 with fail
     have OS8:=jI (OS6.out.later hbX)
     obtain⟨acc,⟨vs,g1,hown,g3⟩,hal⟩:BH (q+1) k X (ny w.heap.size q mb [v0,v1,.slice A1 n1 c1',(Value.slice none 0 0)]) (.slice A1 n1 c1'):=OS8.out.rw.rq (BH (q+1) k,.slice A1 n1 c1') (by simp[rowsOf])
     obtain rfl:n1=acc.length:=by obtain⟨_,_,e,-⟩:=aD hown;injection e
     have HOWN:=jI hown
     have hlo8:=OS8.out.lo
     have hqX:=OS8.out.qlt
     have wQ:∀g,(Value.slice A1 acc.length c1').ownBlock=some g→q+1≤g∧g<W6.heap.size:=fun g e=>⟨(hown.lt g e).1,OS6.out.own g (Or.inr ⟨_,by simp,e⟩)⟩
     have HG3:=jI g3
     have HR8X:=jI OS8.out.r8
     clear hown g3
     obtain⟨z0,z1,z2,z3,z4,z5⟩:=dz HR8X.out
     obtain⟨y0,y1,y2⟩:=row3 HRX.out
     go_wp2_with (at_builtin;refine vU X rfl (.tmp 115) (.tmp 117) rfl (q+1) _ acc.length _ HOWN.out rfl dn true none 0 0 rfl (by omega) (by omega) ?_;intro v7 W7 fu hg7 hv7;obtain⟨A7,c7,hv8,hc7⟩:=aD fu;subst hv8;have r8W:=(hg7.block q hqX (fun e=>by have:=(wQ q e.symm).1;omega)).trans HR8X.out;obtain⟨⟨x0,x1,x2,x3,x4,x5⟩,hfz⟩:=jk r8W;have f5:=hfz 5)
     have hv9:(Value.slice A7 (acc.length+1) c7).ownBlock=(Value.slice A1 acc.length c1').ownBlock∨∃g,X.heap.size≤g∧(Value.slice A7 (acc.length+1) c7).ownBlock=some g:=hv7.imp id (fun e=>⟨_,Nat.le_succ _,e⟩)
     have hdn:∀g,W6.heap.size≤g→g<X.heap.size→ny w.heap.size q mb [v0,v1,.slice A7 (acc.length+1) c7,(Value.slice none 0 0)] g:=fun g h1 h2=>FJ OS6.out (fun v hv=>by
      simp only[List.mem_cons,List.not_mem_nil,or_false] at hv
      rcases hv with rfl|rfl|rfl|rfl
      ·exact Or.inl ⟨_,by simp,rfl⟩
      ·exact Or.inl ⟨_,by simp,rfl⟩
      ·exact hv9.imp (fun e=>⟨_,by simp,e⟩) (fun⟨g,h3,h4⟩=>⟨g,h3,h4⟩)
      ·exact Or.inl ⟨_,by simp,rfl⟩) h1 h2
     have hdo:∀g,ny w.heap.size q mb [v0,v1,.slice A1 acc.length c1',(Value.slice none 0 0)] g→g<X.heap.size→ny w.heap.size q mb [v0,v1,.slice A7 (acc.length+1) c7,(Value.slice none 0 0)] g:=fun g h1 h2=>FI (rows:=rowsOf l q k 0 v0 v1 (.slice A1 acc.length c1') (.slice none 0 0)) (i:=2) (Q':=BH (q+1) (k+1)) rfl hv9 h1 h2
     have hpush:=dZ.push (P:=oh) (S:=ny w.heap.size q mb [v0,v1,.slice A7 (acc.length+1) c7,(Value.slice none 0 0)]) g1 (fun i y u hy hu=>ji.mono (HG3.out i y u hy hu) (fun g h1 h2=>⟨hdo g h1.1 h2,h1.2⟩)) ji (x:=⟨dn,true,[]⟩) rfl (⟨none,0,rfl,ak.empty _ _ _ _⟩) fu hg7 hv7
     have OS9:=jI (OS8.out.grow 2 (s:=(BH (q+1) k,.slice A1 acc.length c1')) rfl (BH (q+1) (k+1)) _ (Bw _ _) hg7 hv9 ⟨acc++[(⟨dn,true,[]⟩:DCli)],hpush,by rw[bD];simp;omega⟩)
     have OS10:=jI (OS9.out.field 5 (.slice A7 (acc.length+1) c7) OS9.out.wl)
     go_roundw
     case rel=>exact⟨k+1,v0,v1,_,wt,fk,ch,hA,hcap,by omega,by go_num,rfl,HCH,hchl,jI (OS10.out.weak rfl (jM _ _ _ _ _ _ _ _) (fun i s s' hs hs' D=>Ct (fun hi=>by rw[HD.out hi,hkd];decide) i s s' hs hs' D))⟩
     case measure=>simp[intOf];omega
    ·have hus0:¬d.use=⟨#[]⟩:=fun e=>hu0 (by rw[e];rfl)
     have huse:aQ (tab (l.take k)) d.use=3:=(declE_use (by have:=(je HC.out).2.1 k hjl;rw[HD.out hjl] at this;exact this) hkd).elim (fun h=>absurd h hu0) id
     have hus2:d.use.size≤maxLen:=by
      have h1:=gZ hdm
      have e1:aW d=d.name.size+aZ d.names+(d.faults.map dJ).sum+ax d.term+d.proto.size+ax d.read+ax d.write+d.use.size+1:=rfl
      unfold maxLen;omega
     have HMOK:=jI (Cw (b:=b) (sb:=sb) (mb:=mb) (c:=c) (A:=some ⟨g,o,none⟩) (S:=S) HC.out hsz k (dF hjl) d.use hus2 huse)
     obtain⟨us,hus⟩:=kE d.use
     rw[←hus] at C21 HMOK hus0
     have hu1:(us.toList==(⟨#[]⟩:ByteArray).toList)=false:=ba_ne hus0
     have hu2:(us==⟨#[]⟩)=false:=ba_nee hus0
     have hu3:(us.toList==[])=false:=by have:=hu1;rw[ByteArray.toList_eq ⟨#[]⟩] at this;exact this
     have hu4:us.toList.isEmpty=false:=by cases e:us.toList with
      |nil=>rw[e] at hu3;exact absurd hu3 (by decide)
      |cons a r=>rfl
     clear hu0 huse hus2 hus
     go_upto_region 21 with (first|(with_reducible refine wpList_load_mid rfl 35 (.tmp 40) rfl g (o+k * 22) rfl cs _ hrange underlying35 rfl mW ?_)|(with_reducible refine bO _ rfl rfl (.tmp 11) (.tmp 41) rfl wr.heap.size cs.toArray rfl rfl _ (jR wr _) rfl HCS.out nD.out ?_;intro W6 hr6 hg6;have p0:=aY hr6 C0.out;rw[hkd] at p0;have p2:=aY hr6 C2.out;have p21:=aY hr6 C21.out))
     have hb6:Below wr.heap.size wr W6:=(hbN _).trans (below_grown hg6 (aP _) (by simp))
     have OS6:=jI (HO.out.later hb6)
     have HR6:=jI hr6
     have yo:=jS hr6
     obtain⟨X,hX⟩:=kE (W6.alloc (.cells #[.string dn,.bool false,.slice none 0 0] 93))
     have hbX:Below W6.heap.size W6 X:=by rw[hX];exact hbA _ _
     have hrX:X.heap[W6.heap.size]?=some (.cells #[.string dn,.bool false,.slice none 0 0] 93 (0,0)):=by rw[hX];exact jR _ _
     have hXs:X.heap.size=W6.heap.size+1:=by rw[hX];simp
     have HX:=jI hX
     have HRX:=jI hrX
     have HXS:=jI hXs
     have h6q:=OS6.out.qlt
     clear hX hr6 hg6 p0 hXs
     go_upto_region 22 with fail
     rw[←HX.out]
     clear p2 p21
     obtain⟨y0,y1,y2⟩:=row3 hrX
     have hstm:MSt b sb mb c (some ⟨g,o,none⟩) l S (fun g=>OwnT q [v0,v1,.slice A1 n1 c1',(.slice none 0 0)] g∨g=W6.heap.size) X fk:=(OS6.out.ms.mono (T':=fun g=>OwnT q [v0,v1,.slice A1 n1 c1',(.slice none 0 0)] g∨g=W6.heap.size) (fun g h hl=>h.elim id (fun e=>by omega)) (fun g h=>h.elim (OS6.out.ms.th g) (fun e=>by have:=OS6.out.lo;omega))).later hbX
     have q21:=aY ((hbX.block _ yo).trans HR6.out) C21.out
     have HM6:=jI (HMOK.out _ X fk hstm (fun g h=>h.elim (fun h=>by have:=OS6.out.own g h;have:=HXS.out;omega) (fun e=>by have:=HXS.out;omega)))
     clear hstm hu1 hu2 hu3 hu4
     go_wp2_with fail
     refine HM6.out.mono ?_
     rintro e Y ⟨F,fA,fc,er,f',rfl,hsf,hfc,hF1,hF2,-,hgY,hmY,-⟩
     have hrY:=ay hgY HRX.out (show W6.heap.size≠mb by have:=OS6.out.lo;omega)
     have HG6:=jI (au (aM (row:=some mb) hbX) hgY)
     have HMY:=jI hmY
     have HRY:=jI hrY
     have HSF:=jI hsf
     have hXY:=hgY.size
     have hXW:W6.heap.size<X.heap.size:=by have:=HXS.out;omega
     have HLINE:=jI (ay hgY ((hbX.block _ yo).trans HR6.out) (show wr.heap.size≠mb by have:=OS6.out.lo;have:=HO.out.qlt;omega))
     clear hsf hgY hmY hrY hrX y0 y1 y2 q21
     by_cases he0:er=0
     rotate_left
     ·have heI:((er:Int) != 0)=true:=by simpa using he0
      have I7:¬(er:Int)=0:=by omega
      have OS9:=jI (OS6.out.memo HG6.out (HMY.out.mono (fun g h _=>Or.inl h) OS6.out.ms.th))
      go_upto_region 25 with fail
      have HRL:=jI (HLINE.out)
      have hrp:=OS9.out.r2
      have hltp:=jS hrp
      have hltL:=jS HRL.out
      have hneL:wr.heap.size≠w.heap.size:=by have:=HO.out.qlt;have:=HO.out.lo;omega
      obtain⟨Z,hZ,hz1,hz2⟩:=H8 (X:=Y) hrp (.slice none 0 0) (.slice none 0 0) (.int .u16 0) (.slice none 0 0) (.slice none 0 0) (.slice none 0 0)
      have HZZ:=jI hZ
      have HZ1:=jI (show Z.drew.heap[w.heap.size]?=_ from hz1)
      have HBZ:=jI (show Below w.heap.size w Z.drew from below_drewN (OS9.out.bl.trans (hz2.below (fun g e=>by omega) OS9.out.bl.size)) 1)
      have hbd:But (fun g=>g=w.heap.size) Y Y.drew:=.of_below (below_drewN (jQ _ _) 1)
      have hbe:But (fun g=>g=w.heap.size) Y Z.drew:=hz2.trans (.of_below (below_drewN (jQ _ Z) 1))
      rw[hZ] at hbe
      have HRP:=jI hrp
      clear hZ hz1 hz2 hrp
      obtain⟨⟨z0,z1,z2,z3,z4,z5⟩,hfz⟩:=jk (w:=Y) HRP.out
      have f0:=hfz 0
      have f1:=hfz 1
      have f2:=hfz 2
      have f3:=hfz 3
      have f4:=hfz 4
      have f5:=hfz 5
      refine av.start (fun W'=>But (fun g=>g=w.heap.size) Y W') [] [0,1,2,3,5,6] (by kernel_rfl) hbd (fun hHeld=>?_)
      repeat'
       first
       |refine av.take (v:=?_) rfl (by decide +kernel) (by rfl) (fun _ _ _ h=>h) hHeld ?_ ?_
        rotate_left
        focus
         intro w9 h9
         have y1:=aY ((h9.block _ hneL hltL).trans HRL.out) C1.out
         go_simp
         (try with_reducible rfl)
         done
        simp only[Act.put,List.getElem_toArray,List.getElem_cons_succ,List.getElem_cons_zero,List.setIfInBounds_toArray,List.set_cons_zero,List.set_cons_succ]
       |refine av.one 4 rfl (by decide +kernel) (by rfl) (fun K hK=>?_)
       |go_simp
        refine hK.out _ _ (fun _=>hbe) ?_
        clear hK K
        have hHeld:=hbe
      refine av.done (by decide +kernel) ?_
      focus
       go_wp2_with fail
       rw[←HZZ.out]
       refine oJ rfl rfl rfl rfl rfl HZ1.out rfl ?_
       exact⟨zDep,_,d.line,er,rfl,Ec _ _,⟨fun h=>absurd h he0,fun h=>absurd hkd (h.2.2 d hdm)⟩,zR,HBZ.out⟩
     subst he0
     obtain⟨y0,y1,y2⟩:=row3 HRY.out
     have fz2:=jT _ _ 2 _ _ HRY.out
     go_upto_region 27 with fail
     obtain⟨Z,hZ⟩:=kE (Y.setCell ⟨W6.heap.size,2,none⟩ (.slice fA F.length fc))
     have sQ:But (fun g=>g=W6.heap.size) Y Z:=by rw[hZ];exact (But.refl (fun g=>g=W6.heap.size) Y).setCell (b:=W6.heap.size) rfl 2 _
     have hrZ:Z.heap[W6.heap.size]?=some (.cells #[.string dn,.bool false,.slice fA F.length fc] 93 (0,0)):=by rw[hZ];exact aF HRY.out (i:=2) _
     have HRZ:=jI hrZ
     have HZZ:=jI hZ
     have OS9:=jI (OS6.out.memo (aX HG6.out (sQ.below (B:=W6.heap.size) (fun g e=>by omega) (by omega)) (aP _)) ((HMY.out.but (sQ.mono (fun g e=>Or.inr e))).mono (T':=OwnT q [v0,v1,.slice A1 n1 c1',(.slice none 0 0)]) (fun g h _=>Or.inl h) OS6.out.ms.th))
     have HSZ:=jI (HSF.out.keep (w':=Z) (fun g hg hl=>sQ.block g (by omega) hl))
     have hYZ:=sQ.size
     clear y0 y1 y2 fz2 hZ sQ hrZ
     rw[←HZZ.out]
     obtain⟨acc,⟨vs,g1,hown,g3⟩,hal⟩:BH (q+1) k Z (ny w.heap.size q mb [v0,v1,.slice A1 n1 c1',(Value.slice none 0 0)]) (.slice A1 n1 c1'):=OS9.out.rw.rq (BH (q+1) k,.slice A1 n1 c1') (by simp[rowsOf])
     obtain rfl:n1=acc.length:=by obtain⟨_,_,e,-⟩:=aD hown;injection e
     have HOWN:=jI hown
     have hlo8:=OS9.out.lo
     have hqX:=OS9.out.qlt
     have wQ:∀g,(Value.slice A1 acc.length c1').ownBlock=some g→q+1≤g∧g<W6.heap.size:=fun g e=>⟨(hown.lt g e).1,OS6.out.own g (Or.inr ⟨_,by simp,e⟩)⟩
     have HG3:=jI g3
     have HR8X:=jI OS9.out.r8
     clear hown g3
     obtain⟨z0,z1,z2,z3,z4,z5⟩:=dz HR8X.out
     obtain⟨y0,y1,y2⟩:=row3 HRZ.out
     go_wp2_with (at_builtin;refine vU Z rfl (.tmp 115) (.tmp 117) rfl (q+1) _ acc.length _ HOWN.out rfl dn false fA F.length fc rfl (by omega) (by omega) ?_;intro v7 W7 fu hg7 hv7;obtain⟨A7,c7,hv8,hc7⟩:=aD fu;subst hv8;have r8W:=(hg7.block q hqX (fun e=>by have:=(wQ q e.symm).1;omega)).trans HR8X.out;obtain⟨⟨x0,x1,x2,x3,x4,x5⟩,hfz⟩:=jk r8W;have f5:=hfz 5)
     have hv9:(Value.slice A7 (acc.length+1) c7).ownBlock=(Value.slice A1 acc.length c1').ownBlock∨∃g,Z.heap.size≤g∧(Value.slice A7 (acc.length+1) c7).ownBlock=some g:=hv7.imp id (fun e=>⟨_,Nat.le_succ _,e⟩)
     have hdn:∀g,W6.heap.size≤g→g<Z.heap.size→ny w.heap.size q mb [v0,v1,.slice A7 (acc.length+1) c7,(Value.slice none 0 0)] g:=fun g h1 h2=>FJ OS6.out (fun v hv=>by
      simp only[List.mem_cons,List.not_mem_nil,or_false] at hv
      rcases hv with rfl|rfl|rfl|rfl
      ·exact Or.inl ⟨_,by simp,rfl⟩
      ·exact Or.inl ⟨_,by simp,rfl⟩
      ·exact hv9.imp (fun e=>⟨_,by simp,e⟩) (fun⟨g,h3,h4⟩=>⟨g,h3,h4⟩)
      ·exact Or.inl ⟨_,by simp,rfl⟩) h1 h2
     have hdo:∀g,ny w.heap.size q mb [v0,v1,.slice A1 acc.length c1',(Value.slice none 0 0)] g→g<Z.heap.size→ny w.heap.size q mb [v0,v1,.slice A7 (acc.length+1) c7,(Value.slice none 0 0)] g:=fun g h1 h2=>FI (rows:=rowsOf l q k 0 v0 v1 (.slice A1 acc.length c1') (.slice none 0 0)) (i:=2) (Q':=BH (q+1) (k+1)) rfl hv9 h1 h2
     have hpush:=dZ.push (P:=oh) (S:=ny w.heap.size q mb [v0,v1,.slice A7 (acc.length+1) c7,(Value.slice none 0 0)]) g1 (fun i y u hy hu=>ji.mono (HG3.out i y u hy hu) (fun g h1 h2=>⟨hdo g h1.1 h2,h1.2⟩)) ji (x:=⟨dn,false,F⟩) rfl (⟨fA,fc,rfl,HSZ.out.mono (fun g h1 h2=>⟨hdn g (by omega) h2,fun e=>by have:=(wQ g e.symm).2;omega⟩) (by decide)⟩) fu hg7 hv7
     have OS9:=jI (OS9.out.grow 2 (s:=(BH (q+1) k,.slice A1 acc.length c1')) rfl (BH (q+1) (k+1)) _ (Bw _ _) hg7 hv9 ⟨acc++[(⟨dn,false,F⟩:DCli)],hpush,by rw[bD];simp;omega⟩)
     have OS10:=jI (OS9.out.field 5 (.slice A7 (acc.length+1) c7) OS9.out.wl)
     go_roundw
     case rel=>exact⟨k+1,v0,v1,_,wt,f',ch,hA,hcap,by omega,by go_num,rfl,HCH,hchl,jI (OS10.out.weak rfl (jM _ _ _ _ _ _ _ _) (fun i s s' hs hs' D=>Ct (fun hi=>by rw[HD.out hi,hkd];decide) i s s' hs hs' D))⟩
     case measure=>simp[intOf];omega
   ·go_wp2_with (first|(with_reducible refine wpList_load_mid rfl 35 (.tmp 40) rfl g (o+k * 22) rfl cs _ hrange underlying35 rfl mW ?_)|(with_reducible refine bO _ rfl rfl (.tmp 11) (.tmp 41) rfl wr.heap.size cs.toArray rfl rfl _ (jR wr _) rfl HCS.out nD.out ?_;intro W6 hr6 hg6;have p0:=aY hr6 C0.out;rw[hkd] at p0;have p3:=aY hr6 C3.out))
    have hb6:Below wr.heap.size wr W6:=(hbN _).trans (below_grown hg6 (aP _) (by simp))
    have OS6:=jI (HO.out.later hb6)
    have HR6:=jI hr6
    have yo:=jS hr6
    go_roundw
    case rel=>exact⟨k+1,v0,v1,v2,wt,fk,d.names,nA,nc,by omega,by go_num,rfl,HSN,hdl,jI (OS6.out.next (fun hi=>by rw[HD.out hi,hkd];decide))⟩
    case measure=>simp[intOf];omega
  ·obtain rfl:k=N:=by omega
   have hkI:¬(k:Int)<(k:Int):=by omega
   obtain⟨⟨A0,m0,cc0,rfl,hm0⟩,⟨A1,m1,cc1,rfl,hm1⟩,⟨A2,m2,cc2,rfl,hm2⟩,-⟩:=HO.out.forms
   clear hbw
   by_cases hch0:ch.length=0
   ·have h0I:((ch.length:Int)==0)=true:=by rw[hch0];rfl
    have h0L:¬(0:Int)<(ch.length:Int):=by omega
    obtain⟨chn,hchn⟩:=kE ch.length
    rw[←hchn] at h0I h0L ⊢
    clear hchn hch0 HCH hchl
    obtain⟨z0,z1,z2,z3,z4,z5⟩:=dz HO.out.r8
    rename World=>w8
    go_wp2
    go_loopw [131] (fun x wn=>∃(j:Nat)(v3:Value),j≤m1∧x=.int .i64 j∧Hid (qy w b sb mb c A l S q A4 c4 (rowsOf l q k j (.slice A0 m0 cc0) (.slice A1 m1 cc1) (.slice A2 m2 cc2) v3) wt #[.slice A4 n c4,(.slice A0 m0 cc0),.int .u16 (wt:Nat),(.slice A1 m1 cc1),v3,(.slice A2 m2 cc2)] wn fk)) (fun x _=>m1-(intOf x).toNat)
    case atStart=>exact⟨0,_,cu _,rfl,HO⟩
    case round=>
     obtain⟨j,v3,hj,rfl,HJ⟩:=hrel
     clear z0 z1 z2 z3 z4 z5
     have hj0:(0:Int)≤(j:Int):=by omega
     by_cases hj1:j<m1
     ·have hjI:(j:Int)<(m1:Int):=by omega
      obtain⟨-,-,-,A9,m9,c9,rfl,hm9⟩:=HJ.out.forms
      obtain⟨z0,z1,z2,z3,z4,z5⟩:=dz HJ.out.r8
      have hqX:=HJ.out.qlt
      obtain⟨a,hown,hal⟩:FW (q+1) j wr (ny w.heap.size q mb [(.slice A0 m0 cc0),(.slice A1 m1 cc1),(.slice A2 m2 cc2),.slice A9 m9 c9]) (.slice A9 m9 c9):=HJ.out.rw.rq (FW (q+1) j,.slice A9 m9 c9) (by simp[rowsOf])
      obtain rfl:m9=a.length:=by obtain⟨_,_,e,-⟩:=aD hown;injection e
      have HOWN:=jI hown
      have wQ:∀g,(Value.slice A9 a.length c9).ownBlock=some g→q+1≤g∧g<wr.heap.size:=fun g e=>hown.lt g e
      clear hown
      go_wp2_with (at_builtin;refine Ao wr rfl (.tmp 135) (.tmp 137) rfl (q+1) _ a.length _ HOWN.out rfl (j:Int) rfl (by omega) (by omega) ?_;intro v7 W7 fu hg7 hv7;obtain⟨A7,c7,hv8,hc7⟩:=aD fu;subst hv8;have r8W:=(hg7.block q hqX (fun e=>by have:=(wQ q e.symm).1;omega)).trans HJ.out.r8;obtain⟨⟨x0,x1,x2,x3,x4,x5⟩,hfz⟩:=jk r8W;have f4:=hfz 4)
      have hv9:(Value.slice A7 (a.length+1) c7).ownBlock=(Value.slice A9 a.length c9).ownBlock∨∃g,wr.heap.size≤g∧(Value.slice A7 (a.length+1) c7).ownBlock=some g:=hv7.imp id (fun e=>⟨_,Nat.le_succ _,e⟩)
      have OS9:=jI (HJ.out.grow 3 (s:=(FW (q+1) j,.slice A9 a.length c9)) rfl (FW (q+1) (j+1)) _ (AX _ _) hg7 hv9 ⟨a++[(j:Int)],by rw[nR,bD];exact fu,by rw[bD];simp;omega⟩)
      have OS10:=jI (OS9.out.field 4 (.slice A7 (a.length+1) c7) OS9.out.wl)
      go_roundw
      case rel=>exact⟨j+1,_,by omega,by go_num,jI (OS10.out.weak rfl (jM _ _ _ _ _ _ _ _) (fun i s s' hs hs' D=>Cs i s s' hs hs' D))⟩
      case measure=>simp[intOf];omega
     ·obtain rfl:m1=j:=by omega
      have hjI:¬(m1:Int)<(m1:Int):=by omega
      go_wp2
      go_loop [143] (fun x=>x=.int .i64 0) (fun _=>0)
      case atStart=>rfl
      case round=>
       subst hrel
       obtain⟨-,-,-,A9,m9,c9,rfl,-⟩:=HJ.out.forms
       obtain⟨z0,z1,z2,z3,z4,z5⟩:=dz HJ.out.r8
       obtain⟨⟨y0,y1,y2,y3,y4,y5⟩,hfz⟩:=jk HJ.out.r2
       have f0:=hfz 0
       have f1:=hfz 1
       have f2:=hfz 2
       have f3:=hfz 3
       have f4:=hfz 4
       have f5:=hfz 5
       have hqp:¬w.heap.size=q:=by have:=HJ.out.lo;omega
       have hqp2:¬q=w.heap.size:=by omega
       obtain⟨Z,hZ,hz1,hz2⟩:=H8 HJ.out.r2 (.slice A4 n c4) (.slice A0 m0 cc0) (.int .u16 (wt:Nat)) (.slice A1 m1 cc1) (.slice A9 m9 c9) (.slice A2 m2 cc2)
       have HZZ:=jI hZ
       have HZ1:=jI hz1
       have HZ2:=jI hz2
       clear hZ hz1 hz2 hfz
       go_wp2
       rw[←HZZ.out]
       refine oJ rfl rfl rfl rfl rfl HZ1.out rfl ?_
       obtain⟨x,hx1,hx2,hx3,hx4⟩:=HJ.out.dep HZ2.out HNL.out hl55 (by omega) HNN.out (by rw[HNN.out];exact hsv)
       exact⟨x,_,0,0,rfl,hx1,⟨fun _=>⟨rfl,HC.out,hx2,hx3⟩,fun _=>rfl⟩,hx4,HJ.out.bl.trans (HZ2.out.below (fun g e=>by omega) HJ.out.bl.size)⟩
   ·have h0I:((ch.length:Int)==0)=false:=lM hch0
    obtain⟨g2,o2,rfl,hSg2,hc2⟩:=HCH.out.cells (by omega)
    have HC2:=jI hc2
    obtain⟨chn,hchn⟩:=kE ch.length
    have HCN:=jI hchn
    rw[←hchn] at h0I hchl ⊢
    clear hchn hch0 HCH hc2
    rename World=>w8
    go_wp2
    go_loopw [143] (fun x wn=>∃(j:Nat)(v3:Value),j≤chn∧x=.int .i64 j∧Hid (qy w b sb mb c A l S q A4 c4 (rowsOf l q k j (.slice A0 m0 cc0) (.slice A1 m1 cc1) (.slice A2 m2 cc2) v3) wt #[.slice A4 n c4,(.slice A0 m0 cc0),.int .u16 (wt:Nat),(.slice A1 m1 cc1),v3,(.slice A2 m2 cc2)] wn fk)) (fun x _=>chn-(intOf x).toNat)
    case atStart=>exact⟨0,_,cu _,rfl,HO⟩
    case round=>
     obtain⟨j,v3,hj,rfl,HJ⟩:=hrel
     have hj0:(0:Int)≤(j:Int):=by omega
     by_cases hj1:j<chn
     ·have hjI:(j:Int)<(chn:Int):=by omega
      have hjl:j<ch.length:=by rw[←HCN.out];exact hj1
      obtain⟨-,-,-,A9,m9,c9,rfl,hm9⟩:=HJ.out.forms
      have cj:=(HJ.out.bl.cell (p:=⟨g2,o2+j,none⟩) (hS g2 hSg2)).trans (HC2.out j _ (dV ch j hjl))
      obtain⟨cn,hcn⟩:=kE (ch.getD j ByteArray.empty)
      rw[←hcn] at cj
      have hg2s:g2<wr.heap.size:=by have:=hS g2 hSg2;have:=HJ.out.bl.size;omega
      obtain⟨W6,hW6⟩:=kE (wr.alloc (.cells #[.string cn] 9))
      have hb6:Below wr.heap.size wr W6:=by rw[hW6];exact hbA _ _
      have hr6:W6.heap[wr.heap.size]?=some (.cells #[.string cn] 9 (0,0)):=by rw[hW6];exact jR _ _
      have yo:=jS hr6
      have OS6:=jI (HJ.out.later hb6)
      have HW6:=jI hW6
      have HIX:=jI (fun(W:World)(hW:Below W6.heap.size W6 W)=>show Calls prog 42 #[.slice A1 m1 cc1,.func (.func 43) #[] #[.pointer (some ⟨wr.heap.size,0,none⟩)]] W fun e W'=>(∃z:Int,e=.returned (.int .i64 z))∧Below W.heap.size W W' from by
       obtain⟨a1,h1,l1⟩:Ea l (q+1) k W (ny w.heap.size q mb [(.slice A0 m0 cc0),(.slice A1 m1 cc1),(.slice A2 m2 cc2),.slice A9 m9 c9]) (.slice A1 m1 cc1):=(OS6.out.later hW).rw.rq (Ea l (q+1) k,.slice A1 m1 cc1) (by simp[rowsOf])
       obtain⟨B1,d1,e1,-,vs,h2,h3,h4⟩:=h1.list jL
       obtain⟨rfl,rfl,rfl⟩:A1=B1∧m1=a1.length∧cc1=d1:=by injection e1 with p1 p2 p3;exact⟨p1,p2,p3⟩
       have hll:=l1.len
       refine (fx_cfg a1 (·<W.heap.size) A1 cc1 W ⟨vs,h2,h3.mono (fun g _ h=>h) (by decide),fun i x v hx hv=>(h4 i x v hx hv).mono (fun g _ h=>h)⟩ (fun g h=>h) (by omega) 43 (enters_of func43 (by kernel_rfl) rfl) (.pointer (some ⟨wr.heap.size,0,none⟩)) (fun x=>x.name==cn) (fun x _ v W' hv hbW=>cfg_test2 x v cn _ W' _ hv ((hbW.block _ (bZ yo hW.size)).trans ((hW.block _ yo).trans hr6)))).mono fun e W' h=>⟨?_,h.2⟩
       rcases h.1 with ⟨h,-⟩|⟨k2,x,h,-⟩
       ·exact⟨_,h⟩
       ·exact⟨_,h⟩)
      have hqX:=OS6.out.qlt
      obtain⟨a,hown,hal⟩:FW (q+1) j W6 (ny w.heap.size q mb [(.slice A0 m0 cc0),(.slice A1 m1 cc1),(.slice A2 m2 cc2),.slice A9 m9 c9]) (.slice A9 m9 c9):=OS6.out.rw.rq (FW (q+1) j,.slice A9 m9 c9) (by simp[rowsOf])
      obtain rfl:m9=a.length:=by obtain⟨_,_,e,-⟩:=aD hown;injection e
      have HOWN:=jI hown
      have wQ:∀g,(Value.slice A9 a.length c9).ownBlock=some g→q+1≤g∧g<W6.heap.size:=fun g e=>hown.lt g e
      clear hown
      clear hW6 hcn hr6
      go_upto_region 40 with fail
      rw[←HW6.out]
      have hBel:=below_drewN (jQ W6.heap.size W6) 1
      refine av.start (fun W'=>But (fun g=>(Value.slice A9 a.length c9).ownBlock=some g) W6 W') [9] [0,1,2,3,4,8] (by kernel_rfl) (.of_below (below_drewN (jQ _ _) 1)) (fun hHeld=>?_)
      repeat
       refine av.take (v:=?_) rfl (by decide +kernel) (by rfl) (fun _ _ _ h=>h) hHeld ?_ ?_
       rotate_left
       focus
        intro w9 h9
        obtain⟨z0,z1,z2,z3,z4,z5⟩:=dz ((h9.block q (fun e=>by have:=(wQ q e).1;omega) hqX).trans OS6.out.r8)
        go_simp
        (try with_reducible rfl)
        done
       simp only[Act.put,List.getElem_toArray,List.getElem_cons_succ,List.getElem_cons_zero,List.setIfInBounds_toArray,List.set_cons_zero,List.set_cons_succ]
      repeat'
       first
       |refine av.pure (v:=?_) rfl (by decide +kernel) (by rfl) (fun _ _ _ h=>h) (by first|exact fun h=>absurd h (by decide)|exact fun _=>hHeld) ?_ ?_
        rotate_left
        focus
         intro w9
         go_simp
         (try with_reducible rfl)
         done
        simp only[Act.put,List.getElem_toArray,List.getElem_cons_succ,List.getElem_cons_zero,List.setIfInBounds_toArray,List.set_cons_zero,List.set_cons_succ]
       |refine av.one 5 rfl (by decide +kernel) (by rfl) (fun K hK=>?_)
       |refine av.one 6 rfl (by decide +kernel) (by rfl) (fun K hK=>?_)
       |go_simp
        first
        |go_at_call 42
         refine (HIX.out _ hBel).mono ?_
         rintro e Y1 ⟨⟨z,rfl⟩,hb7⟩
         have hBel:=hBel.trans (hb7.mono hBel.size)
         have hHeld:But (fun g=>(Value.slice A9 a.length c9).ownBlock=some g) W6 Y1:=.of_below hBel
         try go_simp
         refine hK.out _ _ (fun _=>hHeld) ?_
         clear hK K
        |refine hK.out _ (World.alloc _ _) (fun _=>.of_below (hBel.alloc hBel.size _)) ?_
         have hlit:=jR Y1 (.cells #[.int .i64 z] 3)
         have hBel:=hBel.alloc hBel.size (.cells #[.int .i64 z] 3)
         have hHeld:But (fun g=>(Value.slice A9 a.length c9).ownBlock=some g) W6 (Y1.alloc (.cells #[.int .i64 z] 3)):=.of_below hBel
         clear hK K
      refine av.one 7 rfl (by decide +kernel) (by rfl) (fun K hK=>?_)
      have OS7:=jI (OS6.out.later hBel)
      refine op_int2 _ (.tmp 148) (.tmp 153) rfl (q+1) (.slice A9 a.length c9) a.length (bY a) (own_below HOWN.out hBel (aP _)) rfl _ 1 z hlit rfl (by omega) (by have:=OS7.out.qlt;omega) ?_
      intro v7 W7 fu hg7 hv7
      obtain⟨A7,c7,rfl,-⟩:=aD fu
      have Db:But (fun g=>(Value.slice A9 a.length c9).ownBlock=some g) W6 W7:=hHeld.trans ⟨hg7.os,hg7.tape,hg7.output,hg7.size,fun g hne hl=>hg7.block g hl (fun e=>hne e.symm)⟩
      refine hK.out _ _ (fun _=>Db) ?_
      clear hK K hHeld
      have hHeld:=Db
      have OS8:=jI ((OS7.out.grow 3 (s:=(FW (q+1) j,.slice A9 a.length c9)) rfl (FW (q+1) (j+1)) _ (AX _ _) hg7 hv7 ⟨a++[z],by rw[nR,bD];exact fu,by rw[bD];simp;omega⟩))
      obtain⟨⟨z0,z1,z2,z3,z4,z5⟩,hfz⟩:=jk OS8.out.r8
      have f4:=hfz 4
      repeat'
       first
       |refine av.pure (v:=?_) rfl (by decide +kernel) (by rfl) (fun _ _ _ h=>h) (by first|exact fun h=>absurd h (by decide)|exact fun _=>hHeld) ?_ ?_
        rotate_left
        focus
         intro w9
         go_simp
         (try with_reducible rfl)
         done
        simp only[Act.put,List.getElem_toArray,List.getElem_cons_succ,List.getElem_cons_zero,List.setIfInBounds_toArray,List.set_cons_zero,List.set_cons_succ]
      refine av.one 9 rfl (by decide +kernel) (by rfl) (fun K hK=>?_)
      go_simp
      refine hK.out _ (World.setCell _ ⟨q,4,none⟩ _) (fun h=>absurd h (by decide)) ?_
      clear hK K
      refine av.done (by decide +kernel) ?_
      have OS10:=jI (OS8.out.field 4 (.slice A7 (a.length+1) c7) OS8.out.wl)
      go_wp2_with fail
      go_roundw
      case rel=>exact⟨j+1,_,by omega,by go_num,jI (OS10.out.weak rfl (jM _ _ _ _ _ _ _ _) (fun i s s' hs hs' D=>Cs i s s' hs hs' D))⟩
      case measure=>simp[intOf];omega
     ·obtain rfl:j=chn:=by omega
      have hjI:¬(j:Int)<(j:Int):=by omega
      obtain⟨-,-,-,A9,m9,c9,rfl,-⟩:=HJ.out.forms
      obtain⟨z0,z1,z2,z3,z4,z5⟩:=dz HJ.out.r8
      obtain⟨⟨y0,y1,y2,y3,y4,y5⟩,hfz⟩:=jk HJ.out.r2
      have f0:=hfz 0
      have f1:=hfz 1
      have f2:=hfz 2
      have f3:=hfz 3
      have f4:=hfz 4
      have f5:=hfz 5
      have hqp:¬w.heap.size=q:=by have:=HJ.out.lo;omega
      have hqp2:¬q=w.heap.size:=by omega
      obtain⟨Z,hZ,hz1,hz2⟩:=H8 HJ.out.r2 (.slice A4 n c4) (.slice A0 m0 cc0) (.int .u16 (wt:Nat)) (.slice A1 m1 cc1) (.slice A9 m9 c9) (.slice A2 m2 cc2)
      have HZZ:=jI hZ
      have HZ1:=jI hz1
      have HZ2:=jI hz2
      clear hZ hz1 hz2 hfz
      go_wp2
      rw[←HZZ.out]
      refine oJ rfl rfl rfl rfl rfl HZ1.out rfl ?_
      obtain⟨x,hx1,hx2,hx3,hx4⟩:=HJ.out.dep HZ2.out HNL.out hl55 hchl HNN.out (by rw[HNN.out];exact hsv)
      exact⟨x,_,0,0,rfl,hx1,⟨fun _=>⟨rfl,HC.out,hx2,hx3⟩,fun _=>rfl⟩,hx4,HJ.out.bl.trans (HZ2.out.below (fun g e=>by omega) HJ.out.bl.size)⟩
end
end Go.Proofs.YtmohibkomlhlaaaGreatDoor
