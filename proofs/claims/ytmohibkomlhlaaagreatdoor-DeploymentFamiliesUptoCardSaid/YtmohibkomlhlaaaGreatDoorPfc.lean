/- The contracts of sets and of config at declarations without an error. Condition: the table of math/bits lies in the world. The rows that Of builds: lists of the call's own, apart from each other and from what they hold. No condition. -/
import Derived.Test.YtmohibkomlhlaaaGreatDoorPfb
import Derived.Test.YtmohibkomlhlaaaGreatDoorPnb
set_option maxRecDepth 100000
set_option maxHeartbeats 16000000
namespace Go.Proofs.YtmohibkomlhlaaaGreatDoor
section
open Go.RowKit
open _root_.Go.Proofs.Tryz
def iI(r:Ex × Nat):List Nat × Nat:=if r.2=0 then pu r.1 else ([],r.2)
theorem wsetsW{b sb mb c:Nat}{A:Option Addr}{l:List Dc}(w:World)(S:Nat→Prop)(hw:Wd w b sb mb A c l)(hls:aO (dS w S) w S 22 A l)(hS:∀g,S g→g<w.heap.size)(t:Tm)(v:Value)(ht:dX w S t v)(r:Ex × Nat)(hx:EOk b sb mb A c l t r)(hxl:r.2=0→kY r.1)(hz:Tz w):
  Calls prog 75 #[.pointer (some ⟨b,0,none⟩),v] w (Bz (iI r).1 (iI r).2 w):=by
 obtain⟨x,er⟩:=r
 by_cases h0:er=0
 ·subst h0
  exact wsets_any w S hw hls hS t v ht x hx (hxl rfl) hz
 ·have e1:iI (x,er)=([],er):=if_neg h0
  rw[e1]
  have ht2:=ht
  obtain⟨o1,m1,d1,wA1,wn1,wc1,kA1,kn1,kc1,rfl⟩:=ht2.form
  clear ht2
  obtain⟨W0,hW0⟩:=kE (w.alloc (.cells #[.int .i64 o1,.string m1,.int .i64 d1,.slice wA1 wn1 wc1,.slice kA1 kn1 kc1] 26))
  have hb0:Below w.heap.size w W0:=by rw[hW0];exact (jQ _ _).alloc (aP _) _
  have HC:=jI (hx _ W0 S (hw.below hb0) (hls.keep (aj hb0 hS) (fun _ _ h=>h.keep (aj hb0 hS))) (ht.keep (aj hb0 hS)) (fun g hg=>by have:=hS g hg;have:=hb0.size;omega))
  have H0:=jI hW0
  have heI:((er:Int) != 0)=true:=by simpa using h0
  have I7:¬(er:Int)=0:=by omega
  clear hw hls hS ht hx hW0 hz hxl e1 h0
  go_enter func75,ntmps75
  go_wp2_with fail
  rw[←H0.out]
  refine HC.out.mono ?_
  rintro e w2 ⟨v2,rfl,hx2,hb2⟩
  obtain⟨A2,c2,rfl,-,-⟩:=hx2
  go_wp2
  go_ret2
  exact⟨none,0,rfl,ak.empty _ _ _ _,aP _,hb0.trans ((hb2.alloc hb2.size _).mono hb0.size)⟩
def SLm(L:List Nat):Prop:=L.length≤400∧∀x∈L,x<65536
theorem fam_lim(x:Ex):SLm (pu x).1:=by
 unfold pu
 split
 ·exact⟨cu _,fun x hx=>by (cases hx)⟩
 ·rename_i he
  split
  ·exact⟨by decide,fun x hx=>by (cases hx)⟩
  ·rename_i h4
   refine⟨by simpa using h4,fun y hy=>?_⟩
   have hm:=Dq x _ y hy
   obtain⟨k,-,hk⟩:=List.mem_flatMap.1 hm
   exact xG (uK (GH (Decidable.not_not.1 he)).server) y hk
theorem Gi(r:Ex × Nat):SLm (iI r).1:=by
 unfold iI
 split
 ·exact fam_lim _
 ·exact⟨cu _,fun x hx=>by (cases hx)⟩
theorem H8{X:World}{b:Nat}{a0 a1 a2 a3 a4 a5:Value}{T:TypeId}(h:X.heap[b]?=some (.cells #[a0,a1,a2,a3,a4,a5] T (0,0)))(b0 b1 b2 b3 b4 b5:Value):
  ∃X':World,X'=((((((X.setCell ⟨b,0,none⟩ b0).setCell ⟨b,1,none⟩ b1).setCell ⟨b,2,none⟩ b2).setCell ⟨b,3,none⟩ b3).setCell ⟨b,4,none⟩ b4).setCell ⟨b,5,none⟩ b5)∧X'.heap[b]?=some (.cells #[b0,b1,b2,b3,b4,b5] T (0,0))∧But (fun g=>g=b) X X':=
 ⟨_,rfl,aF (aF (aF (aF (aF (aF h b0) b1) b2) b3) b4) b5,((((((But.refl (fun g=>g=b) X).setCell (b:=b) rfl 0 _).setCell rfl 1 _).setCell rfl 2 _).setCell rfl 3 _).setCell rfl 4 _).setCell rfl 5 _⟩
theorem jk{w:World}{b:Nat}{v0 v1 v2 v3 v4 v5:Value}{t:TypeId}(h:w.heap[b]?=some (.cells #[v0,v1,v2,v3,v4,v5] t (0,0))):(w.cell? ⟨b,0,none⟩=some v0∧w.cell? ⟨b,1,none⟩=some v1∧w.cell? ⟨b,2,none⟩=some v2∧w.cell? ⟨b,3,none⟩=some v3∧w.cell? ⟨b,4,none⟩=some v4∧w.cell? ⟨b,5,none⟩=some v5)∧∀i,w.frozen? ⟨b,i,none⟩=false:=by
 refine⟨⟨?_,?_,?_,?_,?_,?_⟩,fun i=>jT _ _ i _ _ h⟩<;>rw[j5 w _ _ _ _ _ h]<;>rfl
abbrev zCf:Array Value:=#[.string ⟨#[]⟩,.int .i64 0,.int .u16 0,.slice none 0 0,.slice none 0 0,.slice none 0 0]
structure GSt(w W:World)(nm:ByteArray)(kd:Int)(cs:List Value)(mem:Nat)(v3 v4:Value):Prop where
 bl:Below w.heap.size w W
 r3:W.heap[w.heap.size]?=some (.cells cs.toArray 35 (0,0))
 r4:W.heap[w.heap.size+1]?=some (.cells zCf 54 (0,0))
 r6:W.heap[w.heap.size+1+1]?=some (.cells #[.string nm,.int .i64 kd,.int .u16 (mem:Nat),v3,v4,.slice none 0 0] 54 (0,0))
section
variable {w W W':World} {nm:ByteArray} {kd:Int} {cs:List Value} {mem:Nat} {v3 v4:Value}
theorem GSt.later(h:GSt w W nm kd cs mem v3 v4)(hb:Below W.heap.size W W'):GSt w W' nm kd cs mem v3 v4:=
 ⟨h.bl.trans (hb.mono h.bl.size),(hb.block _ (jS h.r3)).trans h.r3,(hb.block _ (jS h.r4)).trans h.r4,(hb.block _ (jS h.r6)).trans h.r6⟩
theorem GSt.set{mem':Nat}{v3' v4':Value}(h:GSt w W nm kd cs mem v3 v4)(i:Nat)(u:Value)(hrow:(#[.string nm,.int .i64 kd,.int .u16 (mem:Nat),v3,v4,.slice none 0 0]:Array Value).setIfInBounds i u=#[.string nm,.int .i64 kd,.int .u16 (mem':Nat),v3',v4',.slice none 0 0]):GSt w (W.setCell ⟨w.heap.size+1+1,i,none⟩ u) nm kd cs mem' v3' v4':=by
 have hne:∀g,g≠w.heap.size+1+1→(W.setCell ⟨w.heap.size+1+1,i,none⟩ u).heap[g]?=W.heap[g]?:=fun g hg=>kC W ⟨w.heap.size+1+1,i,none⟩ u g hg
 refine⟨h.bl.setCell (p:=⟨w.heap.size+1+1,i,none⟩) (by show w.heap.size≤w.heap.size+1+1;omega) _,(hne _ (by omega)).trans h.r3,(hne _ (by omega)).trans h.r4,?_⟩
 rw[←hrow]
 exact aF h.r6 (i:=i) u
theorem GSt.dc(h:GSt w W nm kd cs mem v3 v4){j:Nat}{u:Value}(hj:cs[j]?=some u):W.cell? ⟨w.heap.size,j,none⟩=some u:=aY h.r3 hj
end
structure CfOk(l:List Dc)(d:Dc)(x:BF):Prop where
 name:x.name=d.name
 read:iI (bS l d.read)=(x.read,0)
 write:iI (bS l d.write)=(x.write,0)
 mem:x.mem=dY x.read|||dY x.write
 md:MdR l d.use x.faults
 lim:x.faults.length≤100∧SLm x.read∧SLm x.write
def CfG(l:List Dc)(d:Dc):Prop:=(iI (bS l d.read)).2=0∧(iI (bS l d.write)).2=0∧MdG l d.use
def CfgW(b sb mb c:Nat)(A:Option Addr)(l:List Dc)(S T:Nat→Prop)(d:Dc)(w:World)(e:Ending)(w':World):Prop:=
 ∃(x:BF)(v:Value)(er:Nat)(f':ByteArray→Option Value),e=.returned (.tuple #[v,.int .i64 (er:Nat)])∧eH w' (w.heap.size≤·) x v∧((er=0→CfOk l d x)∧(CfG l d→er=0))∧w.grownBy w' (some mb)∧MSt b sb mb c A l S T w' f'
theorem zo{b sb mb c:Nat}{A:Option Addr}{l:List Dc}(hc:(bf l).2=0)(hsz:(l.map aW).sum≤1100000)(i:Nat){t:Tm}(ht:Typed (l.take i) t)(hst:ax t≤1550000):EOk b sb mb A c l t (bS l t)∧((bS l t).2=0→kY (bS l t).1):=by
 have hl:=wH hc hsz
 have hg:=sD (ic hc i) (dW hc).2 (Q:=QOk b sb mb A c l (jg (qGo l l))) (fun x hx=>yR hc hsz x (((ic hc i).sub x (by rw[hx];decide)).trans hx)) _ t (aP _) hst ht
 exact⟨qj hl hg,uU hl hg⟩
theorem zJ{l:List Dc}(hc:(bf l).2=0){i:Nat}(hi:i<l.length)(hk:l[i].kind=4):Typed (l.take i) l[i].read∧Typed (l.take i) l[i].write∧(l[i].proto=(⟨#[99,114,97,115,104]⟩:ByteArray)∨l[i].proto=(⟨#[98,121,122,97,110,116,105,110,101]⟩:ByteArray)):=by
 have hE:=zC ((je hc).2.1 i hi) hk
 have hok:=((dW hc).1 l[i] (bQ hi)).conf
 rw[hk,if_pos (show jO 4=true by decide)] at hok
 simp only[Bool.and_eq_true,Bool.or_eq_true,eT] at hok
 exact⟨⟨hok.1.1.2,hE.1⟩,⟨hok.1.2,hE.2.1⟩,hok.1.1.1⟩
theorem configW{b sb mb c:Nat}{A:Option Addr}{l:List Dc}{S:Nat→Prop}(hc:(bf l).2=0)(hsz:(l.map aW).sum≤1100000)(i:Nat)(hi:i<l.length)(hk:l[i].kind=4)(T:Nat→Prop)(w:World)(f:ByteArray→Option Value)(hst:MSt b sb mb c A l S T w f)(hT:∀g,T g→g<w.heap.size)(v:Value)(hd:dS w S l[i] v):
  Calls prog 40 #[.pointer (some ⟨b,0,none⟩),v] w (CfgW b sb mb c A l S T l[i] w):=by
 have hbA:∀(W:World)(o:Obj),Below W.heap.size W (W.alloc o):=fun W o=>(jQ _ _).alloc (aP _) o
 obtain⟨hty1,hty2,hpp⟩:=zJ hc hi hk
 have hts:=om hsz (bQ hi)
 have hex1:=zo (b:=b) (sb:=sb) (mb:=mb) (c:=c) (A:=A) hc hsz i hty1 hts.2.1
 have hex2:=zo (b:=b) (sb:=sb) (mb:=mb) (c:=c) (A:=A) hc hsz i hty2 hts.2.2
 have huse:=(zC ((je hc).2.1 i hi) hk).2.2
 have hus2:l[i].use.size≤maxLen:=by
  have h1:=gZ (bQ hi)
  have e1:aW l[i]=l[i].name.size+aZ l[i].names+(l[i].faults.map dJ).sum+ax l[i].term+l[i].proto.size+ax l[i].read+ax l[i].write+l[i].use.size+1:=rfl
  unfold maxLen;omega
 have HMOK:=jI (Cw (b:=b) (sb:=sb) (mb:=mb) (c:=c) (A:=A) (S:=S) hc hsz i (dF hi) l[i].use hus2 huse)
 have hlt:=hst.lt
 have hwlt:=hst.wd.lt
 obtain⟨d,hdd⟩:=kE (l[i])
 rw[←hdd] at hd hpp hex1 hex2 HMOK ⊢
 clear hty1 hty2 hts huse hus2 hdd hk
 obtain⟨kd,hpk⟩:∃kd:Int,(d.proto=(⟨#[99,114,97,115,104]⟩:ByteArray)∧kd=1)∨(d.proto=(⟨#[98,121,122,97,110,116,105,110,101]⟩:ByteArray)∧kd=2):=hpp.elim (fun h=>⟨1,Or.inl ⟨h,rfl⟩⟩) (fun h=>⟨2,Or.inr ⟨h,rfl⟩⟩)
 obtain⟨nA,nc,fA,fc,vt,vr,vw,rfl,-,-,-,-,h5,h6,h7⟩:=hd
 have HT6:=jI h6
 have HT7:=jI h7
 obtain⟨o1,m1,d1,wA1,wn1,wc1,kA1,kn1,kc1,rfl⟩:=h5.form
 obtain⟨o2,m2,d2,wA2,wn2,wc2,kA2,kn2,kc2,rfl⟩:=h6.form
 obtain⟨o3,m3,d3,wA3,wn3,wc3,kA3,kn3,kc3,rfl⟩:=h7.form
 clear h5 h6 h7 hpp
 simp only[Value.cells,List.append_toArray,List.cons_append,List.nil_append]
 have hSW:∀{W:World},Below w.heap.size w W→MSt b sb mb c A l S T W f:=fun hW=>hst.later hW
 have HS1:=jI (fun(W:World)(hW:Below w.heap.size w W)=>wsetsW W S (hSW hW).wd (hSW hW).ls (hSW hW).hS d.read _ (HT6.out.keep (aj hW hst.hS)) _ hex1.1 hex1.2 (hSW hW).tz)
 have HS2:=jI (fun(W:World)(hW:Below w.heap.size w W)=>wsetsW W S (hSW hW).wd (hSW hW).ls (hSW hW).hS d.write _ (HT7.out.keep (aj hW hst.hS)) _ hex2.1 hex2.2 (hSW hW).tz)
 have hl1:=Gi (bS l d.read)
 have hl2:=Gi (bS l d.write)
 obtain⟨R,hR⟩:=kE ((iI (bS l d.read)).1)
 obtain⟨er1,her1⟩:=kE ((iI (bS l d.read)).2)
 obtain⟨Wr,hWr⟩:=kE ((iI (bS l d.write)).1)
 obtain⟨er2,her2⟩:=kE ((iI (bS l d.write)).2)
 rw[←hR] at hl1
 rw[←hWr] at hl2
 simp only[←hR,←her1] at HS1
 simp only[←hWr,←her2] at HS2
 have HGE1:=jI (show CfG l d→er1=0 from fun h=>her1.trans h.1)
 have HGE2:=jI (show CfG l d→er2=0 from fun h=>her2.trans h.2.1)
 have HE1:=jI (show er1=0→iI (bS l d.read)=(R,0) from fun h=>Prod.ext hR.symm (her1.symm.trans h))
 have HE2:=jI (show er2=0→iI (bS l d.write)=(Wr,0) from fun h=>Prod.ext hWr.symm (her2.symm.trans h))
 have HL1:=jI hl1
 have HL2:=jI hl2
 obtain⟨nm,hnm⟩:=kE d.name
 obtain⟨us,hus⟩:=kE d.use
 obtain⟨pr,hpr⟩:=kE d.proto
 have HNM:=jI hnm
 have HUS:=jI hus
 rw[←hus] at HMOK
 rw[←hpr] at hpk
 rw[←hnm,←hus,←hpr]
 have GV:=jI hst
 clear hnm hus hpr hex1 hex2 hst hSW hR her1 hWr her2 HT6 HT7 hl1 hl2
 obtain⟨cs,hcs⟩:∃cs:List Value,cs=[.int .i64 d.kind,.int .i64 d.line,.string nm,.slice nA d.names.length nc,.slice fA d.faults.length fc,.int .i64 o1,.string m1,.int .i64 d1,.slice wA1 wn1 wc1,.slice kA1 kn1 kc1,.string pr,.int .i64 o2,.string m2,.int .i64 d2,.slice wA2 wn2 wc2,.slice kA2 kn2 kc2,.int .i64 o3,.string m3,.int .i64 d3,.slice wA3 wn3 wc3,.slice kA3 kn3 kc3,.string us]:=⟨_,rfl⟩
 obtain⟨W0,hW0⟩:=kE (((w.alloc (.cells #[.int .i64 d.kind,.int .i64 d.line,.string nm,.slice nA d.names.length nc,.slice fA d.faults.length fc,.int .i64 o1,.string m1,.int .i64 d1,.slice wA1 wn1 wc1,.slice kA1 kn1 kc1,.string pr,.int .i64 o2,.string m2,.int .i64 d2,.slice wA2 wn2 wc2,.slice kA2 kn2 kc2,.int .i64 o3,.string m3,.int .i64 d3,.slice wA3 wn3 wc3,.slice kA3 kn3 kc3,.string us] 35)).alloc (.cells #[.string ⟨#[]⟩,.int .i64 0,.int .u16 0,.slice none 0 0,.slice none 0 0,.slice none 0 0] 54)).alloc (.cells #[.string nm,.int .i64 2,.int .u16 0,.slice none 0 0,.slice none 0 0,.slice none 0 0] 54))
 have hb0:Below w.heap.size w W0:=by rw[hW0];exact ((hbA _ _).alloc (by simp) _).alloc (by simp;omega) _
 have q3:W0.heap[w.heap.size]?=some (.cells cs.toArray 35 (0,0)):=by rw[hW0,hcs,kD _ _ (by simp<;>omega),kD _ _ (by simp<;>omega)];exact alloc_at _ _ (by simp)
 have q4:W0.heap[w.heap.size+1]?=some (.cells #[.string ⟨#[]⟩,.int .i64 0,.int .u16 0,.slice none 0 0,.slice none 0 0,.slice none 0 0] 54 (0,0)):=by rw[hW0,kD _ _ (by simp<;>omega)];exact alloc_at _ _ (by simp)
 have q6:W0.heap[w.heap.size+1+1]?=some (.cells #[.string nm,.int .i64 2,.int .u16 0,.slice none 0 0,.slice none 0 0,.slice none 0 0] 54 (0,0)):=by rw[hW0];exact alloc_at _ _ (by simp)
 have e10:cs[10]?=some (.string pr):=by rw[hcs];rfl
 have E1:cs[11]?=some (.int .i64 o2)∧cs[12]?=some (.string m2)∧cs[13]?=some (.int .i64 d2)∧cs[14]?=some (.slice wA2 wn2 wc2)∧cs[15]?=some (.slice kA2 kn2 kc2):=by rw[hcs];exact⟨rfl,rfl,rfl,rfl,rfl⟩
 have E2:cs[16]?=some (.int .i64 o3)∧cs[17]?=some (.string m3)∧cs[18]?=some (.int .i64 d3)∧cs[19]?=some (.slice wA3 wn3 wc3)∧cs[20]?=some (.slice kA3 kn3 kc3):=by rw[hcs];exact⟨rfl,rfl,rfl,rfl,rfl⟩
 have E3:cs[21]?=some (.string us):=by rw[hcs];rfl
 have X1:=jI E1
 have X2:=jI E2
 have X3:=jI E3
 have H0:=jI hW0
 have hst1:GSt w (W0.setCell ⟨w.heap.size+1+1,1,none⟩ (.int .i64 1)) nm 1 cs 0 (.slice none 0 0) (.slice none 0 0):=by
  have hne:∀g,g≠w.heap.size+1+1→(W0.setCell ⟨w.heap.size+1+1,1,none⟩ (.int .i64 1)).heap[g]?=W0.heap[g]?:=fun g hg=>kC W0 ⟨w.heap.size+1+1,1,none⟩ (.int .i64 1) g hg
  exact⟨hb0.setCell (p:=⟨w.heap.size+1+1,1,none⟩) (by show w.heap.size≤w.heap.size+1+1;omega) _,(hne _ (by omega)).trans q3,(hne _ (by omega)).trans q4,aF q6 (i:=1) (.int .i64 1)⟩
 have hst2:GSt w W0 nm 2 cs 0 (.slice none 0 0) (.slice none 0 0):=⟨hb0,q3,q4,q6⟩
 have HST1:=jI hst1
 have HST2:=jI hst2
 have k10:=aY q3 e10
 obtain⟨⟨-,k61,-,-,-,-⟩,hfz⟩:=jk q6
 have f61:=hfz 1
 clear hW0 hcs q3 q4 q6 hst1 hst2 E1 E2 E3 e10 hfz hb0
 go_enter func40,ntmps40
 go_upto_region 2 with fail
 rw[←H0.out]
 have key:∀(kd:Int)(W1:World),True:=fun _ _=>trivial
 rcases hpk with ⟨rfl,rfl⟩|⟨rfl,rfl⟩
 ·go_upto_region 4 with fail
  obtain⟨W1,hW1⟩:=kE (W0.setCell ⟨w.heap.size+1+1,1,none⟩ (.int .i64 1))
  have HST:=HST1.out
  rw[←hW1] at HST ⊢
  clear hW1
  have hb1:=HST.bl
  obtain⟨t11,t12,t13,t14,t15⟩:=X1.out
  have p11:=HST.dc t11
  have p12:=HST.dc t12
  have p13:=HST.dc t13
  have p14:=HST.dc t14
  have p15:=HST.dc t15
  have ST1:=jI HST
  clear HST k10 k61 f61 t11 t12 t13 t14 t15
  go_wp2_with fail
  refine (HS1.out W1 hb1).mono ?_
  rintro e w2 ⟨rA,rc,rfl,hsr,hrc,hb2⟩
  have ST2a:=jI (ST1.out.later hb2)
  have HSR:=jI ((hsr.mono (S':=fun g=>w.heap.size+1+1<g) (fun g hg _=>by have:=jS ST1.out.r6;omega) (by decide)))
  obtain⟨⟨z0,z1,z2,z3,z4,z5⟩,hfz⟩:=jk ST2a.out.r6
  have f3:=hfz 3
  clear hsr hfz p11 p12 p13 p14 p15
  by_cases Fh:er1=0
  rotate_left
  ·have heI:((er1:Int) != 0)=true:=by simpa using Fh
   have I7:¬(er1:Int)=0:=by omega
   obtain⟨⟨c0,c1,c2,c3,c4,c5⟩,kT⟩:=jk (ST2a.out).r4
   have g0:=kT 0
   have g1:=kT 1
   have g2:=kT 2
   have g3:=kT 3
   have g4:=kT 4
   have g5:=kT 5
   have hrx:=((ST2a.out).set (mem':=0) (v3':=.slice rA R.length rc) (v4':=.slice none 0 0) 3 (.slice rA R.length rc) rfl)
   obtain⟨Z,hZ,hz1,hz2⟩:=H8 hrx.r4 (.string ⟨#[]⟩) (.int .i64 0) (.int .u16 0) (.slice none 0 0) (.slice none 0 0) (.slice none 0 0)
   have HZ1:=jI hz1
   have hbZ:Below w.heap.size w Z:=hrx.bl.trans (hz2.below (fun g e=>by omega) hrx.bl.size)
   have HZ:=jI hZ
   clear kT hz1 hz2 hZ hrx
   go_wp2
   rw[←HZ.out]
   refine pE rfl rfl rfl rfl HZ1.out rfl ?_
   exact⟨zCfg,_,er1,f,rfl,pV _ _,⟨fun h=>absurd h Fh,HGE1.out⟩,aM hbZ,GV.out.later hbZ⟩
  subst Fh
  have ST2:=jI (ST2a.out.set (mem':=0) (v3':=.slice rA R.length rc) (v4':=.slice none 0 0) 3 (.slice rA R.length rc) rfl)
  go_upto_region 8 with fail
  obtain⟨W3,hW3⟩:=kE (w2.setCell ⟨w.heap.size+1+1,3,none⟩ (.slice rA R.length rc))
  have HST:=ST2.out
  rw[←hW3] at HST ⊢
  have hb3:=HST.bl
  have HSR3:=jI (show ak W3 (fun g=>w.heap.size+1+1<g) 1 rA R.length (dH R) from HSR.out.keep (fun g hg _=>by rw[hW3];exact kC w2 ⟨w.heap.size+1+1,3,none⟩ (.slice rA R.length rc) g (show g≠w.heap.size+1+1 by omega)))
  obtain⟨t16,t17,t18,t19,t20⟩:=X2.out
  have p16:=HST.dc t16
  have p17:=HST.dc t17
  have p18:=HST.dc t18
  have p19:=HST.dc t19
  have p20:=HST.dc t20
  have ST3:=jI HST
  clear hW3 HST t16 t17 t18 t19 t20 z0 z1 z2 z3 z4 z5 f3 hb2 ST2 ST2a HSR
  go_wp2_with fail
  refine (HS2.out W3 hb3).mono ?_
  rintro e w4 ⟨wA,wc,rfl,hsw,hwc,hb4⟩
  have ST4a:=jI (ST3.out.later hb4)
  have HSR4:=jI (HSR3.out.keep (aA hb4))
  have HSW4:=jI ((hsw.mono (S':=fun g=>w.heap.size+1+1<g) (fun g hg _=>by have:=jS ST3.out.r6;omega) (by decide)))
  obtain⟨⟨z0,z1,z2,z3,z4,z5⟩,hfz⟩:=jk ST4a.out.r6
  have f4:=hfz 4
  clear hsw hfz p16 p17 p18 p19 p20 HSR3
  by_cases Fg:er2=0
  rotate_left
  ·have heI:((er2:Int) != 0)=true:=by simpa using Fg
   have I7:¬(er2:Int)=0:=by omega
   obtain⟨⟨c0,c1,c2,c3,c4,c5⟩,kT⟩:=jk (ST4a.out).r4
   have g0:=kT 0
   have g1:=kT 1
   have g2:=kT 2
   have g3:=kT 3
   have g4:=kT 4
   have g5:=kT 5
   have hrx:=((ST4a.out).set (mem':=0) (v3':=.slice rA R.length rc) (v4':=.slice wA Wr.length wc) 4 (.slice wA Wr.length wc) rfl)
   obtain⟨Z,hZ,hz1,hz2⟩:=H8 hrx.r4 (.string ⟨#[]⟩) (.int .i64 0) (.int .u16 0) (.slice none 0 0) (.slice none 0 0) (.slice none 0 0)
   have HZ1:=jI hz1
   have hbZ:Below w.heap.size w Z:=hrx.bl.trans (hz2.below (fun g e=>by omega) hrx.bl.size)
   have HZ:=jI hZ
   clear kT hz1 hz2 hZ hrx
   go_wp2
   rw[←HZ.out]
   refine pE rfl rfl rfl rfl HZ1.out rfl ?_
   exact⟨zCfg,_,er2,f,rfl,pV _ _,⟨fun h=>absurd h Fg,HGE2.out⟩,aM hbZ,GV.out.later hbZ⟩
  subst Fg
  have ST4:=jI (ST4a.out.set (mem':=0) (v3':=.slice rA R.length rc) (v4':=.slice wA Wr.length wc) 4 (.slice wA Wr.length wc) rfl)
  go_upto_region 11 with fail
  obtain⟨W5,hW5⟩:=kE (w4.setCell ⟨w.heap.size+1+1,4,none⟩ (.slice wA Wr.length wc))
  have HST:=ST4.out
  rw[←hW5] at HST ⊢
  have hk5:∀g,w.heap.size+1+1<g→g<w4.heap.size→W5.heap[g]?=w4.heap[g]?:=fun g hg _=>by rw[hW5];exact kC w4 ⟨w.heap.size+1+1,4,none⟩ (.slice wA Wr.length wc) g (show g≠w.heap.size+1+1 by omega)
  have HSR5:=jI (HSR4.out.keep hk5)
  have HSW5:=jI (HSW4.out.keep hk5)
  have ST5:=jI HST
  clear hW5 HST z0 z1 z2 z3 z4 z5 f4 hb4 ST4 ST4a HSR4 HSW4 hk5
  obtain⟨uR,huR⟩:=kE (dY R)
  obtain⟨uW,huW⟩:=kE (dY Wr)
  have HS3:=jI (fun(W:World)(hW:Below W5.heap.size W5 W)=>mM R HL1.out.2 rA rc W (·<W.heap.size) ((HSR5.out.keep (aA hW)).mono (fun g _ hl=>hl) (by decide)) (fun g hg=>hg) (by have:=HL1.out.1;omega))
  have HS4:=jI (fun(W:World)(hW:Below W5.heap.size W5 W)=>mM Wr HL2.out.2 wA wc W (·<W.heap.size) ((HSW5.out.keep (aA hW)).mono (fun g _ hl=>hl) (by decide)) (fun g hg=>hg) (by have:=HL2.out.1;omega))
  have h16R:uR<65536:=by rw[huR];exact iY (k:=16) HL1.out.2
  have h16W:uW<65536:=by rw[huW];exact iY (k:=16) HL2.out.2
  simp only[←huR] at HS3
  simp only[←huW] at HS4
  have hob:=u16_or_nat uR uW h16R h16W
  obtain⟨uu,huu⟩:=kE (uR|||uW)
  rw[←huu] at hob
  have HUU:=jI (show uu=dY R|||dY Wr by rw[huu,huR,huW])
  clear huR huW huu
  refine av.start (fun W'=>Below W5.heap.size W5 W') [8] [0,1,3,4,7] (by kernel_rfl) (below_drewN (jQ _ _) 1) (fun hHeld=>?_)
  repeat
   refine av.take (v:=?_) rfl (by decide +kernel) (by rfl) (fun _ _ _ h=>h) hHeld ?_ ?_
   rotate_left
   focus
    intro w9 h9
    obtain⟨⟨z0,z1,z2,z3,z4,z5⟩,-⟩:=jk (ST5.out.later h9).r6
    go_simp
    (try with_reducible rfl)
    done
   simp only[Act.put,List.getElem_toArray,List.getElem_cons_succ,List.getElem_cons_zero,List.setIfInBounds_toArray,List.set_cons_zero,List.set_cons_succ]
  repeat'
   first
   |refine av.pure (v:=?_) rfl (by decide +kernel) (by rfl) (fun _ _ _ h=>h) (fun _=>hHeld) ?_ ?_
    rotate_left
    focus
     intro w9
     go_simp
     (try with_reducible rfl)
     done
    simp only[Act.put,List.getElem_toArray,List.getElem_cons_succ,List.getElem_cons_zero,List.setIfInBounds_toArray,List.set_cons_zero,List.set_cons_succ]
   |refine av.one 2 rfl (by decide +kernel) (by rfl) (fun K hK=>?_)
   |refine av.one 5 rfl (by decide +kernel) (by rfl) (fun K hK=>?_)
   |refine av.one 6 rfl (by decide +kernel) (by rfl) (fun K hK=>?_)
   |refine av.one 8 rfl (by decide +kernel) (by rfl) (fun K hK=>?_)
   |obtain⟨⟨z0,z1,z2,z3,z4,z5⟩,-⟩:=jk (ST5.out.later hHeld).r6
    have f2:=jT _ _ 2 _ _ (ST5.out.later hHeld).r6
    go_simp
    first
    |go_at_call 76
     first
     |(with_reducible refine (HS3.out _ hHeld).mono ?_);rintro e Y1 ⟨rfl,hY⟩;have hHeld:Below W5.heap.size W5 Y1:=(by rw[hY];exact hHeld);clear hY
     |(with_reducible refine (HS4.out _ hHeld).mono ?_);rintro e Y1 ⟨rfl,hY⟩;have hHeld:Below W5.heap.size W5 Y1:=(by rw[hY];exact hHeld);clear hY
     try go_simp
     refine hK.out _ _ (fun _=>hHeld) ?_
     clear hK K z0 z1 z2 z3 z4 z5 f2
    |refine hK.out _ (World.setCell _ ⟨w.heap.size+1+1,2,none⟩ (.int .u16 (uu:Nat))) (fun h=>absurd h (by decide)) ?_
     clear hK K z0 z1 z2 z3 z4 z5 f2
    |refine hK.out _ _ (fun _=>hHeld) ?_
     clear hK K z0 z1 z2 z3 z4 z5 f2
  refine av.done (by decide +kernel) ?_
  simp only[Exit.then]
  have IV:=(ST5.out.later hHeld).set (mem':=uu) (v3':=.slice rA R.length rc) (v4':=.slice wA Wr.length wc) 2 (.int .u16 (uu:Nat)) rfl
  have hk6:∀g,w.heap.size+1+1<g→g<Y1.heap.size→(Y1.setCell ⟨w.heap.size+1+1,2,none⟩ (.int .u16 (uu:Nat))).heap[g]?=Y1.heap[g]?:=fun g hg _=>kC Y1 ⟨w.heap.size+1+1,2,none⟩ (.int .u16 (uu:Nat)) g (show g≠w.heap.size+1+1 by omega)
  obtain⟨W6,hW6⟩:=kE (Y1.setCell ⟨w.heap.size+1+1,2,none⟩ (.int .u16 (uu:Nat)))
  rw[←hW6] at IV hk6 ⊢
  have HSR6:=jI ((HSR5.out.keep (aA hHeld)).keep hk6)
  have HSW6:=jI ((HSW5.out.keep (aA hHeld)).keep hk6)
  have hb6:=IV.bl
  have hsz6:w.heap.size+1+1<W6.heap.size:=jS IV.r6
  have hstm:MSt b sb mb c A l S (fun g=>T g∨(w.heap.size≤g∧g≤w.heap.size+1+1)) W6 f:=(GV.out.mono (T':=fun g=>T g∨(w.heap.size≤g∧g≤w.heap.size+1+1)) (fun g h hl=>h.elim id (fun h=>by omega)) (fun g h=>h.elim (GV.out.th g) (fun h=>by omega))).later hb6
  have HM6:=jI (HMOK.out _ W6 f hstm (fun g h=>h.elim (fun h=>by have:=hT g h;omega) (fun h=>by omega)))
  have p21:=IV.dc X3.out
  have ST6:=jI IV
  clear hW6 IV hk6 hHeld HSR5 HSW5 HS3 HS4 hob hstm
  go_wp2_with fail
  refine HM6.out.mono ?_
  rintro e W7 ⟨F,fA,fc,er3,f7,rfl,hsf,hfc,hF1,hF2,hF3,hg7,hst7,hch7⟩
  have r6:=ay hg7 ST6.out.r6 (show w.heap.size+1+1≠mb by omega)
  have r4:=ay hg7 ST6.out.r4 (show w.heap.size+1≠mb by omega)
  have hgw7:w.grownBy W7 (some mb):=au (aM hb6) hg7
  have hk7:∀g,w.heap.size+1+1<g→g<W6.heap.size→W7.heap[g]?=W6.heap[g]?:=fun g hg hl=>hg7.block g hl (fun e=>by injection e;omega)
  have HSR7:=jI (HSR6.out.keep hk7)
  have HSW7:=jI (HSW6.out.keep hk7)
  have HSF7:=jI (hsf.mono (S':=fun g=>w.heap.size+1+1<g) (fun g hg _=>by omega) (by decide))
  have HFQ:=jI (And.intro hF1 hF3)
  obtain⟨⟨e0,e1,e2,e3,e4,e5⟩,hfz6⟩:=jk r6
  have f5:=hfz6 5
  obtain⟨⟨c0,c1,c2,c3,c4,c5⟩,kT⟩:=jk r4
  have g0:=kT 0
  have g1:=kT 1
  have g2:=kT 2
  have g3:=kT 3
  have g4:=kT 4
  have g5:=kT 5
  have Fq:But (fun g=>g=w.heap.size+1+1) W7 (W7.setCell ⟨w.heap.size+1+1,5,none⟩ (.slice fA F.length fc)):=(But.refl (fun g=>g=w.heap.size+1+1) W7).setCell (b:=w.heap.size+1+1) rfl 5 _
  have hr45:=(Fq.block (w.heap.size+1) (by omega) (jS r4)).trans r4
  have HR45:=jI hr45
  have og:=jI Fq
  have HST7:=jI hst7
  have HG7:=jI hgw7
  clear r6 r4 p21 hsf hk7 hg7 hfz6 kT hF1 hF2 hF3 hst7 hch7 hr45 Fq hgw7
  by_cases Ff:er3=0
  ·subst Ff
   obtain⟨Z,hZ,hz1,hz2⟩:=H8 HR45.out (.string nm) (.int .i64 1) (.int .u16 (uu:Nat)) (.slice rA R.length rc) (.slice wA Wr.length wc) (.slice fA F.length fc)
   have HZ1:=jI hz1
   have HZ2:=jI hz2
   have HZ:=jI hZ
   clear hz1 hz2 hZ
   go_wp2
   rw[←HZ.out]
   refine pE rfl rfl rfl rfl HZ1.out rfl ?_
   have sQ:But (fun g=>T g∨(w.heap.size≤g∧g≤w.heap.size+1+1)) W7 Z:=(og.out.mono (fun g e=>Or.inr (by omega))).trans (HZ2.out.mono (fun g e=>Or.inr (by omega)))
   have hkZ:∀g,w.heap.size+1+1<g→g<W7.heap.size→Z.heap[g]?=W7.heap[g]?:=fun g hg hl=>(HZ2.out.block g (by omega) (by have:=og.out.size;omega)).trans (og.out.block g (by omega) hl)
   refine⟨⟨nm,1,uu,R,Wr,F⟩,_,0,f7,rfl,eH.mk ((HSR7.out.keep hkZ).mono (fun g hg _=>by omega) (by decide)) ((HSW7.out.keep hkZ).mono (fun g hg _=>by omega) (by decide)) ((HSF7.out.keep hkZ).mono (fun g hg _=>by omega) (by decide)),⟨fun _=>⟨HNM.out,HE1.out (by first|rfl|trivial),HE2.out (by first|rfl|trivial),HUU.out,by rw[←HUS.out];exact HFQ.out.2.1 (by first|rfl|trivial),HFQ.out.1,HL1.out,HL2.out⟩,fun _=>by first|rfl|trivial⟩,?_,(HST7.out.but sQ).mono (fun g h _=>Or.inl h) GV.out.th⟩
   exact aX HG7.out ((og.out.below (fun g e=>by omega) HG7.out.size).trans (HZ2.out.below (fun g e=>by omega) (cK HG7.out.size og.out.size))) (aP _)
  ·have heI:((er3:Int) != 0)=true:=by simpa using Ff
   have I7:¬(er3:Int)=0:=by omega
   obtain⟨Z,hZ,hz1,hz2⟩:=H8 HR45.out (.string ⟨#[]⟩) (.int .i64 0) (.int .u16 0) (.slice none 0 0) (.slice none 0 0) (.slice none 0 0)
   have HZ1:=jI hz1
   have HZ2:=jI hz2
   have HZ:=jI hZ
   clear hz1 hz2 hZ
   go_wp2
   rw[←HZ.out]
   refine pE rfl rfl rfl rfl HZ1.out rfl ?_
   have sQ:But (fun g=>T g∨(w.heap.size≤g∧g≤w.heap.size+1+1)) W7 Z:=(og.out.mono (fun g e=>Or.inr (by omega))).trans (HZ2.out.mono (fun g e=>Or.inr (by omega)))
   refine⟨zCfg,_,er3,f7,rfl,pV _ _,⟨fun h=>absurd h Ff,fun hG=>HFQ.out.2.2 (by rw[HUS.out];exact hG.2.2)⟩,?_,(HST7.out.but sQ).mono (fun g h _=>Or.inl h) GV.out.th⟩
   exact aX HG7.out ((og.out.below (fun g e=>by omega) HG7.out.size).trans (HZ2.out.below (fun g e=>by omega) (cK HG7.out.size og.out.size))) (aP _)
 ·go_upto_region 4 with fail
  obtain⟨W1,hW1⟩:=kE W0
  have HST:=HST2.out
  rw[←hW1] at HST ⊢
  clear hW1
  have hb1:=HST.bl
  obtain⟨t11,t12,t13,t14,t15⟩:=X1.out
  have p11:=HST.dc t11
  have p12:=HST.dc t12
  have p13:=HST.dc t13
  have p14:=HST.dc t14
  have p15:=HST.dc t15
  have ST1:=jI HST
  clear HST k10 k61 f61 t11 t12 t13 t14 t15
  go_wp2_with fail
  refine (HS1.out W1 hb1).mono ?_
  rintro e w2 ⟨rA,rc,rfl,hsr,hrc,hb2⟩
  have ST2a:=jI (ST1.out.later hb2)
  have HSR:=jI ((hsr.mono (S':=fun g=>w.heap.size+1+1<g) (fun g hg _=>by have:=jS ST1.out.r6;omega) (by decide)))
  obtain⟨⟨z0,z1,z2,z3,z4,z5⟩,hfz⟩:=jk ST2a.out.r6
  have f3:=hfz 3
  clear hsr hfz p11 p12 p13 p14 p15
  by_cases Fh:er1=0
  rotate_left
  ·have heI:((er1:Int) != 0)=true:=by simpa using Fh
   have I7:¬(er1:Int)=0:=by omega
   obtain⟨⟨c0,c1,c2,c3,c4,c5⟩,kT⟩:=jk (ST2a.out).r4
   have g0:=kT 0
   have g1:=kT 1
   have g2:=kT 2
   have g3:=kT 3
   have g4:=kT 4
   have g5:=kT 5
   have hrx:=((ST2a.out).set (mem':=0) (v3':=.slice rA R.length rc) (v4':=.slice none 0 0) 3 (.slice rA R.length rc) rfl)
   obtain⟨Z,hZ,hz1,hz2⟩:=H8 hrx.r4 (.string ⟨#[]⟩) (.int .i64 0) (.int .u16 0) (.slice none 0 0) (.slice none 0 0) (.slice none 0 0)
   have HZ1:=jI hz1
   have hbZ:Below w.heap.size w Z:=hrx.bl.trans (hz2.below (fun g e=>by omega) hrx.bl.size)
   have HZ:=jI hZ
   clear kT hz1 hz2 hZ hrx
   go_wp2
   rw[←HZ.out]
   refine pE rfl rfl rfl rfl HZ1.out rfl ?_
   exact⟨zCfg,_,er1,f,rfl,pV _ _,⟨fun h=>absurd h Fh,HGE1.out⟩,aM hbZ,GV.out.later hbZ⟩
  subst Fh
  have ST2:=jI (ST2a.out.set (mem':=0) (v3':=.slice rA R.length rc) (v4':=.slice none 0 0) 3 (.slice rA R.length rc) rfl)
  go_upto_region 8 with fail
  obtain⟨W3,hW3⟩:=kE (w2.setCell ⟨w.heap.size+1+1,3,none⟩ (.slice rA R.length rc))
  have HST:=ST2.out
  rw[←hW3] at HST ⊢
  have hb3:=HST.bl
  have HSR3:=jI (show ak W3 (fun g=>w.heap.size+1+1<g) 1 rA R.length (dH R) from HSR.out.keep (fun g hg _=>by rw[hW3];exact kC w2 ⟨w.heap.size+1+1,3,none⟩ (.slice rA R.length rc) g (show g≠w.heap.size+1+1 by omega)))
  obtain⟨t16,t17,t18,t19,t20⟩:=X2.out
  have p16:=HST.dc t16
  have p17:=HST.dc t17
  have p18:=HST.dc t18
  have p19:=HST.dc t19
  have p20:=HST.dc t20
  have ST3:=jI HST
  clear hW3 HST t16 t17 t18 t19 t20 z0 z1 z2 z3 z4 z5 f3 hb2 ST2 ST2a HSR
  go_wp2_with fail
  refine (HS2.out W3 hb3).mono ?_
  rintro e w4 ⟨wA,wc,rfl,hsw,hwc,hb4⟩
  have ST4a:=jI (ST3.out.later hb4)
  have HSR4:=jI (HSR3.out.keep (aA hb4))
  have HSW4:=jI ((hsw.mono (S':=fun g=>w.heap.size+1+1<g) (fun g hg _=>by have:=jS ST3.out.r6;omega) (by decide)))
  obtain⟨⟨z0,z1,z2,z3,z4,z5⟩,hfz⟩:=jk ST4a.out.r6
  have f4:=hfz 4
  clear hsw hfz p16 p17 p18 p19 p20 HSR3
  by_cases Fg:er2=0
  rotate_left
  ·have heI:((er2:Int) != 0)=true:=by simpa using Fg
   have I7:¬(er2:Int)=0:=by omega
   obtain⟨⟨c0,c1,c2,c3,c4,c5⟩,kT⟩:=jk (ST4a.out).r4
   have g0:=kT 0
   have g1:=kT 1
   have g2:=kT 2
   have g3:=kT 3
   have g4:=kT 4
   have g5:=kT 5
   have hrx:=((ST4a.out).set (mem':=0) (v3':=.slice rA R.length rc) (v4':=.slice wA Wr.length wc) 4 (.slice wA Wr.length wc) rfl)
   obtain⟨Z,hZ,hz1,hz2⟩:=H8 hrx.r4 (.string ⟨#[]⟩) (.int .i64 0) (.int .u16 0) (.slice none 0 0) (.slice none 0 0) (.slice none 0 0)
   have HZ1:=jI hz1
   have hbZ:Below w.heap.size w Z:=hrx.bl.trans (hz2.below (fun g e=>by omega) hrx.bl.size)
   have HZ:=jI hZ
   clear kT hz1 hz2 hZ hrx
   go_wp2
   rw[←HZ.out]
   refine pE rfl rfl rfl rfl HZ1.out rfl ?_
   exact⟨zCfg,_,er2,f,rfl,pV _ _,⟨fun h=>absurd h Fg,HGE2.out⟩,aM hbZ,GV.out.later hbZ⟩
  subst Fg
  have ST4:=jI (ST4a.out.set (mem':=0) (v3':=.slice rA R.length rc) (v4':=.slice wA Wr.length wc) 4 (.slice wA Wr.length wc) rfl)
  go_upto_region 11 with fail
  obtain⟨W5,hW5⟩:=kE (w4.setCell ⟨w.heap.size+1+1,4,none⟩ (.slice wA Wr.length wc))
  have HST:=ST4.out
  rw[←hW5] at HST ⊢
  have hk5:∀g,w.heap.size+1+1<g→g<w4.heap.size→W5.heap[g]?=w4.heap[g]?:=fun g hg _=>by rw[hW5];exact kC w4 ⟨w.heap.size+1+1,4,none⟩ (.slice wA Wr.length wc) g (show g≠w.heap.size+1+1 by omega)
  have HSR5:=jI (HSR4.out.keep hk5)
  have HSW5:=jI (HSW4.out.keep hk5)
  have ST5:=jI HST
  clear hW5 HST z0 z1 z2 z3 z4 z5 f4 hb4 ST4 ST4a HSR4 HSW4 hk5
  obtain⟨uR,huR⟩:=kE (dY R)
  obtain⟨uW,huW⟩:=kE (dY Wr)
  have HS3:=jI (fun(W:World)(hW:Below W5.heap.size W5 W)=>mM R HL1.out.2 rA rc W (·<W.heap.size) ((HSR5.out.keep (aA hW)).mono (fun g _ hl=>hl) (by decide)) (fun g hg=>hg) (by have:=HL1.out.1;omega))
  have HS4:=jI (fun(W:World)(hW:Below W5.heap.size W5 W)=>mM Wr HL2.out.2 wA wc W (·<W.heap.size) ((HSW5.out.keep (aA hW)).mono (fun g _ hl=>hl) (by decide)) (fun g hg=>hg) (by have:=HL2.out.1;omega))
  have h16R:uR<65536:=by rw[huR];exact iY (k:=16) HL1.out.2
  have h16W:uW<65536:=by rw[huW];exact iY (k:=16) HL2.out.2
  simp only[←huR] at HS3
  simp only[←huW] at HS4
  have hob:=u16_or_nat uR uW h16R h16W
  obtain⟨uu,huu⟩:=kE (uR|||uW)
  rw[←huu] at hob
  have HUU:=jI (show uu=dY R|||dY Wr by rw[huu,huR,huW])
  clear huR huW huu
  refine av.start (fun W'=>Below W5.heap.size W5 W') [8] [0,1,3,4,7] (by kernel_rfl) (below_drewN (jQ _ _) 1) (fun hHeld=>?_)
  repeat
   refine av.take (v:=?_) rfl (by decide +kernel) (by rfl) (fun _ _ _ h=>h) hHeld ?_ ?_
   rotate_left
   focus
    intro w9 h9
    obtain⟨⟨z0,z1,z2,z3,z4,z5⟩,-⟩:=jk (ST5.out.later h9).r6
    go_simp
    (try with_reducible rfl)
    done
   simp only[Act.put,List.getElem_toArray,List.getElem_cons_succ,List.getElem_cons_zero,List.setIfInBounds_toArray,List.set_cons_zero,List.set_cons_succ]
  repeat'
   first
   |refine av.pure (v:=?_) rfl (by decide +kernel) (by rfl) (fun _ _ _ h=>h) (fun _=>hHeld) ?_ ?_
    rotate_left
    focus
     intro w9
     go_simp
     (try with_reducible rfl)
     done
    simp only[Act.put,List.getElem_toArray,List.getElem_cons_succ,List.getElem_cons_zero,List.setIfInBounds_toArray,List.set_cons_zero,List.set_cons_succ]
   |refine av.one 2 rfl (by decide +kernel) (by rfl) (fun K hK=>?_)
   |refine av.one 5 rfl (by decide +kernel) (by rfl) (fun K hK=>?_)
   |refine av.one 6 rfl (by decide +kernel) (by rfl) (fun K hK=>?_)
   |refine av.one 8 rfl (by decide +kernel) (by rfl) (fun K hK=>?_)
   |obtain⟨⟨z0,z1,z2,z3,z4,z5⟩,-⟩:=jk (ST5.out.later hHeld).r6
    have f2:=jT _ _ 2 _ _ (ST5.out.later hHeld).r6
    go_simp
    first
    |go_at_call 76
     first
     |(with_reducible refine (HS3.out _ hHeld).mono ?_);rintro e Y1 ⟨rfl,hY⟩;have hHeld:Below W5.heap.size W5 Y1:=(by rw[hY];exact hHeld);clear hY
     |(with_reducible refine (HS4.out _ hHeld).mono ?_);rintro e Y1 ⟨rfl,hY⟩;have hHeld:Below W5.heap.size W5 Y1:=(by rw[hY];exact hHeld);clear hY
     try go_simp
     refine hK.out _ _ (fun _=>hHeld) ?_
     clear hK K z0 z1 z2 z3 z4 z5 f2
    |refine hK.out _ (World.setCell _ ⟨w.heap.size+1+1,2,none⟩ (.int .u16 (uu:Nat))) (fun h=>absurd h (by decide)) ?_
     clear hK K z0 z1 z2 z3 z4 z5 f2
    |refine hK.out _ _ (fun _=>hHeld) ?_
     clear hK K z0 z1 z2 z3 z4 z5 f2
  refine av.done (by decide +kernel) ?_
  simp only[Exit.then]
  have IV:=(ST5.out.later hHeld).set (mem':=uu) (v3':=.slice rA R.length rc) (v4':=.slice wA Wr.length wc) 2 (.int .u16 (uu:Nat)) rfl
  have hk6:∀g,w.heap.size+1+1<g→g<Y1.heap.size→(Y1.setCell ⟨w.heap.size+1+1,2,none⟩ (.int .u16 (uu:Nat))).heap[g]?=Y1.heap[g]?:=fun g hg _=>kC Y1 ⟨w.heap.size+1+1,2,none⟩ (.int .u16 (uu:Nat)) g (show g≠w.heap.size+1+1 by omega)
  obtain⟨W6,hW6⟩:=kE (Y1.setCell ⟨w.heap.size+1+1,2,none⟩ (.int .u16 (uu:Nat)))
  rw[←hW6] at IV hk6 ⊢
  have HSR6:=jI ((HSR5.out.keep (aA hHeld)).keep hk6)
  have HSW6:=jI ((HSW5.out.keep (aA hHeld)).keep hk6)
  have hb6:=IV.bl
  have hsz6:w.heap.size+1+1<W6.heap.size:=jS IV.r6
  have hstm:MSt b sb mb c A l S (fun g=>T g∨(w.heap.size≤g∧g≤w.heap.size+1+1)) W6 f:=(GV.out.mono (T':=fun g=>T g∨(w.heap.size≤g∧g≤w.heap.size+1+1)) (fun g h hl=>h.elim id (fun h=>by omega)) (fun g h=>h.elim (GV.out.th g) (fun h=>by omega))).later hb6
  have HM6:=jI (HMOK.out _ W6 f hstm (fun g h=>h.elim (fun h=>by have:=hT g h;omega) (fun h=>by omega)))
  have p21:=IV.dc X3.out
  have ST6:=jI IV
  clear hW6 IV hk6 hHeld HSR5 HSW5 HS3 HS4 hob hstm
  go_wp2_with fail
  refine HM6.out.mono ?_
  rintro e W7 ⟨F,fA,fc,er3,f7,rfl,hsf,hfc,hF1,hF2,hF3,hg7,hst7,hch7⟩
  have r6:=ay hg7 ST6.out.r6 (show w.heap.size+1+1≠mb by omega)
  have r4:=ay hg7 ST6.out.r4 (show w.heap.size+1≠mb by omega)
  have hgw7:w.grownBy W7 (some mb):=au (aM hb6) hg7
  have hk7:∀g,w.heap.size+1+1<g→g<W6.heap.size→W7.heap[g]?=W6.heap[g]?:=fun g hg hl=>hg7.block g hl (fun e=>by injection e;omega)
  have HSR7:=jI (HSR6.out.keep hk7)
  have HSW7:=jI (HSW6.out.keep hk7)
  have HSF7:=jI (hsf.mono (S':=fun g=>w.heap.size+1+1<g) (fun g hg _=>by omega) (by decide))
  have HFQ:=jI (And.intro hF1 hF3)
  obtain⟨⟨e0,e1,e2,e3,e4,e5⟩,hfz6⟩:=jk r6
  have f5:=hfz6 5
  obtain⟨⟨c0,c1,c2,c3,c4,c5⟩,kT⟩:=jk r4
  have g0:=kT 0
  have g1:=kT 1
  have g2:=kT 2
  have g3:=kT 3
  have g4:=kT 4
  have g5:=kT 5
  have Fq:But (fun g=>g=w.heap.size+1+1) W7 (W7.setCell ⟨w.heap.size+1+1,5,none⟩ (.slice fA F.length fc)):=(But.refl (fun g=>g=w.heap.size+1+1) W7).setCell (b:=w.heap.size+1+1) rfl 5 _
  have hr45:=(Fq.block (w.heap.size+1) (by omega) (jS r4)).trans r4
  have HR45:=jI hr45
  have og:=jI Fq
  have HST7:=jI hst7
  have HG7:=jI hgw7
  clear r6 r4 p21 hsf hk7 hg7 hfz6 kT hF1 hF2 hF3 hst7 hch7 hr45 Fq hgw7
  by_cases Ff:er3=0
  ·subst Ff
   obtain⟨Z,hZ,hz1,hz2⟩:=H8 HR45.out (.string nm) (.int .i64 2) (.int .u16 (uu:Nat)) (.slice rA R.length rc) (.slice wA Wr.length wc) (.slice fA F.length fc)
   have HZ1:=jI hz1
   have HZ2:=jI hz2
   have HZ:=jI hZ
   clear hz1 hz2 hZ
   go_wp2
   rw[←HZ.out]
   refine pE rfl rfl rfl rfl HZ1.out rfl ?_
   have sQ:But (fun g=>T g∨(w.heap.size≤g∧g≤w.heap.size+1+1)) W7 Z:=(og.out.mono (fun g e=>Or.inr (by omega))).trans (HZ2.out.mono (fun g e=>Or.inr (by omega)))
   have hkZ:∀g,w.heap.size+1+1<g→g<W7.heap.size→Z.heap[g]?=W7.heap[g]?:=fun g hg hl=>(HZ2.out.block g (by omega) (by have:=og.out.size;omega)).trans (og.out.block g (by omega) hl)
   refine⟨⟨nm,2,uu,R,Wr,F⟩,_,0,f7,rfl,eH.mk ((HSR7.out.keep hkZ).mono (fun g hg _=>by omega) (by decide)) ((HSW7.out.keep hkZ).mono (fun g hg _=>by omega) (by decide)) ((HSF7.out.keep hkZ).mono (fun g hg _=>by omega) (by decide)),⟨fun _=>⟨HNM.out,HE1.out (by first|rfl|trivial),HE2.out (by first|rfl|trivial),HUU.out,by rw[←HUS.out];exact HFQ.out.2.1 (by first|rfl|trivial),HFQ.out.1,HL1.out,HL2.out⟩,fun _=>by first|rfl|trivial⟩,?_,(HST7.out.but sQ).mono (fun g h _=>Or.inl h) GV.out.th⟩
   exact aX HG7.out ((og.out.below (fun g e=>by omega) HG7.out.size).trans (HZ2.out.below (fun g e=>by omega) (cK HG7.out.size og.out.size))) (aP _)
  ·have heI:((er3:Int) != 0)=true:=by simpa using Ff
   have I7:¬(er3:Int)=0:=by omega
   obtain⟨Z,hZ,hz1,hz2⟩:=H8 HR45.out (.string ⟨#[]⟩) (.int .i64 0) (.int .u16 0) (.slice none 0 0) (.slice none 0 0) (.slice none 0 0)
   have HZ1:=jI hz1
   have HZ2:=jI hz2
   have HZ:=jI hZ
   clear hz1 hz2 hZ
   go_wp2
   rw[←HZ.out]
   refine pE rfl rfl rfl rfl HZ1.out rfl ?_
   have sQ:But (fun g=>T g∨(w.heap.size≤g∧g≤w.heap.size+1+1)) W7 Z:=(og.out.mono (fun g e=>Or.inr (by omega))).trans (HZ2.out.mono (fun g e=>Or.inr (by omega)))
   refine⟨zCfg,_,er3,f7,rfl,pV _ _,⟨fun h=>absurd h Ff,fun hG=>HFQ.out.2.2 (by rw[HUS.out];exact hG.2.2)⟩,?_,(HST7.out.but sQ).mono (fun g h _=>Or.inl h) GV.out.th⟩
   exact aX HG7.out ((og.out.below (fun g e=>by omega) HG7.out.size).trans (HZ2.out.below (fun g e=>by omega) (cK HG7.out.size og.out.size))) (aP _)
end
section
open Go.RowKit
abbrev um:=World→(Nat→Prop)→Value→Prop
def OwnB(p q:Nat)(vs:List Value)(g:Nat):Prop:=g=p∨g=q∨∃v∈vs,v.ownBlock=some g
def ny(p q mb:Nat)(vs:List Value)(g:Nat):Prop:=p<g∧¬OwnB p q vs g∧g≠mb
structure kW(lo:Nat)(Q:um):Prop where
 stay:∀{W W':World}{D D' X:Nat→Prop}{v:Value},Q W D v→But X W W'→(∀g,D g→¬X g)→(∀g,v.ownBlock=some g→¬X g)→(∀g,D g→g<W.heap.size→D' g)→Q W' D' v
 lt:∀{W:World}{D:Nat→Prop}{v:Value},Q W D v→∀g,v.ownBlock=some g→lo≤g∧g<W.heap.size
structure xR(p q mb:Nat)(rows:List (um × Value))(W:World):Prop where
 rq:∀r∈rows,r.1 W (ny p q mb (rows.map (·.2))) r.2
 st:∀r∈rows,kW (q+1) r.1
 dj:∀(i j:Nat)(r s:um × Value),rows[i]?=some r→rows[j]?=some s→i≠j→∀g,r.2.ownBlock=some g→s.2.ownBlock≠some g
section
variable {p q mb:Nat} {rows:List (um × Value)} {W W':World}
theorem xR.but(h:xR p q mb rows W){X:Nat→Prop}(hb:But X W W')(hX:∀g,X g→g=p∨g=q∨g=mb∨W.heap.size≤g)(hmq:mb<q)(hpq:p<q):xR p q mb rows W':=
 ⟨fun r hr=>(h.st r hr).stay (h.rq r hr) (X:=fun g=>X g∧g<W.heap.size) ⟨hb.os,hb.tape,hb.output,hb.size,fun g hg hl=>hb.block g (fun k=>hg ⟨k,hl⟩) hl⟩ (fun g hg k=>by
   rcases hX g k.1 with e|e|e|e
   ·exact hg.2.1 (Or.inl e)
   ·exact hg.2.1 (Or.inr (Or.inl e))
   ·exact hg.2.2 e
   ·omega) (fun g hg k=>by
   have:=((h.st r hr).lt (h.rq r hr) g hg).1
   rcases hX g k.1 with e|e|e|e<;>omega) (fun g hg _=>hg),h.st,h.dj⟩
theorem xR.grow(h:xR p q mb rows W)(hpq:p<q)(hmq:mb<q)(hqW:q<W.heap.size)(i:Nat){r:um × Value}(hi:rows[i]?=some r)(Q':um)(v':Value)(hst:kW (q+1) Q'){W':World}(hg:W.grownBy W' r.2.ownBlock)(hv:v'.ownBlock=r.2.ownBlock∨∃g,W.heap.size≤g∧v'.ownBlock=some g)
  (hQ:Q' W' (ny p q mb ((rows.set i (Q',v')).map (·.2))) v'):xR p q mb (rows.set i (Q',v')) W':=by
 have hil:i<rows.length:=(List.getElem?_eq_some_iff.1 hi).1
 have hget:∀j s,(rows.set i (Q',v'))[j]?=some s→(j=i∧s=(Q',v'))∨(j≠i∧rows[j]?=some s):=by
  intro j s hs
  by_cases e:i=j
  ·subst e
   rw[List.getElem?_set_self hil] at hs
   exact Or.inl ⟨rfl,(Option.some.inj hs).symm⟩
  ·rw[List.getElem?_set_ne e] at hs
   exact Or.inr ⟨fun k=>e k.symm,hs⟩
 have hD:∀g,ny p q mb (rows.map (·.2)) g→g<W.heap.size→ny p q mb ((rows.set i (Q',v')).map (·.2)) g:=by
  intro g hg hl
  refine⟨hg.1,fun k=>?_,hg.2.2⟩
  rcases k with k|k|⟨v,hv2,hvg⟩
  ·exact hg.2.1 (Or.inl k)
  ·exact hg.2.1 (Or.inr (Or.inl k))
  ·obtain⟨s,hs,rfl⟩:=List.mem_map.1 hv2
   obtain⟨j,hj⟩:=List.getElem?_of_mem hs
   rcases hget j s hj with ⟨-,rfl⟩|⟨-,hj2⟩
   ·rcases hv with e|⟨g2,h2,e⟩
    ·exact hg.2.1 (Or.inr (Or.inr ⟨r.2,List.mem_map.2 ⟨r,List.mem_of_getElem? hi,rfl⟩,e.symm.trans hvg⟩))
    ·rw[e] at hvg;injection hvg with hvg;omega
   ·exact hg.2.1 (Or.inr (Or.inr ⟨s.2,List.mem_map.2 ⟨s,List.mem_of_getElem? hj2,rfl⟩,hvg⟩))
 refine⟨fun s hs=>?_,fun s hs=>?_,fun j k s t hj hk hjk g hs ht=>?_⟩
 ·obtain⟨j,hj⟩:=List.getElem?_of_mem hs
  rcases hget j s hj with ⟨-,rfl⟩|⟨hji,hj2⟩
  ·exact hQ
  ·have hm:=List.mem_of_getElem? hj2
   refine (h.st s hm).stay (h.rq s hm) (X:=fun g=>r.2.ownBlock=some g) ⟨hg.os,hg.tape,hg.output,hg.size,fun g hne hl=>hg.block g hl (fun e=>hne e.symm)⟩ (fun g hg2 e=>hg2.2.1 (Or.inr (Or.inr ⟨r.2,List.mem_map.2 ⟨r,List.mem_of_getElem? hi,rfl⟩,e⟩))) (fun g hsg e=>?_) hD
   exact h.dj j i s r hj2 hi hji g hsg e
 ·obtain⟨j,hj⟩:=List.getElem?_of_mem hs
  rcases hget j s hj with ⟨-,rfl⟩|⟨-,hj2⟩
  ·exact hst
  ·exact h.st s (List.mem_of_getElem? hj2)
 ·have old:∀(j:Nat)(s:um × Value),j≠i→rows[j]?=some s→s.2.ownBlock=some g→v'.ownBlock≠some g:=fun j s hji hj2 hsg e=>by
   rcases hv with e2|⟨g2,h2,e2⟩
   ·exact h.dj j i s r hj2 hi hji g hsg (e2.symm.trans e)
   ·rw[e2] at e
    injection e with e
    have:=((h.st s (List.mem_of_getElem? hj2)).lt (h.rq s (List.mem_of_getElem? hj2)) g hsg).2
    omega
  rcases hget j s hj with ⟨e1,rfl⟩|⟨hji,hj2⟩<;>rcases hget k t hk with ⟨e2,rfl⟩|⟨hki,hk2⟩
  ·exact hjk (e1.trans e2.symm)
  ·exact old k t hki hk2 ht hs
  ·exact old j s hji hj2 hs ht
  ·exact h.dj j k s t hj2 hk2 hjk g hs ht
end
theorem own_but{W W':World}{X:Nat→Prop}{base e size n:Nat}{v:Value}{xs:List Value}(h:W.ownsRow base e size v n xs)(hb:But X W W')(hv:∀g,v.ownBlock=some g→¬X g):W'.ownsRow base e size v n xs:=
 jl h fun g hg=>hb.block g (hv g hg) (h.lt g hg).2
theorem Gh(lo e size:Nat){α:Type}(f:α→Nat × List Value)(P:α→Prop):kW lo fun W _ v=>∃a,W.ownsRow lo e size v (f a).1 (f a).2∧P a where
 stay:=fun⟨a,h,hp⟩ hb _ hv _=>⟨a,own_but h hb hv,hp⟩
 lt:=fun⟨_,h,_⟩=>h.lt
theorem Gg{α:Type}{P:World→(Nat→Prop)→α→Value→Prop}(hP:qp P)(lo e size:Nat)(C:List α→Prop):kW lo fun W D v=>∃acc,dZ P W D lo e size v acc∧C acc where
 stay:=fun {W W' D D' X v} h hb hD hv hm=>by
  obtain⟨acc,h,hc⟩:=h
  have h1:=h.mono hP (S':=fun g=>D g∧D' g) (fun g hg hl=>⟨hg,hm g hg hl⟩)
  have h2:=h1.keep hP (w':=W') (fun g hg hl=>hb.block g (hD g hg.1) hl) (fun g hg=>hb.block g (hv g hg) (h.lt g hg).2)
  exact⟨acc,h2.mono hP (fun g hg _=>hg.2),hc⟩
 lt:=fun⟨_,h,_⟩=>h.lt
theorem jL:qp eH:=⟨fun h k=>h.keep k,fun h k=>h.mono k⟩
theorem oh.mono{w:World}{S S':Nat→Prop}{x:DCli}{v:Value}(h:oh w S x v)(hS:∀g,S g→g<w.heap.size→S' g):oh w S' x v:=by
 obtain⟨fA,fc,e,h1⟩:=h
 exact⟨fA,fc,e,h1.mono hS (by decide)⟩
theorem ji:qp oh:=⟨fun h k=>h.keep k,fun h k=>h.mono k⟩
end
end Go.Proofs.YtmohibkomlhlaaaGreatDoor
