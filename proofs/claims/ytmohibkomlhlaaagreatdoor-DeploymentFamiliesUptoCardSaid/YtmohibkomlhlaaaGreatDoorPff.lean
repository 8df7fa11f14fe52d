/- The contract of the law DeploymentFamilies: the families of a configuration accept what satisfies its terms, its members are those that occur. Declarations of a size up to a bound; the tables of powers and of math/bits lie in the world. The table of math/bits lies in the world, by what the listed package-level variables hold. -/
import Derived.Test.YtmohibkomlhlaaaGreatDoorPfe
import Derived.Test.YtmohibkomlhlaaaGreatDoorPdk
set_option maxRecDepth 100000
set_option maxHeartbeats 16000000
namespace Go.Proofs.YtmohibkomlhlaaaGreatDoor
section
open Go.RowKit
open _root_.Go.Proofs.Tryz
theorem dc_two{w:World}{S:Nat→Prop}{d:Dc}{v:Value}(h:dS w S d v):∃(cs:List Value)(o2:Int)(m2:ByteArray)(d2:Int)(wA2:Option Addr)(wn2 wc2:Nat)(kA2:Option Addr)(kn2 kc2:Nat)(o3:Int)(m3:ByteArray)(d3:Int)(wA3:Option Addr)(wn3 wc3:Nat)(kA3:Option Addr)(kn3 kc3:Nat),cs.length=22∧cs.toArray.all (·.oneCell')=true∧v=.agg cs.toArray∧
  cs[0]?=some (.int .i64 d.kind)∧cs[2]?=some (.string d.name)∧(cs[11]?=some (.int .i64 o2)∧cs[12]?=some (.string m2)∧cs[13]?=some (.int .i64 d2)∧cs[14]?=some (.slice wA2 wn2 wc2)∧cs[15]?=some (.slice kA2 kn2 kc2))∧(cs[16]?=some (.int .i64 o3)∧cs[17]?=some (.string m3)∧cs[18]?=some (.int .i64 d3)∧cs[19]?=some (.slice wA3 wn3 wc3)∧cs[20]?=some (.slice kA3 kn3 kc3))∧
  dX w S d.read (.agg #[.int .i64 o2,.string m2,.int .i64 d2,.slice wA2 wn2 wc2,.slice kA2 kn2 kc2])∧dX w S d.write (.agg #[.int .i64 o3,.string m3,.int .i64 d3,.slice wA3 wn3 wc3,.slice kA3 kn3 kc3]):=by
 obtain⟨nA,nc,fA,fc,vt,vr,vw,hv,-,-,-,-,h5,h6,h7⟩:=h
 obtain⟨o1,m1,d1,wA1,wn1,wc1,kA1,kn1,kc1,rfl⟩:=h5.form
 obtain⟨o2,m2,d2,wA2,wn2,wc2,kA2,kn2,kc2,e2⟩:=h6.form
 obtain⟨o3,m3,d3,wA3,wn3,wc3,kA3,kn3,kc3,e3⟩:=h7.form
 subst e2 e3
 simp only[Value.cells,List.append_toArray,List.cons_append,List.nil_append] at hv
 refine⟨[.int .i64 d.kind,.int .i64 d.line,.string d.name,.slice nA d.names.length nc,.slice fA d.faults.length fc,.int .i64 o1,.string m1,.int .i64 d1,.slice wA1 wn1 wc1,.slice kA1 kn1 kc1,.string d.proto,.int .i64 o2,.string m2,.int .i64 d2,.slice wA2 wn2 wc2,.slice kA2 kn2 kc2,.int .i64 o3,.string m3,.int .i64 d3,.slice wA3 wn3 wc3,.slice kA3 kn3 kc3,.string d.use],o2,m2,d2,wA2,wn2,wc2,kA2,kn2,kc2,o3,m3,d3,wA3,wn3,wc3,kA3,kn3,kc3,rfl,all_oneCell_toArray ?_,hv,rfl,rfl,⟨rfl,rfl,rfl,rfl,rfl⟩,⟨rfl,rfl,rfl,rfl,rfl⟩,h6,h7⟩
 intro u hu
 simp only[List.mem_cons,List.not_mem_nil,or_false] at hu
 rcases hu with rfl|rfl|rfl|rfl|rfl|rfl|rfl|rfl|rfl|rfl|rfl|rfl|rfl|rfl|rfl|rfl|rfl|rfl|rfl|rfl|rfl|rfl<;>rfl
def LAt(l:List Dc)(W:World)(A:Option Addr):Prop:=∃T:Nat→Prop,aO (dS W T) W T 22 A l∧∀g,T g→g<W.heap.size
theorem LAt.of{l:List Dc}{vs:List Value}{W:World}{S:Nat→Prop}{base:Nat}{A:Option Addr}{c:Nat}(hvl:vs.length=l.length)(hown:W.ownsRow base 35 22 (.slice A l.length c) l.length (vs.flatMap cellsOf))(hd:∀(i:Nat)(d:Dc)(u:Value),l[i]?=some d→vs[i]?=some u→dS W S d u):LAt l W A:=
 ⟨(·<W.heap.size),⟨vs,hvl,(ak.own hown).mono (fun g _ h=>h) (by decide),fun i d u h1 h2=>(hd i d u h1 h2).mono (fun g _ h=>h)⟩,fun g h=>h⟩
theorem dep_mono{w:World}{S S':Nat→Prop}{D:DDep}{v:Value}(h:xV w S D v)(hS:∀g,S g→g<w.heap.size→S' g):xV w S' D v:=by
 obtain⟨sA,sc,tA,tc,cA,cc,hA,hc,kA,kc,rfl,h1,h2,h3,h4,h5⟩:=h
 exact⟨sA,sc,tA,tc,cA,cc,hA,hc,kA,kc,rfl,h1.mono hS (by decide),h2.mono hS (by decide),h3.mono hS (by decide) (fun _ _ h=>h.mono hS),h4.mono hS (by decide),h5.mono hS (by decide) (fun _ _ ⟨fA,fc,e,h⟩=>⟨fA,fc,e,h.mono hS (by decide)⟩)⟩
theorem cfg_found{l:List Dc}{D:DDep}(hc:(bf l).2=0)(hcf:rZ l l.length D.gI){d:Dc}(hd:d∈l)(hk:d.kind=4):xJ D d.name=0∧CfOk l d (yB D d.name):=by
 obtain⟨i,hi,rfl⟩:=List.getElem_of_mem hd
 obtain⟨x,hx,hxo⟩:=hcf.each i hi hi hk
 cases h:D.gI.find? (fun c=>c.name==l[i].name) with
 |none=>exact absurd (List.find?_eq_none.1 h x hx) (by rw[hxo.name];simp[rX])
 |some y=>
  have hy:=List.mem_of_find?_eq_some h
  have hn:y.name=l[i].name:=by simpa [rX] using List.find?_some h
  obtain⟨e,he,hek,heo⟩:=hcf.back y hy
  have h0:dI 4≠0:=by decide
  obtain rfl:=vX (fw hc).1 e he l[i] hd (by rw[hek];exact h0) (by rw[hk];exact h0) (heo.name.symm.trans hn) rfl
  unfold xJ yB
  rw[h]
  exact⟨rfl,heo⟩
theorem Ci{A:Option Addr}{c:Nat}{l:List Dc}(hc:(bf l).2=0)(hsz:(l.map aW).sum≤1100000)(i:Nat){t:Tm}(ht:Typed (l.take i) t)(hst:ax t≤1550000)(he:(bS l t).2=0):jf A c l t (bS l t).1:=by
 have hp:=ic hc i
 have hs:∀x,aQ (tab (l.take i)) x=4→aQ (tab l) x=4:=fun x hx=>(hp.sub x (by rw[hx];decide)).trans hx
 exact Ch hp (rlim_of hc hsz) (dW hc).2 (fun x hx h=>rholds_q hc hsz x (hs x hx) h) (fun x hx h=>quorum_wf hc x (hs x hx) h) _ t (aP _) hst ht he
theorem yL{r:Ex × Nat}{L:List Nat}(h:iI r=(L,0))(z:Nat):r.2=0∧accepts L z=bW r.1 z:=by
 unfold iI at h
 split at h
 ·rename_i h0
  have h2:(pu r.1).2=0:=by rw[h]
  have h3:=Fz h2 (s:=z)
  rw[h] at h3
  exact⟨h0,h3⟩
 ·rename_i h0
  exact absurd (Prod.mk.inj h).2 h0
theorem fam_law(l:List Dc)(A:Option Addr)(c:Nat)(s:Nat)(w:World)(S:Nat→Prop)(hl:aO (dS w S) w S 22 A l)(hS:∀g,S g→g<w.heap.size)(hsz:(l.map aW).sum≤1100000)(hs:s<65536)(hpw:Pow w)(hz:Tz w):
  Calls prog 4 #[.slice A l.length c,.int .u16 s] w fun e w'=>e=.returned (.bool true)∧Below w.heap.size w w':=by
 have hbA:∀(W:World)(o:Obj),Below W.heap.size W (W.alloc o):=fun W o=>(jQ _ _).alloc (aP _) o
 have hll:=gY l
 have HLS:=jI (fun(W:World)(hW:Below w.heap.size w W)=>(⟨hl.keep (P':=dS W S) (aj hW hS) (fun _ _ h=>h.keep (aj hW hS)),fun g hg=>by have:=hS g hg;have:=hW.size;omega⟩:aO (dS W S) W S 22 A l∧∀g,S g→g<W.heap.size))
 have HAW:=jI (fun(W:World)(hW:Below w.heap.size w W)=>awake25_W W (hpw.below hW) (hz.below hW (aP _)))
 have HCL:=jI (fun(W:World)(hW:Below w.heap.size w W)=>clone_own l A c W S (HLS.out W hW).1 (HLS.out W hW).2 (by omega))
 have HSH:=jI (fun(W:World)(hW:Below w.heap.size w W)=>short_ref l A c W S (HLS.out W hW).1 (HLS.out W hW).2 (by omega))
 have HOF:=jI (fun(W:World)(A2:Option Addr)(c2:Nat)(hW:Below w.heap.size w W)(hla:LAt l W A2)=>(show Calls prog 12 #[.slice A2 l.length c2] W (OfW l W) from by
  obtain⟨T,h1,h2⟩:=hla
  exact ofW l A2 c2 W T h1 h2 hsz (hpw.below hW) (hz.below hW (aP _))))
 have HL:=jI hl
 obtain⟨q,hq⟩:=kE (l.all tL)
 simp only[←hq] at HSH
 obtain⟨N,hNl⟩:=kE l.length
 have HNL:=jI hNl
 rw[←hNl] at HSH HCL hll ⊢
 simp only[←hNl] at HOF
 clear hl hq hNl
 cases q with
 |false=>
  go_enter func4,ntmps4
  go_wp2_with fail
  refine (HAW.out w (jQ _ _)).mono ?_
  rintro e w1 ⟨rfl,hb1⟩
  go_wp2_with fail
  refine (HSH.out w1 hb1).mono ?_
  rintro e w2 ⟨rfl,hbn⟩
  have hb2:=hb1.trans (hbn.mono hb1.size)
  go_wp2_with fail
  refine (HAW.out w2 hb2).mono ?_
  rintro e w3 ⟨rfl,hbn⟩
  have hb3:=hb2.trans (hbn.mono hb2.size)
  go_wp2
  go_ret
  exact⟨rfl,hb3⟩
 |true=>
  go_enter func4,ntmps4
  go_wp2_with fail
  refine (HAW.out w (jQ _ _)).mono ?_
  rintro e w1 ⟨rfl,hb1⟩
  go_wp2_with fail
  refine (HSH.out w1 hb1).mono ?_
  rintro e w2 ⟨rfl,hbn⟩
  have hb2:=hb1.trans (hbn.mono hb1.size)
  clear hbn hb1
  go_wp2_with fail
  refine (HCL.out w2 hb2).mono ?_
  rintro e w3 ⟨v3,vs,rfl,hvl,hown,hd,hbn⟩
  obtain⟨A2,c2,rfl,-⟩:=aD hown
  have hla:=jI (LAt.of hvl hown hd)
  rw[←HNL.out]
  have hb3:=hb2.trans (hbn.mono hb2.size)
  clear hbn hb2 hown hd hvl
  go_wp2_with fail
  refine (HOF.out w3 A2 c2 hb3 hla.out).mono ?_
  rintro e w4 ⟨D,v,ln,er,rfl,hD,⟨hok,-⟩,hlim,hbn⟩
  have hb4:=hb3.trans (hbn.mono hb3.size)
  have HD4:=jI (dep_mono (S':=(·<w4.heap.size)) hD (fun g _ h=>h))
  have HDL:=jI hlim
  have HOK:=jI hok
  obtain⟨sA,sc,tA,tc,cA,cc,hA,hc',kA,kc,rfl,-⟩:=hD
  clear hbn hb3 hlim hok hla HOF HCL HSH HAW
  obtain⟨W5,hW5⟩:=kE (w4.alloc (.cells #[.slice sA D.servers.length sc,.slice tA D.sites.length tc,.int .u16 (D.wit:Nat),.slice cA D.gI.length cc,.slice hA D.chain.length hc',.slice kA D.clients.length kc] 48))
  have hbn:Below w4.heap.size w4 W5:=by rw[hW5];exact hbA _ _
  have hb5:=hb4.trans (hbn.mono hb4.size)
  have hr5:W5.heap[w4.heap.size]?=some (.cells #[.slice sA D.servers.length sc,.slice tA D.sites.length tc,.int .u16 (D.wit:Nat),.slice cA D.gI.length cc,.slice hA D.chain.length hc',.slice kA D.clients.length kc] 48 (0,0)):=by rw[hW5];exact jR _ _
  have HD5:=jI (HD4.out.keep (aA hbn))
  have hs45:=hbn.size
  have H5:=jI hW5
  have HR5:=jI hr5
  have hlt5:=jS hr5
  clear hbn hb4 HD4 hW5 hr5
  by_cases he:er=0
  rotate_left
  ·have heI:((er:Int) != 0)=true:=by simpa using he
   have I7:¬(er:Int)=0:=by omega
   go_wp2
   rw[←H5.out]
   go_ret
   exact⟨rfl,hb5⟩
  ·subst he
   have heI:(((0:Nat):Int) != 0)=false:=by decide
   obtain⟨-,hck,-,hcf⟩:=HOK.out rfl
   have HCK:=jI hck
   have HCF:=jI hcf
   clear HOK hck hcf
   go_wp2
   rw[←H5.out]
   go_loopw [31] (fun x wr=>∃k:Nat,k≤N∧x=.int .i64 k∧Below W5.heap.size W5 wr) (fun x _=>N-(intOf x).toNat)
   case atStart=>exact⟨0,cu _,rfl,jQ _ _⟩
   case round=>
   obtain⟨k,hk,rfl,hb⟩:=hrel
   have hsr:=hb.size
   have hbw:=hb5.trans (hb.mono hb5.size)
   by_cases hlt:k<N
   ·have hjl:k<l.length:=by rw[←HNL.out];exact hlt
    obtain⟨g,o,v,hAe,hSg,hp,hcs⟩:=dB (fun _ _ h=>lD h) HL.out hjl
    subst hAe
    obtain⟨d,hd⟩:=kE (l[k])
    have hdm:d∈l:=by rw[hd];exact bQ hjl
    rw[←hd] at hp
    have HDE:=jI hd
    obtain⟨cs,o2,m2,d2,wA2,wn2,wc2,kA2,kn2,kc2,o3,m3,d3,wA3,wn3,wc3,kA3,kn3,kc3,hcl,hone,rfl,c0,c2,t2,t3,hR,hW⟩:=dc_two hp
    have hrange:wr.rangeAt g (o+k * 22) cs:=fun i u hu=>(hbw.cell (p:=⟨g,o+k * 22+i,none⟩) (hS g hSg)).trans (hcs i u (by simpa [cellsOf,Value.cells] using hu))
    have mW:(prog.info? 35).map (·.size)=some cs.length:=by rw[hcl];exact cZ
    have hcs2:cs.toArray.size=22:=by simpa using hcl
    have nD:=jI hone
    have HCS:=jI hcs2
    have C0:=jI c0
    have C2:=jI c2
    have T2:=jI t2
    have T3:=jI t3
    have HRT:=jI hR
    have HWT:=jI hW
    have hkI:(k:Int)<(N:Int):=by omega
    have hk0:(0:Int)≤(k:Int):=by omega
    have hgs:g<wr.heap.size:=by have:=hS g hSg;have:=hbw.size;omega
    clear hp hcs hone hcs2 hcl c0 c2 t2 t3 hR hW hd
    by_cases hkd:d.kind=4
    rotate_left
    ·have hkb:(d.kind != 4)=true:=by simpa using hkd
     go_wp2_with (first|(with_reducible refine wpList_load_mid rfl 35 (.tmp 33) rfl g (o+k * 22) rfl cs _ hrange underlying35 rfl mW ?_)|(with_reducible refine bO _ rfl rfl (.tmp 9) (.tmp 34) rfl wr.heap.size cs.toArray rfl rfl _ (jR wr _) rfl HCS.out nD.out ?_;intro W6 hr6 hg6;have p0:=aY hr6 C0.out))
     have hb6:Below wr.heap.size wr W6:=(hbA _ _).trans (below_grown hg6 (aP _) (by simp))
     go_roundw
     case rel=>exact⟨k+1,by omega,by go_num,hb.trans (hb6.mono hsr)⟩
     case measure=>simp[intOf];omega
    ·have hty:=zJ HCK.out hjl (by rw[←HDE.out,hkd])
     rw[←HDE.out] at hty
     obtain⟨hty1,hty2,-⟩:=hty
     obtain⟨-,hts2,hts3⟩:=om hsz hdm
     obtain⟨hce,hco⟩:=cfg_found HCK.out HCF.out hdm hkd
     obtain⟨z,hzz⟩:=kE (s&&&4095)
     have hz1:z<4096:=by rw[hzz];exact fG Nat.and_le_right (by decide)
     have hand:bits .and .u16 (s:Int) 4095=(z:Int):=by
      rw[hzz,show (4095:Int)=((4095:Nat):Int) from rfl,u16_and_nat s 4095 hs (by decide)]
     obtain⟨her,har⟩:=yL hco.read z
     obtain⟨hew,haw⟩:=yL hco.write z
     have hrr:=Ci (A:=some ⟨g,o,none⟩) (c:=c) HCK.out hsz k hty1 hts2 her
     have hrw:=Ci (A:=some ⟨g,o,none⟩) (c:=c) HCK.out hsz k hty2 hts3 hew
     obtain⟨b1,hb1⟩:=kE (accepts (yB D d.name).read z)
     obtain⟨b2,hb2⟩:=kE (accepts (yB D d.name).write z)
     have HH1:=jI (fun(W:World)(hW:Below w.heap.size w W)=>hrr _ W (·<W.heap.size) z ((HLS.out W hW).1.mono (fun g h _=>(HLS.out W hW).2 g h) (by decide) (fun _ _ h=>h.mono (fun g h _=>(HLS.out W hW).2 g h))) ((HRT.out.keep (aj hW hS)).mono (fun g h _=>(HLS.out W hW).2 g h)) (fun g h=>h) hz1)
     have HH2:=jI (fun(W:World)(hW:Below w.heap.size w W)=>hrw _ W (·<W.heap.size) z ((HLS.out W hW).1.mono (fun g h _=>(HLS.out W hW).2 g h) (by decide) (fun _ _ h=>h.mono (fun g h _=>(HLS.out W hW).2 g h))) ((HWT.out.keep (aj hW hS)).mono (fun g h _=>(HLS.out W hW).2 g h)) (fun g h=>h) hz1)
     simp only[←har,←hb1] at HH1
     simp only[←haw,←hb2] at HH2
     rw[←HNL.out] at HH1 HH2
     have IZ:=hco.lim.2.1
     have IY:=hco.lim.2.2
     have HCP:=jI (fun(W:World)(hW:Below W5.heap.size W5 W)=>FM D _ d.name W _ (HD5.out.keep (aj hW (fun g (hg:g<w4.heap.size)=>bZ hg hs45))) (fun g hg=>bZ hg (cK hs45 hW.size)) HDL.out)
     have h0:((0:Nat):Int)=0:=rfl
     simp only[hce,h0] at HCP
     have hmem:=hco.mem
     obtain⟨x,hx⟩:=kE (yB D d.name)
     rw[←hx] at hb1 hb2 IZ IY hmem
     simp only[←hx] at HCP
     obtain⟨uR,huR⟩:=kE (dY x.read)
     obtain⟨uW,huW⟩:=kE (dY x.write)
     have h16R:uR<65536:=by rw[huR];exact iY (k:=16) IZ.2
     have h16W:uW<65536:=by rw[huW];exact iY (k:=16) IY.2
     have hob:=u16_or_nat uR uW h16R h16W
     rw[←huR,←huW] at hmem
     have HMEM:=jI hmem
     have HUR:=jI huR
     have HUW:=jI huW
     have HB1:=jI hb1
     have HB2:=jI hb2
     clear hty1 hty2 hts2 hts3 hce hco her hew har haw hrr hrw hx hzz hb1 hb2 hmem huR huW h16R h16W
     go_upto_region 10 with (first|(with_reducible refine wpList_load_mid rfl 35 (.tmp 33) rfl g (o+k * 22) rfl cs _ hrange underlying35 rfl mW ?_)|(with_reducible refine bO _ rfl rfl (.tmp 9) (.tmp 34) rfl wr.heap.size cs.toArray rfl rfl _ (jR wr _) rfl HCS.out nD.out ?_;intro W6 hr6 hg6;have p0:=aY hr6 C0.out;rw[hkd] at p0))
     have hb6:Below wr.heap.size wr W6:=(hbA _ _).trans (below_grown hg6 (aP _) (by simp))
     have hb56:=hb.trans (hb6.mono hsr)
     have c2:=aY hr6 C2.out
     have r56:=(hb56.block _ hlt5).trans HR5.out
     obtain⟨x0,x1,x2,x3,x4,x5⟩:=dz r56
     have HR6:=jI hr6
     have yo:=jS hr6
     have h56:=hb56.size
     clear hr6 hg6 p0 hrange hb6 r56
     go_wp2_with fail
     refine (HCP.out W6 hb56).mono ?_
     rintro e W7 ⟨v7,rfl,hx7,hbn⟩
     have hb57:=hb56.trans (hbn.mono h56)
     have r67:=(hbn.block _ yo).trans HR6.out
     obtain⟨rA,rc,uA,uc,fA,fc,rfl,hs1,hs2,-⟩:=hx7
     obtain⟨X,hX⟩:=kE (W7.alloc (.cells #[.string x.name,.int .i64 x.kind,.int .u16 (x.mem:Nat),.slice rA x.read.length rc,.slice uA x.write.length uc,.slice fA x.faults.length fc] 54))
     have hbX:Below W7.heap.size W7 X:=by rw[hX];exact hbA _ _
     have hrX:X.heap[W7.heap.size]?=some (.cells #[.string x.name,.int .i64 x.kind,.int .u16 ((uR|||uW:Nat):Int),.slice rA x.read.length rc,.slice uA x.write.length uc,.slice fA x.faults.length fc] 54 (0,0)):=by rw[hX,←HMEM.out];exact jR _ _
     have hb5X:=hb57.trans (hbX.mono hb57.size)
     have r6X:=(hbX.block _ (jS r67)).trans r67
     have HS1:=jI (hs1.keep (aA hbX))
     have HS2:=jI (hs2.keep (aA hbX))
     have HX:=jI hX
     have HRX:=jI hrX
     have HR6X:=jI r6X
     have hltX:=jS hrX
     have hlt6X:=jS r6X
     have hs5X:=hb5X.size
     have hb5wX:=hb5.trans (hb5X.mono hb5.size)
     have hswX:=hb5wX.size
     have HA1:=jI (fun(W:World)(hW:Below X.heap.size X W)=>uj x.read z IZ.2 (by omega) rA rc W (·<W.heap.size) (((HS1.out.keep (aA hW))).mono (fun g _ h=>h) (by decide)) (fun g h=>h) (by have:=IZ.1;omega))
     have HA2:=jI (fun(W:World)(hW:Below X.heap.size X W)=>uj x.write z IY.2 (by omega) uA uc W (·<W.heap.size) (((HS2.out.keep (aA hW))).mono (fun g _ h=>h) (by decide)) (fun g h=>h) (by have:=IY.1;omega))
     have HU1:=jI (fun(W:World)(hW:Below X.heap.size X W)=>tK x.read IZ.2 rA rc W (·<W.heap.size) (((HS1.out.keep (aA hW))).mono (fun g _ h=>h) (by decide)) (fun g h=>h) (by have:=IZ.1;omega))
     have HU2:=jI (fun(W:World)(hW:Below X.heap.size X W)=>tK x.write IY.2 uA uc W (·<W.heap.size) (((HS2.out.keep (aA hW))).mono (fun g _ h=>h) (by decide)) (fun g h=>h) (by have:=IY.1;omega))
     simp only[←HB1.out] at HA1
     simp only[←HB2.out] at HA2
     simp only[←HUR.out] at HU1
     simp only[←HUW.out] at HU2
     clear hbn hb56 hb57 hbX hrX r67 r6X hs1 hs2 hX x0 x1 x2 x3 x4 x5 c2 hb HCP HR6 HD5 HDL
     go_upto_region 11 with fail
     rw[←HX.out]
     have e1:(b1 != b1)=false:=by simp
     have e2:(b2 != b2)=false:=by simp
     have e3:(((uR|||uW:Nat):Int) != ((uR|||uW:Nat):Int))=false:=by simp
     refine av.start (fun W'=>Below X.heap.size X W') [] [0,1,2,3,4,5,6,8,9,10,11,12,17,18,19,20,22,23,24,25,26] (by kernel_rfl) (jQ _ _).drew (fun bx=>?_)
     repeat'
      first
      |refine av.take (v:=?_) rfl (by decide +kernel) (by rfl) (fun _ _ _ h=>h) bx ?_ ?_
       rotate_left
       focus
        intro w9 h9
        obtain⟨y0,y1,y2,y3,y4,y5⟩:=dz ((h9.block _ hltX).trans HRX.out)
        have hr9:=(h9.block _ hlt6X).trans HR6X.out
        obtain⟨f1,f2,f3,f4,f5⟩:=T2.out
        obtain⟨f6,f7,f8,f9,f0⟩:=T3.out
        have p1:=aY hr9 f1
        have p2:=aY hr9 f2
        have p3:=aY hr9 f3
        have p4:=aY hr9 f4
        have p5:=aY hr9 f5
        have p6:=aY hr9 f6
        have p7:=aY hr9 f7
        have p8:=aY hr9 f8
        have p9:=aY hr9 f9
        have p0:=aY hr9 f0
        go_simp;(try with_reducible rfl);done
       simp only[Act.put,List.getElem_toArray,List.getElem_cons_succ,List.getElem_cons_zero,List.setIfInBounds_toArray,List.set_cons_zero,List.set_cons_succ]
      |refine av.one 7 rfl (by decide +kernel) (by rfl) (fun K hK=>?_)
       go_simp
       go_at_call 14
       refine (HA1.out _ bx).mono ?_
       rintro e W2 ⟨rfl,rfl⟩
       try go_simp
       refine hK.out _ _ (fun _=>bx) ?_
       clear hK K
      |refine av.one 21 rfl (by decide +kernel) (by rfl) (fun K hK=>?_)
       go_simp
       go_at_call 14
       refine (HA2.out _ bx).mono ?_
       rintro e W2 ⟨rfl,rfl⟩
       try go_simp
       refine hK.out _ _ (fun _=>bx) ?_
       clear hK K
      |refine av.one 13 rfl (by decide +kernel) (by rfl) (fun K hK=>?_)
       go_simp
       go_at_call 11
       refine (HH1.out _ (hb5wX.trans (bx.mono hswX))).mono ?_
       rintro e W2 ⟨rfl,hbn⟩
       have bx:=bx.trans (hbn.mono bx.size)
       try go_simp
       refine hK.out _ _ (fun _=>bx) ?_
       clear hK K hbn
      |refine av.one 27 rfl (by decide +kernel) (by rfl) (fun K hK=>?_)
       go_simp
       go_at_call 11
       refine (HH2.out _ (hb5wX.trans (bx.mono hswX))).mono ?_
       rintro e W2 ⟨rfl,hbn⟩
       have bx:=bx.trans (hbn.mono bx.size)
       try go_simp
       refine hK.out _ _ (fun _=>bx) ?_
       clear hK K hbn
      |first
       |refine av.one 14 rfl (by decide +kernel) (by rfl) (fun K hK=>?_)
       |refine av.one 15 rfl (by decide +kernel) (by rfl) (fun K hK=>?_)
       |refine av.one 16 rfl (by decide +kernel) (by rfl) (fun K hK=>?_)
       |refine av.one 28 rfl (by decide +kernel) (by rfl) (fun K hK=>?_)
       |refine av.one 29 rfl (by decide +kernel) (by rfl) (fun K hK=>?_)
       go_simp
       refine hK.out _ _ (fun _=>bx) ?_
       clear hK K
     refine av.done (by decide +kernel) ?_
     go_upto_region 13 with fail
     refine av.start (fun W'=>Below X.heap.size X W') [] [0,1,2,3,5,6] (by kernel_rfl) bx.drew (fun bx=>?_)
     repeat'
      first
      |refine av.take (v:=?_) rfl (by decide +kernel) (by rfl) (fun _ _ _ h=>h) bx ?_ ?_
       rotate_left
       focus
        intro w9 h9
        obtain⟨y0,y1,y2,y3,y4,y5⟩:=dz ((h9.block _ hltX).trans HRX.out)
        go_simp;(try with_reducible rfl);done
       simp only[Act.put,List.getElem_toArray,List.getElem_cons_succ,List.getElem_cons_zero,List.setIfInBounds_toArray,List.set_cons_zero,List.set_cons_succ]
      |refine av.one 4 rfl (by decide +kernel) (by rfl) (fun K hK=>?_)
       go_simp
       go_at_call 15
       refine (HU1.out _ bx).mono ?_
       rintro e W2 ⟨rfl,rfl⟩
       try go_simp
       refine hK.out _ _ (fun _=>bx) ?_
       clear hK K
      |refine av.one 7 rfl (by decide +kernel) (by rfl) (fun K hK=>?_)
       go_simp
       go_at_call 15
       refine (HU2.out _ bx).mono ?_
       rintro e W2 ⟨rfl,rfl⟩
       try go_simp
       refine hK.out _ _ (fun _=>bx) ?_
       clear hK K
      |first
       |refine av.one 8 rfl (by decide +kernel) (by rfl) (fun K hK=>?_)
       |refine av.one 9 rfl (by decide +kernel) (by rfl) (fun K hK=>?_)
       go_simp
       refine hK.out _ _ (fun _=>bx) ?_
       clear hK K
     refine av.done (by decide +kernel) ?_
     go_wp2
     go_roundw
     case rel=>exact⟨k+1,by omega,by go_num,hb5X.trans (bx.mono hs5X)⟩
     case measure=>simp[intOf];omega
   ·have hkI:¬(k:Int)<(N:Int):=by omega
    go_wp2
    go_ret
    exact⟨rfl,hbw⟩
end
section
open Go.ChangeShapes Go.WideShapes Go.ChangeAt Go.RowKit
open _root_.Go.Proofs.Tryz
theorem gTab:prog.globalNamed "math/bits.deBruijn32tab" = some 2 := by kernel_rfl
theorem gTabType:(prog.globals[2]?).map (·.type)=some 290:=by kernel_rfl
theorem cellsTab:prog.cellsOf 290=32:=by kernel_rfl
theorem cells5:prog.cellsOf 5=1:=by kernel_rfl
theorem G5{W:World}(h:laidMetH prog laid3 W):Tz W:=by
 rw[MakeChecks.laidMetH_plain _ _ _ (by kernel_rfl)] at h
 have ht:Lib.TabIs prog W "math/bits.deBruijn32tab" .u8 [0,1,28,2,29,14,24,3,30,22,20,15,25,17,4,8,31,27,13,23,21,19,16,7,26,12,18,6,11,5,10,9] :=
  Lib.tabIs_of_head gTab gTabType underlying290 underlying5 cells5 cellsTab h
 have hc:=fun i hi=>ht.cell gTab i hi
 refine⟨World.block_lt_of_cell? W _ (hc 0 (by decide)),fun i hi=>?_⟩
 rw[hc i hi]
 have:∀i,i<32→([0,1,28,2,29,14,24,3,30,22,20,15,25,17,4,8,31,27,13,23,21,19,16,7,26,12,18,6,11,5,10,9]:List Int).getD i 0=((tzTab.getD i 0:Nat):Int):=by decide
 rw[this i hi]
theorem u16_of{x:Int}(h:(Lit.int .u16 x).wf=true):∃s:Nat,s<65536∧x=s:=by
 simp[Lit.wf,IntKind.min,IntKind.max,IntKind.signed,IntKind.bits] at h
 exact⟨x.toNat,by omega,by omega⟩
end
end Go.Proofs.YtmohibkomlhlaaaGreatDoor
