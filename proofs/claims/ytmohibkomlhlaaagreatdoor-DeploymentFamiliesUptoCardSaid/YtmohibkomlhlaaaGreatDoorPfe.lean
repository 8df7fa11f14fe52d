/- Load at the law's example, and awake, over Of in general. Conditions: the tables of powers and of math/bits lie in the world. The contracts of the bg Contains, Accepts and Support. Sets of sixteen servers. The plain law of families: what Family returns accepts a set exactly if the set satisfies the expression. No condition. -/
import Derived.Test.YtmohibkomlhlaaaGreatDoorPfd
set_option maxRecDepth 100000
set_option maxHeartbeats 8000000
namespace Go.Proofs.YtmohibkomlhlaaaGreatDoor
section
open Go.RowKit
open _root_.Go.Proofs.Tryz
def OfPW(w:World)(e:Ending)(w':World):Prop:=
 ∃svA svc sA sn sc wt cg co cc hA hn hc kA kn kc nm kd mem rA rc wA wc fA fc,e=.returned (.tuple #[.agg #[.slice svA 3 svc,.slice sA sn sc,.int .u16 (wt:Nat),.slice (some ⟨cg,co,none⟩) 1 cc,.slice hA hn hc,.slice kA kn kc],.int .i64 0,.int .i64 0])∧
  (w'.cell? ⟨cg,co,none⟩=some (.string nm)∧w'.cell? ⟨cg,co+1,none⟩=some (.int .i64 kd)∧w'.cell? ⟨cg,co+2,none⟩=some (.int .u16 mem)∧w'.cell? ⟨cg,co+3,none⟩=some (.slice rA 3 rc)∧w'.cell? ⟨cg,co+4,none⟩=some (.slice wA 1 wc)∧w'.cell? ⟨cg,co+5,none⟩=some (.slice fA 3 fc))∧
  ak w' (w.heap.size<·) 1 rA 3 (dH [3,5,6])∧ak w' (w.heap.size<·) 1 wA 1 (dH [7])∧w.heap.size<cg∧Below w.heap.size w w'
theorem GA:fq (ai [dp1,dp2,dp3]).length 0 1=([(0,1),(0,2),(0,4)],0):=by rw[zA];exact dp_thr
theorem ex_md:MdG [dp1,dp2,dp3] dp3.use:=⟨dp2,⟨2,bs [],0,1,[],[]⟩,dp_find,rfl,rfl,by show (fq (ai [dp1,dp2,dp3]).length 0 1).2=0;rw[GA],by show 0<(fq (ai [dp1,dp2,dp3]).length 0 1).1.length;rw[GA];decide,by
 show ∀y∈(fq (ai [dp1,dp2,dp3]).length 0 1).1,J5 y=0
 rw[GA];decide⟩
theorem Bl:iI (bS [dp1,dp2,dp3] dp3.read)=([3,5,6],0)∧iI (bS [dp1,dp2,dp3] dp3.write)=([7],0):=by
 refine⟨?_,?_⟩
 ·unfold iI;rw[if_pos dp_read];exact dp_famR
 ·unfold iI;rw[if_pos dp_write];exact dp_famW
theorem ex_good:OfG [dp1,dp2,dp3]:=by
 refine⟨by rw[dp_check],fun d hd hk=>?_,fun d hd=>?_⟩
 ·simp only[List.mem_cons,List.not_mem_nil,or_false] at hd
  rcases hd with rfl|rfl|rfl
  ·exact absurd hk (by decide)
  ·exact absurd hk (by decide)
  ·exact⟨by rw[Bl.1],by rw[Bl.2],ex_md⟩
 ·simp only[List.mem_cons,List.not_mem_nil,or_false] at hd
  rcases hd with rfl|rfl|rfl<;>decide
theorem ex_flts{F:List (Nat × Nat)}(h:MdR [dp1,dp2,dp3] dp3.use F):F.length=3:=by
 obtain⟨p,h1,h2⟩:=h dp2 ⟨2,bs [],0,1,[],[]⟩ dp_find rfl rfl
 have e1:(fq (ai [dp1,dp2,dp3]).length (Int.toNat 0) (Int.toNat 1)).1=[(0,1),(0,2),(0,4)]:=by
  show (fq (ai [dp1,dp2,dp3]).length 0 1).1=_
  rw[GA]
 have h3:p.Perm [(0,1),(0,2),(0,4)]:=by
  have:=h1 (by rw[e1];decide)
  rw[e1] at this
  exact this
 have h4:p.filter (fun a=>!p.any (kg a))=p:=by
  rw[List.filter_eq_self]
  intro a ha
  have ha':=h3.mem_iff.1 ha
  rw[Bool.not_eq_true',List.any_eq_false]
  intro b hb
  have hb':=h3.mem_iff.1 hb
  have key:∀a∈([(0,1),(0,2),(0,4)]:List (Nat × Nat)),∀b∈([(0,1),(0,2),(0,4)]:List (Nat × Nat)),kg a b=false:=by decide
  rw[key a ha' b hb']
  decide
 rw[h2,h4,h3.length_eq]
 rfl
theorem of_exW(A:Option Addr)(c:Nat)(w:World)(S:Nat→Prop)(hl:aO (dS w S) w S 22 A [dp1,dp2,dp3])(hS:∀g,S g→g<w.heap.size)(hpw:Pow w)(hz:Tz w):
  Calls prog 12 #[.slice A 3 c] w (OfPW w):=by
 refine (ofW [dp1,dp2,dp3] A c w S hl hS dp_size hpw hz).mono fun e w' h=>?_
 obtain⟨x,v,ln,er,rfl,hx,⟨h1,h2⟩,-,hb⟩:=h
 have he:=h2 ex_good
 obtain⟨rfl,-,hsv,hcf⟩:=h1 he
 subst he
 obtain⟨y,hy,hyo⟩:=hcf.each 2 (by decide) (by decide) rfl
 have hyo:CfOk [dp1,dp2,dp3] dp3 y:=hyo
 have hc1:x.gI.length=1:=hcf.cnt.trans (by kernel_rfl)
 obtain⟨z,hz1⟩:=List.length_eq_one_iff.1 hc1
 rw[hz1] at hy
 obtain rfl:y=z:=by simpa using hy
 have hs3:x.servers.length=3:=by rw[hsv];exact zA
 obtain⟨sA,sc,tA,tc,cA,cc,hA,hc,kA,kc,rfl,s1,-,s3,-,-⟩:=hx
 rw[hz1] at s3
 obtain⟨g,o,v,rfl,hSg,hp,hcs⟩:=dB (fun _ _ h=>FO h) s3 (i:=0) (Nat.zero_lt_one)
 have hp:eH w' (w.heap.size<·) y v:=hp
 obtain⟨rA,rc,wA,wc,fA,fc,rfl,t1,t2,-⟩:=hp
 have hr:y.read=[3,5,6]:=by have h:=hyo.read;rw[Bl.1] at h;exact (Prod.mk.inj h).1.symm
 have hw:y.write=[7]:=by have h:=hyo.write;rw[Bl.2] at h;exact (Prod.mk.inj h).1.symm
 have hf:=ex_flts hyo.md
 have c0:=hcs 0 _ rfl
 have c1:=hcs 1 _ rfl
 have c2:=hcs 2 _ rfl
 have c3:=hcs 3 _ rfl
 have c4:=hcs 4 _ rfl
 have c5:=hcs 5 _ rfl
 simp only[Nat.zero_mul,Nat.add_zero] at c0 c1 c2 c3 c4 c5
 rw[hr] at t1 c3
 rw[hw] at t2 c4
 rw[hf] at c5
 rw[hs3,hz1]
 exact⟨sA,sc,tA,x.sites.length,tc,x.wit,g,o,cc,hA,x.chain.length,hc,kA,x.clients.length,kc,y.name,y.kind,(y.mem:Nat),rA,rc,wA,wc,fA,fc,rfl,⟨c0,c1,c2,c3,c4,c5⟩,t1,t2,hSg,hb⟩
theorem load_exW(w:World)(hpw:Pow w)(hz:Tz w):Calls prog 23 #[.string (bs dm)] w (OfPW w):=by
 have hbA:∀(W:World)(o:Obj),Below W.heap.size W (W.alloc o):=fun W o=>(jQ _ _).alloc (aP _) o
 have HPA:=jI parse_dp
 have HOF:=jI of_exW
 have HP:=jI hpw
 have HZ:=jI hz
 obtain⟨tx,htx⟩:=kE (bs dm)
 rw[←htx] at HPA ⊢
 obtain⟨W0,hW0⟩:=kE (w.alloc (.cells Eb 48))
 have hb0:Below w.heap.size w W0:=by rw[hW0];exact hbA _ _
 have hr0:W0.heap[w.heap.size]?=some (.cells Eb 48 (0,0)):=by rw[hW0];exact jR _ _
 have H0:=jI hW0
 have HR0:=jI hr0
 have zk:=jS hr0
 clear hpw hz hW0 hr0 htx
 go_enter func23,ntmps23
 go_wp2_with fail
 rw[←H0.out]
 refine (HPA.out W0).mono ?_
 rintro e w1 ⟨A1,c1,rfl,hc1,hl1,hb1⟩
 have iC:=hb0.trans (hb1.mono hb0.size)
 have r1:=(hb1.block _ zk).trans HR0.out
 have HO:=jI (HOF.out A1 c1 w1 (fun g=>W0.heap.size≤g∧g<w1.heap.size) (hl1.mono (fun g h1 h2=>⟨h1,h2⟩) (by decide) (fun _ _ h=>h.mono fun g h1 h2=>⟨h1,h2⟩)) (fun g hg=>hg.2) (HP.out.below iC) (HZ.out.below iC (aP _)))
 clear hl1 hc1
 go_wp2_with fail
 refine HO.out.mono ?_
 rintro e w2 ⟨svA,svc,sA,sn,sc,wt,cg,co,cc,hA,hn,hc,kA,kn,kc,nm,kd,mem,rA,rc,wA,wc,fA,fc,rfl,hcl,hsr,hsw,hcg,hb2⟩
 have r2:=(hb2.block _ (jS r1)).trans r1
 have hbw2:=iC.trans (hb2.mono iC.size)
 have hs1:=iC.size
 have hlt1:=jS r1
 obtain⟨y0,y1,y2,y3,y4,y5⟩:=dz r2
 have g0:=jT _ _ 0 _ _ r2
 have g1:=jT _ _ 1 _ _ r2
 have g2:=jT _ _ 2 _ _ r2
 have g3:=jT _ _ 3 _ _ r2
 have g4:=jT _ _ 4 _ _ r2
 have g5:=jT _ _ 5 _ _ r2
 have HR2:=jI r2
 have HCL:=jI hcl
 have HSR:=jI hsr
 have HSW:=jI hsw
 clear r2 hcl hsr hsw
 go_wp2
 have hrow:=row_put6 (b0:=.slice svA 3 svc) (b1:=.slice sA sn sc) (b2:=.int .u16 (wt:Nat)) (b3:=.slice (some ⟨cg,co,none⟩) 1 cc) (b4:=.slice hA hn hc) (b5:=.slice kA kn kc) HR2.out
 have hne:∀(X:World)(i:Nat)(u:Value)(g:Nat),g≠w.heap.size→(X.setCell ⟨w.heap.size,i,none⟩ u).heap[g]?=X.heap[g]?:=fun X i u g h=>kC X ⟨w.heap.size,i,none⟩ u g h
 have hkeep:∀g,g≠w.heap.size→((((((w2.setCell ⟨w.heap.size,0,none⟩ (.slice svA 3 svc)).setCell ⟨w.heap.size,1,none⟩ (.slice sA sn sc)).setCell ⟨w.heap.size,2,none⟩ (.int .u16 (wt:Nat))).setCell ⟨w.heap.size,3,none⟩ (.slice (some ⟨cg,co,none⟩) 1 cc)).setCell ⟨w.heap.size,4,none⟩ (.slice hA hn hc)).setCell ⟨w.heap.size,5,none⟩ (.slice kA kn kc)).heap[g]?=w2.heap[g]?:=fun g hg=>by
  rw[hne _ _ _ g hg,hne _ _ _ g hg,hne _ _ _ g hg,hne _ _ _ g hg,hne _ _ _ g hg,hne _ _ _ g hg]
 have hbf:Below w.heap.size w ((((((w2.setCell ⟨w.heap.size,0,none⟩ (.slice svA 3 svc)).setCell ⟨w.heap.size,1,none⟩ (.slice sA sn sc)).setCell ⟨w.heap.size,2,none⟩ (.int .u16 (wt:Nat))).setCell ⟨w.heap.size,3,none⟩ (.slice (some ⟨cg,co,none⟩) 1 cc)).setCell ⟨w.heap.size,4,none⟩ (.slice hA hn hc)).setCell ⟨w.heap.size,5,none⟩ (.slice kA kn kc)):=
  (((((hbw2.setCell (p:=⟨w.heap.size,0,none⟩) (aP _) _).setCell (p:=⟨w.heap.size,1,none⟩) (aP _) _).setCell (p:=⟨w.heap.size,2,none⟩) (aP _) _).setCell (p:=⟨w.heap.size,3,none⟩) (aP _) _).setCell (p:=⟨w.heap.size,4,none⟩) (aP _) _).setCell (p:=⟨w.heap.size,5,none⟩) (aP _) _
 generalize ((((((w2.setCell ⟨w.heap.size,0,none⟩ (.slice svA 3 svc)).setCell ⟨w.heap.size,1,none⟩ (.slice sA sn sc)).setCell ⟨w.heap.size,2,none⟩ (.int .u16 (wt:Nat))).setCell ⟨w.heap.size,3,none⟩ (.slice (some ⟨cg,co,none⟩) 1 cc)).setCell ⟨w.heap.size,4,none⟩ (.slice hA hn hc)).setCell ⟨w.heap.size,5,none⟩ (.slice kA kn kc))=W9 at hrow hkeep hbf ⊢
 have hk9:∀g,w1.heap.size<g→g<w2.heap.size→W9.heap[g]?=w2.heap[g]?:=fun g hg _=>hkeep g (by omega)
 have hc9:∀i,W9.cell? ⟨cg,i,none⟩=w2.cell? ⟨cg,i,none⟩:=fun i=>cell_of_block (hkeep cg (by omega))
 have hcg2:=HCL.out
 refine oJ rfl rfl rfl rfl rfl hrow rfl ?_
 exact⟨svA,svc,sA,sn,sc,wt,cg,co,cc,hA,hn,hc,kA,kn,kc,nm,kd,mem,rA,rc,wA,wc,fA,fc,rfl,⟨(hc9 co).trans hcg2.1,(hc9 (co+1)).trans hcg2.2.1,(hc9 (co+2)).trans hcg2.2.2.1,(hc9 (co+3)).trans hcg2.2.2.2.1,(hc9 (co+4)).trans hcg2.2.2.2.2.1,(hc9 (co+5)).trans hcg2.2.2.2.2.2⟩,
  (HSR.out.keep hk9).mono (fun g hg _=>by omega) (by decide),(HSW.out.keep hk9).mono (fun g hg _=>by omega) (by decide),by omega,hbf⟩
theorem awake25_W(w:World)(hpw:Pow w)(hz:Tz w):Calls prog 6 #[] w fun e w'=>e=.returned (.bool true)∧Below w.heap.size w w':=by
 have hbA:∀(W:World)(o:Obj),Below W.heap.size W (W.alloc o):=fun W o=>(jQ _ _).alloc (aP _) o
 have HL:=jI (load_exW w hpw hz)
 have HP:=jI hpw
 have HZ:=jI hz
 have HNM:=jI name1_any
 clear hpw hz
 go_enter func6,ntmps6
 go_wp2_with fail
 refine HL.out.mono ?_
 rintro e w1 ⟨svA,svc,sA,sn,sc,wt,cg,co,cc,hA,hn,hc,kA,kn,kc,nm,kd,mem,rA,rc,wA,wc,fA,fc,rfl,hcl,hsr,hsw,hcg,hb1⟩
 have hs1:=hb1.size
 obtain⟨W1,hW1⟩:=kE (w1.alloc (.cells #[.slice svA 3 svc,.slice sA sn sc,.int .u16 (wt:Nat),.slice (some ⟨cg,co,none⟩) 1 cc,.slice hA hn hc,.slice kA kn kc] 48))
 have hbW1:Below w1.heap.size w1 W1:=by rw[hW1];exact hbA _ _
 have hr1:W1.heap[w1.heap.size]?=some (.cells #[.slice svA 3 svc,.slice sA sn sc,.int .u16 (wt:Nat),.slice (some ⟨cg,co,none⟩) 1 cc,.slice hA hn hc,.slice kA kn kc] 48 (0,0)):=by rw[hW1];exact jR _ _
 obtain⟨b1,hb1e⟩:=kE w1.heap.size
 have iC:=hb1.trans (hbW1.mono hs1)
 have H1:=jI hW1
 have HCL:=jI hcl
 have HSR:=jI hsr
 have HSW:=jI hsw
 clear hW1 hcl hsr hsw
 go_upto_region 2 with fail
 rw[←H1.out]
 rw[←hb1e] at hr1 ⊢
 have HR1:=jI hr1
 have hlt1:=jS hr1
 clear hr1 H1
 go_upto_region 4 with fail
 obtain⟨bA,hbAe⟩:=kE W1.heap.size
 obtain⟨Wx,hWx⟩:=kE ((W1.alloc (.cells #[.string ⟨#[97]⟩,.string ⟨#[98]⟩,.string ⟨#[99]⟩] 9)).alloc (.cells #[.int .i64 1,.string ⟨#[]⟩,.int .i64 0,.int .i64 0,.slice none 0 0,.slice none 0 0] 68))
 have hsx:Wx.heap.size=W1.heap.size+1+1:=by rw[hWx];simp
 obtain⟨W2,hW2⟩:=kE (Wx.alloc (.cells ((.int .i64 1::.int .i64 0::.string ⟨#[115]⟩::.slice (some ⟨bA,0,none⟩) 3 3::.slice none 0 0::.int .i64 0::.string ⟨#[]⟩::.int .i64 0::.slice none 0 0::.slice none 0 0::.string ⟨#[]⟩::.int .i64 0::.string ⟨#[]⟩::.int .i64 0::.slice none 0 0::.slice none 0 0::.int .i64 0::.string ⟨#[]⟩::.int .i64 0::.slice none 0 0::.slice none 0 0::.string ⟨#[]⟩::.int .i64 2::.int .i64 0::.string ⟨#[102]⟩::.slice none 0 0::.slice (some ⟨bA+1,0,none⟩) 1 1::.int .i64 0::.string ⟨#[]⟩::.int .i64 0::.slice none 0 0::.slice none 0 0::.string ⟨#[]⟩::.int .i64 0::.string ⟨#[]⟩::.int .i64 0::.slice none 0 0::.slice none 0 0::.int .i64 0::.string ⟨#[]⟩::.int .i64 0::.slice none 0 0::.slice none 0 0::.string ⟨#[]⟩::[]).toArray) 35))
 have hbx:Below W1.heap.size W1 Wx:=by rw[hWx];exact (hbA _ _).alloc (by simp) _
 have hb2x:Below Wx.heap.size Wx W2:=by rw[hW2];exact hbA _ _
 have hb12:Below W1.heap.size W1 W2:=hbx.trans (hb2x.mono hbx.size)
 have hrN:W2.heap[bA]?=some (.cells #[.string ⟨#[97]⟩,.string ⟨#[98]⟩,.string ⟨#[99]⟩] 9 (0,0)):=(hb2x.block bA (by omega)).trans (by rw[hWx,hbAe];exact heap_alloc2_old _ _ _)
 have hrF:W2.heap[bA+1]?=some (.cells #[.int .i64 1,.string ⟨#[]⟩,.int .i64 0,.int .i64 0,.slice none 0 0,.slice none 0 0] 68 (0,0)):=(hb2x.block (bA+1) (by omega)).trans (by rw[hWx,hbAe];exact heap_alloc2_new _ _ _)
 have hown:W2.ownsRow W1.heap.size 35 22 (.slice (some ⟨W1.heap.size+1+1,0,none⟩) 2 2) 2 (awRow bA):=by
  rw[hW2,←hsx]
  exact World.ownsRow_lit (base:=W1.heap.size) (e:=35) (size:=22) Wx (awRow bA).toArray 2 (by omega) (by decide) rfl
 have H2:=jI (show ((W1.alloc (.cells #[.string ⟨#[97]⟩,.string ⟨#[98]⟩,.string ⟨#[99]⟩] 9)).alloc (.cells #[.int .i64 1,.string ⟨#[]⟩,.int .i64 0,.int .i64 0,.slice none 0 0,.slice none 0 0] 68)).alloc (.cells ((.int .i64 1::.int .i64 0::.string ⟨#[115]⟩::.slice (some ⟨bA,0,none⟩) 3 3::.slice none 0 0::.int .i64 0::.string ⟨#[]⟩::.int .i64 0::.slice none 0 0::.slice none 0 0::.string ⟨#[]⟩::.int .i64 0::.string ⟨#[]⟩::.int .i64 0::.slice none 0 0::.slice none 0 0::.int .i64 0::.string ⟨#[]⟩::.int .i64 0::.slice none 0 0::.slice none 0 0::.string ⟨#[]⟩::.int .i64 2::.int .i64 0::.string ⟨#[102]⟩::.slice none 0 0::.slice (some ⟨bA+1,0,none⟩) 1 1::.int .i64 0::.string ⟨#[]⟩::.int .i64 0::.slice none 0 0::.slice none 0 0::.string ⟨#[]⟩::.int .i64 0::.string ⟨#[]⟩::.int .i64 0::.slice none 0 0::.slice none 0 0::.int .i64 0::.string ⟨#[]⟩::.int .i64 0::.slice none 0 0::.slice none 0 0::.string ⟨#[]⟩::[]).toArray) 35)=W2 by rw[hW2,hWx])
 rw[←hbAe]
 rw[H2.out]
 have HRN:=jI hrN
 have HRF:=jI hrF
 rw[←hbAe] at hown
 clear hrN hrF hWx hW2 H2
 have hlA:=jS HRF.out
 have hb1A:b1<bA:=by omega
 have hwb1:w.heap.size≤b1:=by omega
 have hA12:bA≤W2.heap.size:=by omega
 have hw2:W1.heap.size≤W2.heap.size:=hb12.size
 have hBA:W1.heap.size≤bA:=by omega
 have hBA2:bA≤W1.heap.size:=by omega
 have hB1:w1.heap.size≤b1:=by omega
 have hB2:b1≤w1.heap.size:=by omega
 clear hbAe hb1e hsx
 go_wp2_with fail
 refine (HNM.out _ _).mono ?_
 rintro e W3 ⟨rfl,hb3⟩
 go_wp2_with fail
 refine (HNM.out _ _).mono ?_
 rintro e W4 ⟨rfl,hb4⟩
 have hb24:Below W2.heap.size W2 W4:=hb3.trans (hb4.mono hb3.size)
 have jX:=own_below hown hb24 (aP _)
 have hsz24:=hb24.size
 have HOWN4:=jI jX
 clear hown jX hb3 hb4
 have hszA:bA≤W4.heap.size:=by omega
 have hrN4:=(hb24.block bA (by omega)).trans HRN.out
 have hrF4:=(hb24.block (bA+1) hlA).trans HRF.out
 have hr14:=(hb24.block b1 (by omega)).trans ((hb12.block b1 hlt1).trans HR1.out)
 have HRN4:=jI hrN4
 have HRF4:=jI hrF4
 have HR14:=jI hr14
 clear hrN4 hrF4 hr14 HRN HRF
 go_wp2_with (at_builtin;refine Ck W4 rfl (.tmp 20) (.tmp 26) rfl bA _ 2 (awRow bA) HOWN4.out rfl 4 0 ⟨#[120]⟩ none 0 0 none 0 0 ⟨#[99,114,97,115,104]⟩ ⟨#[102]⟩ 0 ⟨#[]⟩ 0 none 0 0 none 0 0 1 ⟨#[97]⟩ 0 none 0 0 none 0 0 1 ⟨#[97]⟩ 0 none 0 0 none 0 0 rfl (by decide) hszA ?_;intro v7 W7 fu hg7 hv7;obtain⟨A7,c7,hv8,hc7⟩:=aD fu;subst hv8)
 have h17:Below W1.heap.size W1 W7:=(hb12.trans (hb24.mono hw2)).trans ((aN HOWN4.out hg7 hszA).mono hBA)
 have hrN7:=(hg7.block bA (by have:=jS HRN4.out;omega) (by simp only[Value.ownBlock];intro e;injection e;omega)).trans HRN4.out
 have hrF7:=(hg7.block (bA+1) (jS HRF4.out) (by simp only[Value.ownBlock];intro e;injection e;omega)).trans HRF4.out
 have hls7:ak W7 (bA≤·) 22 A7 3 (awRow bA++awRow3):=ak.own fu
 have HRN7:=jI hrN7
 have HRF7:=jI hrF7
 have HLS7:=jI hls7
 have h7s:=h17.size
 have h7A:=jS hrF7
 clear fu hg7 hv7 hrN7 hrF7 hls7 HOWN4 HRN4 HRF4
 go_wp2_with fail
 refine (HNM.out _ _).mono ?_
 rintro e W8 ⟨rfl,hb8⟩
 go_wp2_with fail
 refine (HNM.out _ _).mono ?_
 rintro e W9 ⟨rfl,hb9⟩
 go_wp2_with fail
 refine (HNM.out _ _).mono ?_
 rintro e W10 ⟨rfl,hb10⟩
 have hb7a:Below W7.heap.size W7 W10:=hb8.trans ((hb9.trans (hb10.mono hb9.size)).mono hb8.size)
 have h10s:=hb7a.size
 clear hb8 hb9 hb10
 go_wp2_with fail
 obtain⟨bT,hbT⟩:=kE W10.heap.size
 obtain⟨Wz,hWz⟩:=kE ((W10.alloc (.cells #[.int .i64 1,.string ⟨#[98]⟩,.int .i64 0,.slice none 0 0,.slice none 0 0,.int .i64 1,.string ⟨#[99]⟩,.int .i64 0,.slice none 0 0,.slice none 0 0] 26)).alloc (.cells #[.int .i64 1,.string ⟨#[97]⟩,.int .i64 0,.slice none 0 0,.slice none 0 0,.int .i64 4,.string ⟨#[]⟩,.int .i64 0,.slice none 0 0,.slice (some ⟨bT,0,none⟩) 2 2] 26))
 have hbz:Below W10.heap.size W10 Wz:=by rw[hWz];exact (hbA _ _).alloc (by simp) _
 have hrT:Wz.heap[bT]?=some (.cells #[.int .i64 1,.string ⟨#[98]⟩,.int .i64 0,.slice none 0 0,.slice none 0 0,.int .i64 1,.string ⟨#[99]⟩,.int .i64 0,.slice none 0 0,.slice none 0 0] 26 (0,0)):=by rw[hWz,hbT];exact heap_alloc2_old _ _ _
 have hrU:Wz.heap[bT+1]?=some (.cells #[.int .i64 1,.string ⟨#[97]⟩,.int .i64 0,.slice none 0 0,.slice none 0 0,.int .i64 4,.string ⟨#[]⟩,.int .i64 0,.slice none 0 0,.slice (some ⟨bT,0,none⟩) 2 2] 26 (0,0)):=by rw[hWz,hbT];exact heap_alloc2_new _ _ _
 rw[←hbT,←hWz]
 have hb7z:Below W7.heap.size W7 Wz:=hb7a.trans (hbz.mono h10s)
 have hzs:=hb7z.size
 have HEX:=jI (FC [aw1,aw2,aw3] A7 c7 awT (.agg #[.int .i64 2,.string ⟨#[]⟩,.int .i64 2,.slice none 0 0,.slice (some ⟨bT+1,0,none⟩) 2 2]) Wz (·<Wz.heap.size)
  (aw_list (bA:=bA) ((hb7z.block _ (by omega)).trans HRN7.out) ((hb7z.block _ h7A).trans HRF7.out) ((HLS7.out.keep (aA hb7z)).mono (fun g _ hl=>hl) (by decide)) (by have:=jS HRF7.out;omega) (by omega))
  (aw_term hrT hrU) (fun g hg=>hg) aw_size.1 aw_size.2 (HP.out.below ((iC.trans (h17.mono iC.size)).trans (hb7z.mono (by have:=iC.size;omega)))))
 rw[DZ.1] at HEX
 obtain⟨x5,hx5⟩:=kE ((ql [aw1,aw2,aw3] awT).1)
 have hx5l:x5.nodes.length=5:=by rw[hx5];exact DZ.2
 rw[←hx5] at HEX
 have HX5:=jI hx5l
 have hlc:=World.block_lt_of_cell? w1 _ HCL.out.1
 have hb1z:Below w1.heap.size w1 Wz:=hbW1.trans ((h17.trans (hb7z.mono h7s)).mono hbW1.size)
 clear hx5 hWz hbT hrT hrU hbz hx5l
 refine HEX.out.mono ?_
 rintro e W11 ⟨v11,rfl,hx11,hb11⟩
 obtain⟨A11,c11,rfl,-,-⟩:=hx11
 rw[HX5.out]
 obtain⟨rt,hrt⟩:=kE x5.root
 rw[←hrt]
 clear hrt
 have hb111:Below w1.heap.size w1 W11:=hb1z.trans (hb11.mono hb1z.size)
 have hrb1:W11.heap[b1]?=some (.cells #[.slice svA 3 svc,.slice sA sn sc,.int .u16 (wt:Nat),.slice (some ⟨cg,co,none⟩) 1 cc,.slice hA hn hc,.slice kA kn kc] 48 (0,0)):=(hb11.block _ (by omega)).trans ((hb7z.block _ (by omega)).trans ((h17.block b1 hlt1).trans HR1.out))
 obtain⟨Wc,hWc⟩:=kE (W11.alloc (.cells #[.slice A11 5 c11,.int .i64 rt] 38))
 have hbc:Below W11.heap.size W11 Wc:=by rw[hWc];exact hbA _ _
 have hrc2:Wc.heap[W11.heap.size]?=some (.cells #[.slice A11 5 c11,.int .i64 rt] 38 (0,0)):=by rw[hWc];exact jR _ _
 have Ja:Below w1.heap.size w1 Wc:=hb111.trans (hbc.mono hb111.size)
 have hrb1c:=(hbc.block _ (jS hrb1)).trans hrb1
 obtain⟨z0,z1,z2,z3,z4,z5⟩:=dz hrb1c
 obtain⟨y0,y1⟩:=aG hrc2
 obtain⟨q0,q1,q2,q3,q4,q5⟩:=HCL.out
 have k0:=(Ja.cell (p:=⟨cg,co,none⟩) hlc).trans q0
 have k1:=(Ja.cell (p:=⟨cg,co+1,none⟩) hlc).trans q1
 have k2:=(Ja.cell (p:=⟨cg,co+2,none⟩) hlc).trans q2
 have k3:=(Ja.cell (p:=⟨cg,co+3,none⟩) hlc).trans q3
 have k4:=(Ja.cell (p:=⟨cg,co+4,none⟩) hlc).trans q4
 have k5:=(Ja.cell (p:=⟨cg,co+5,none⟩) hlc).trans q5
 have HC1:=jI Ja
 have HWC:=jI hWc
 have hlcc:cg<Wc.heap.size:=bZ hlc Ja.size
 have hlb1:=jS hrb1c
 have HS1:=jI (fun(W:World)(hW:Below Wc.heap.size Wc W)(g:Nat)(hg:W.heap[g]?=some (.cells #[.int .u16 3,.int .u16 5,.int .u16 6] 28 (0,0)))=>yP [3,5,6] [3,5,6] rA (some ⟨g,0,none⟩) rc 3 W (w.heap.size<·) (·=g) (HSR.out.keep (aA (Ja.trans (hW.mono Ja.size)))) (qO (·=g) (cs:=[.int .u16 3,.int .u16 5,.int .u16 6]) hg rfl rfl) rfl (by decide))
 have HS2:=jI (fun(W:World)(hW:Below Wc.heap.size Wc W)(g:Nat)(hg:W.heap[g]?=some (.cells #[.int .u16 7] 28 (0,0)))=>yP [7] [7] wA (some ⟨g,0,none⟩) wc 1 W (w.heap.size<·) (·=g) (HSW.out.keep (aA (Ja.trans (hW.mono Ja.size)))) (qO (·=g) (cs:=[.int .u16 7]) hg rfl rfl) rfl (by decide))
 clear hWc hbc hrc2 hrb1 hrb1c q0 q1 q2 q3 q4 q5 HR1 HRN7 HRF7 HLS7 HEX Ja
 go_upto_region 6 with fail
 rw[←HWC.out]
 go_upto_region 9 with fail
 obtain⟨Wd,hWd⟩:=kE (Wc.alloc (.cells #[.string nm,.int .i64 kd,.int .u16 mem,.slice rA 3 rc,.slice wA 1 wc,.slice fA 3 fc] 54))
 have hbd:Below Wc.heap.size Wc Wd:=by rw[hWd];exact hbA _ _
 have hrd:Wd.heap[Wc.heap.size]?=some (.cells #[.string nm,.int .i64 kd,.int .u16 mem,.slice rA 3 rc,.slice wA 1 wc,.slice fA 3 fc] 54 (0,0)):=by rw[hWd];exact jR _ _
 rw[←hWd]
 clear hWd
 obtain⟨x0,x1,x2,x3,x4,x5⟩:=dz hrd
 have z0':=(hbd.cell (p:=⟨b1,0,none⟩) hlb1).trans z0
 have hds:=hbd.size
 have h1s:=HC1.out.size
 have hb1d:=HC1.out.trans (hbd.mono h1s)
 have hltd:=jS hrd
 obtain⟨bc,hbce⟩:=kE Wc.heap.size
 rw[←hbce] at x0 x1 x2 x3 x4 x5 hltd ⊢
 clear hbce k0 k1 k2 k3 k4 k5 z0 z1 z2 z3 z4 z5 y0 y1
 go_wp2_with fail
 obtain⟨We,hWe⟩:=kE (Wd.alloc (.cells #[.int .u16 3,.int .u16 5,.int .u16 6] 28))
 have hbe:Below Wd.heap.size Wd We:=by rw[hWe];exact hbA _ _
 have hre:We.heap[Wd.heap.size]?=some (.cells #[.int .u16 3,.int .u16 5,.int .u16 6] 28 (0,0)):=by rw[hWe];exact jR _ _
 rw[←hWe]
 clear hWe
 refine (HS1.out We (hbd.trans (hbe.mono hds)) _ hre).mono ?_
 rintro e Wf ⟨rfl,hbf⟩
 have hes:=hbe.size
 have hbdf:Below Wd.heap.size Wd Wf:=hbe.trans (hbf.mono hes)
 have x4':=(hbdf.cell (p:=⟨bc,4,none⟩) hltd).trans x4
 have x5':=(hbdf.cell (p:=⟨bc,5,none⟩) hltd).trans x5
 clear x0 x1 x2 x3 x4 x5
 go_wp2_with fail
 obtain⟨Wg,hWg⟩:=kE (Wf.alloc (.cells #[.int .u16 7] 28))
 have hbg:Below Wf.heap.size Wf Wg:=by rw[hWg];exact hbA _ _
 have hrg:Wg.heap[Wf.heap.size]?=some (.cells #[.int .u16 7] 28 (0,0)):=by rw[hWg];exact jR _ _
 rw[←hWg]
 clear hWg
 have hfs:=hbdf.size
 refine (HS2.out Wg (hbd.trans ((hbdf.trans (hbg.mono hfs)).mono hds)) _ hrg).mono ?_
 rintro e Wh ⟨rfl,hbh⟩
 have hgs:=hbg.size
 have hbdh:Below Wd.heap.size Wd Wh:=(hbdf.trans (hbg.mono hfs)).trans (hbh.mono (by omega))
 have x5h:=((hbg.trans (hbh.mono hgs)).cell (p:=⟨bc,5,none⟩) (show bc<Wf.heap.size by omega)).trans x5'
 clear x4' x5'
 go_wp2
 go_ret
 exact⟨rfl,hb1.trans ((hb1d.trans (hbdh.mono (by omega))).mono hs1)⟩
theorem Bu(a b:Nat)(ha:a<65536)(hb:b<65536)(w:World):
  Calls prog 46 #[.int .u16 a,.int .u16 b] w fun e w'=>e=.returned (.bool (decide (b&&&a=b)))∧w'=w:=by
 go_enter func46,ntmps46
 go_wp2
 go_ret
 refine⟨?_,rfl⟩
 show Ending.returned (.bool (bits .andNot .u16 (b:Int) (a:Int)==0))=_
 rw[oP b a hb ha]
 congr 2
 rw[Bool.eq_iff_iff,decide_eq_true_iff,←mo b a hb ha]
 simp only[beq_iff_eq]
 omega
theorem acc_no{l:List Nat}{q:Nat→Bool}(h:∀j (hj:j<l.length),q l[j]=false):l.any q=false:=by
 rw[List.any_eq_false]
 intro x hx
 obtain⟨j,hj,rfl⟩:=List.getElem_of_mem hx
 rw[h j hj];decide
theorem uj(f:List Nat)(s:Nat)(hf:∀x∈f,x<65536)(hs:s<65536)(A:Option Addr)(c:Nat)(w:World)(S:Nat→Prop)(hl:ak w S 1 A f.length (dH f))(hS:∀g,S g→g<w.heap.size)(hlim:f.length≤100000000000):
  Calls prog 14 #[.slice A f.length c,.int .u16 s] w fun e w'=>e=.returned (.bool (accepts f s))∧w'=w:=by
 have HL:=jI hl
 obtain⟨r,hr⟩:=kE (accepts f s)
 rw[←hr]
 have HR:=jI hr
 obtain⟨N,hN⟩:=kE f.length
 have HN:=jI hN
 rw[←hN] at hlim ⊢
 clear hl hr hN
 go_enter func14,ntmps14
 go_wp2
 go_loopw [5] (fun x wr=>∃k:Nat,k≤N∧x=.int .i64 k∧Hid (∀j (hj:j<f.length),j<k→decide (f[j]&&&s=f[j])=false)∧wr=w) (fun x _=>N-(intOf x).toNat)
 case atStart=>exact⟨0,cu _,rfl,jI (fun j _ h=>absurd h (by omega)),rfl⟩
 case round=>
  obtain⟨k,hk,rfl,hA,rfl⟩:=hrel
  by_cases hlt:k<N
  ·have hlt2:k<f.length:=by rw[←HN.out];exact hlt
   obtain⟨g,o,rfl,hSg,hc⟩:=HL.out.cells (by omega)
   have c0:=hc k _ (qc f k hlt2)
   have hgs:=hS g hSg
   have hx:=hf f[k] (bQ hlt2)
   obtain⟨t,ht⟩:=kE (decide (f[k]&&&s=f[k]))
   have HC:=jI (Bu s f[k] hs hx wr)
   rw[←ht] at HC
   obtain⟨x,hx9⟩:=kE (f[k])
   have HT:=jI ht
   rw[←hx9] at c0 hx HC
   have hkI:(k:Int)<(N:Int):=by omega
   have hk0:(0:Int)≤(k:Int):=by omega
   clear hc ht hx9
   go_wp2_with fail
   refine HC.out.mono ?_
   rintro e w' ⟨rfl,rfl⟩
   cases t
   ·have HA:=jI (show ∀j (hj:j<f.length),j<k+1→decide (f[j]&&&s=f[j])=false from fun j hj h=>by
     by_cases h2:j<k
     ·exact hA.out j hj h2
     ·obtain rfl:j=k:=by omega
      exact HT.out.symm)
    clear hA
    go_wp2
    go_roundw
    case rel=>exact⟨k+1,by omega,by go_num,HA,trivial⟩
    case measure=>simp[intOf];omega
   ·have hr1:r=true:=by
     rw[HR.out]
     unfold accepts
     exact List.any_eq_true.2 ⟨f[k],bQ hlt2,HT.out.symm⟩
    have HR1:=jI hr1
    clear hr1
    go_wp2
    go_ret
    exact⟨by rw[HR1.out];rfl,rfl⟩
  ·obtain rfl:k=N:=by omega
   have hkI:¬(k:Int)<(k:Int):=by omega
   have HE:=jI (show r=false by rw[HR.out];exact acc_no (fun j hj=>hA.out j hj (by rw[HN.out];exact hj)))
   clear hA
   go_wp2
   go_ret
   exact⟨by rw[HE.out];rfl,rfl⟩
theorem tK(f:List Nat)(hf:∀x∈f,x<65536)(A:Option Addr)(c:Nat)(w:World)(S:Nat→Prop)(hl:ak w S 1 A f.length (dH f))(hS:∀g,S g→g<w.heap.size)(hlim:f.length≤100000000000):
  Calls prog 15 #[.slice A f.length c] w fun e w'=>e=.returned (.int .u16 (dY f:Nat))∧w'=w:=by
 have HL:=jI hl
 obtain⟨r,hr⟩:=kE (dY f)
 rw[←hr]
 have HR:=jI hr
 obtain⟨N,hN⟩:=kE f.length
 have HN:=jI hN
 rw[←hN] at hlim ⊢
 clear hl hr hN
 go_enter func15,ntmps15
 go_wp2
 go_loopw [3,4] (fun y x wr=>∃k:Nat,k≤N∧x=.int .i64 k∧y=.int .u16 (dY (f.take k):Nat)∧wr=w) (fun _ x _=>N-(intOf x).toNat)
 case atStart=>exact⟨0,cu _,rfl,rfl,rfl⟩
 case round=>
  obtain⟨k,hk,rfl,rfl,rfl⟩:=hrel
  obtain⟨q,hq⟩:=kE (dY (f.take k))
  have hqlt:q<65536:=by rw[hq];exact iY (k:=16) (fun x hx=>hf x (fF hx))
  rw[←hq]
  by_cases hlt:k<N
  ·have hlt2:k<f.length:=by rw[←HN.out];exact hlt
   obtain⟨g,o,rfl,hSg,hc⟩:=HL.out.cells (by omega)
   have c0:=hc k _ (qc f k hlt2)
   have hgs:=hS g hSg
   have hx:=hf f[k] (bQ hlt2)
   have hsn:=tH (f.take k) f[k]
   rw[←nI f k hlt2,←hq] at hsn
   obtain⟨x,hx9⟩:=kE (f[k])
   rw[←hx9] at c0 hx hsn
   have HS9:=jI hsn
   have hob:=u16_or_nat q x hqlt hx
   have hkI:(k:Int)<(N:Int):=by omega
   have hk0:(0:Int)≤(k:Int):=by omega
   clear hq hx9 hsn hlt2 hc
   go_wp2
   go_roundw
   case rel=>exact⟨k+1,by omega,by go_num,by rw[HS9.out],trivial⟩
   case measure=>simp[intOf];omega
  ·obtain rfl:k=N:=by omega
   have hkI:¬(k:Int)<(k:Int):=by omega
   have HE:=jI (show q=r by rw[hq,HR.out,HN.out,List.take_length])
   clear hq
   go_wp2
   go_ret
   exact⟨by rw[←HE.out];rfl,rfl⟩
end
section
theorem pick_all:∀m:Fin 13,∀k:Fin 13,Au m.1 k.1=if k.1≤m.1 then (List.range (2^m.1)).filter (fun n=>(mem n).length==k.1) else Au m.1 k.1:=by decide +kernel
theorem yZ{n m:Nat}(hm:m≤12)(hn:n<2^m):(mem n).length≤m:=by
 have h1:(mem n)=(List.range m).filter (fun i=>n.testBit i):=by
  unfold mem
  rw[show (16:Nat)=m+(16-m) by omega,List.range_add,List.filter_append]
  have h2:(((List.range (16-m)).map (m+·)).filter fun i=>n.testBit i)=[]:=by
   rw[List.filter_eq_nil_iff]
   intro i hi
   obtain⟨j,-,rfl⟩:=List.mem_map.1 hi
   rw[Nat.testBit_lt_two_pow (bZ hn (Nat.pow_le_pow_right (by decide) (gD m j)))]
   decide
  rw[h2,List.append_nil]
 rw[h1]
 exact cK (List.length_filter_le _ _) (by simp)
theorem pick_mem{n m:Nat}(hm:m≤12)(hn:n<2^m):n∈Au m (mem n).length:=by
 have hk:=yZ hm hn
 have h:=pick_all ⟨m,by omega⟩ ⟨(mem n).length,by omega⟩
 simp only at h
 rw[h,if_pos hk,List.mem_filter]
 exact⟨List.mem_range.2 hn,by simp⟩
theorem Hf{L:List Nat}{n m:Nat}(h:∀i,i<L.length→n.testBit i=m.testBit i):spread L n=spread L m:=by
 induction L using dU with
 |nil=>rfl
 |snoc L x ih=>
  rw[kK,kK,ih (fun i hi=>h i (by simp;omega)),h L.length (by simp)]
theorem Eu(t:Nat)(L:List Nat):∃n,n<2^L.length∧∀b,(spread L n).testBit b=decide (b∈L∧t.testBit b=true):=by
 induction L using dU with
 |nil=>exact⟨0,by decide,fun b=>by simp[spread]⟩
 |snoc L x ih=>
  obtain⟨n,hn,hb⟩:=ih
  have h2:2^(L++[x]).length=2^L.length+2^L.length:=by rw[bD,List.length_singleton,Nat.pow_succ];omega
  by_cases hx:t.testBit x=true
  ·refine⟨2^L.length+n,by omega,fun b=>?_⟩
   have h3:(2^L.length+n).testBit L.length=true:=by rw[Nat.testBit_two_pow_add_eq,Nat.testBit_lt_two_pow hn];rfl
   have h4:spread L (2^L.length+n)=spread L n:=Hf (fun i hi=>by rw[Nat.testBit_two_pow_add_gt hi])
   rw[kK,if_pos h3,h4,Nat.testBit_or,hb,Nat.testBit_two_pow]
   rw[Bool.eq_iff_iff]
   simp only[Bool.or_eq_true,decide_eq_true_eq,List.mem_append,List.mem_singleton]
   constructor
   ·rintro (⟨h5,h6⟩|h5)
    ·exact⟨Or.inl h5,h6⟩
    ·subst h5;exact⟨Or.inr rfl,hx⟩
   ·rintro⟨h5|h5,h6⟩
    ·exact Or.inl ⟨h5,h6⟩
    ·exact Or.inr h5.symm
  ·refine⟨n,by omega,fun b=>?_⟩
   have h3:¬n.testBit L.length=true:=by rw[Nat.testBit_lt_two_pow hn];decide
   rw[kK,if_neg h3,hb]
   rw[Bool.eq_iff_iff]
   simp only[decide_eq_true_eq,List.mem_append,List.mem_singleton]
   constructor
   ·rintro⟨h5,h6⟩;exact⟨Or.inl h5,h6⟩
   ·rintro⟨h5|h5,h6⟩
    ·exact⟨h5,h6⟩
    ·subst h5;exact absurd h6 hx
theorem mem_in{s b:Nat}:b∈mem s↔b<16∧s.testBit b=true:=by
 unfold mem
 rw[List.mem_filter,List.mem_range]
theorem Es{s t:Nat}(hs:s<4096)(ht:t&&&s=t):t∈ku s:=by
 obtain⟨n,hn,hb⟩:=Eu t (mem s)
 have hm:=mem_12 hs
 have hk:=yZ hm hn
 have he:spread (mem s) n=t:=by
  apply Nat.eq_of_testBit_eq
  intro b
  rw[hb b,Bool.eq_iff_iff,decide_eq_true_eq,mem_in]
  have h1:t.testBit b=(t.testBit b&&s.testBit b):=by rw[←Nat.testBit_and,ht]
  constructor
  ·exact fun h=>h.2
  ·intro h
   rw[h] at h1
   have h2:s.testBit b=true:=by simpa using h1.symm
   refine⟨⟨?_,h2⟩,h⟩
   rcases Nat.lt_or_ge b 16 with h3|h3
   ·exact h3
   ·rw[Nat.testBit_lt_two_pow (bZ hs (Nat.pow_le_pow_right (n:=2) (i:=12) (by decide) (by omega)))] at h2
    cases h2
 refine List.mem_flatMap.2 ⟨(mem n).length,List.mem_range.2 (by omega),?_⟩
 unfold fZ
 rw[if_neg (by omega)]
 exact List.mem_map.2 ⟨n,pick_mem hm hn,he⟩
theorem sum_mono{l:List Nat}{f g:Nat→Int}(h:∀k∈l,f k≤g k):(l.map f).sum≤(l.map g).sum:=by
 induction l with
 |nil=>simp
 |cons a r ih=>
  rw[List.map_cons,List.map_cons,List.sum_cons,List.sum_cons]
  have:=h a (by simp)
  have:=ih (fun k hk=>h k (by simp[hk]))
  omega
theorem IX{s t:Nat}(hst:∀b,s.testBit b=true→t.testBit b=true):∀l:List Nd,(∀n∈l,∀v∈n.ws,0≤v)→∀i,(holdsGo s l).getD i false=true→(holdsGo t l).getD i false=true:=by
 intro l
 induction l using dU with
 |nil=>intro _ i h;simp[holdsGo] at h
 |snoc l n ih=>
  intro hw i h
  have ih:=ih (fun m hm=>hw m (dO _ hm))
  rw[eD] at h ⊢
  by_cases hi:i<l.length
  ·rw[rH (by rw[di];exact hi)] at h ⊢
   exact ih i h
  ·have h1:i=l.length:=by
    rcases Nat.lt_or_ge l.length i with h2|h2
    ·rw[List.getD_eq_getElem?_getD,List.getElem?_eq_none (by rw[bD,di];simp;omega)] at h
     cases h
    ·omega
   subst h1
   have e1:∀q b,(holdsGo q l++[b]).getD l.length false=b:=fun q b=>by
    have:=oU (l:=holdsGo q l) (r:=[b]) (i:=0)
    rw[di,Nat.add_zero] at this
    rw[this];rfl
   rw[e1] at h ⊢
   unfold iT at h ⊢
   by_cases hk:n.kind=1
   ·rw[if_pos hk] at h ⊢;exact hst _ h
   ·rw[if_neg hk,decide_eq_true_eq] at h ⊢
    refine Int.le_trans h ?_
    unfold G9
    refine sum_mono fun k _=>?_
    have hwg:0≤wgt n k:=by
     unfold wgt
     split
     ·decide
     ·rw[List.getD_eq_getElem?_getD]
      cases e:n.ws[k]? with
      |none=>decide
      |some v=>exact hw n (by simp) v (List.mem_of_getElem? e)
    by_cases hb:(holdsGo s l).getD (n.kids.getD k 0).toNat false=true
    ·rw[if_pos hb,if_pos (ih _ hb)];exact Int.le_refl _
    ·rw[if_neg hb]
     split
     ·exact hwg
     ·exact Int.le_refl _
theorem IW{s m:Nat}:∀l:List Nd,(∀n∈l,n.kind=1→m.testBit n.server.toNat=true)→holdsGo (s&&&m) l=holdsGo s l:=by
 intro l
 induction l using dU with
 |nil=>intro _;rfl
 |snoc l n ih=>
  intro h
  rw[eD,eD,ih (fun k hk=>h k (dO _ hk))]
  congr 2
  unfold iT
  by_cases hk:n.kind=1
  ·rw[if_pos hk,if_pos hk,Nat.testBit_and,h n (by simp) hk,Bool.and_true]
  ·rw[if_neg hk,if_neg hk]
theorem srv_in(l:List Nd):∀n∈l,n.kind=1→(o8 l).testBit n.server.toNat=true:=by
 induction l using dU with
 |nil=>intro n hn;cases hn
 |snoc l a ih=>
  intro n hn hk
  rw[yI]
  rcases List.mem_append.1 hn with hn|hn
  ·have:=ih n hn hk
   split
   ·rw[Nat.testBit_or,this];rfl
   ·exact this
  ·obtain rfl:n=a:=by simpa using hn
   rw[if_pos hk,Nat.testBit_or,Nat.testBit_two_pow_self,Bool.or_true]
theorem fam_holds{x:Ex}{l:List Nat}:∀y∈jY x l,bW x y=true:=by
 induction l using dU with
 |nil=>intro y hy;cases hy
 |snoc l s ih=>
  intro y hy
  rw[oW] at hy
  unfold lQ at hy
  split at hy
  ·rename_i h
   rcases List.mem_append.1 hy with hy|hy
   ·exact ih y hy
   ·obtain rfl:y=s:=by simpa using hy
    exact (Bool.and_eq_true _ _▸h).1
  ·exact ih y hy
theorem fam_keep{x:Ex}{l:List Nat}{s:Nat}(r:List Nat)(h:accepts (jY x l) s=true):accepts (jY x (l++r)) s=true:=by
 induction r using dU with
 |nil=>rw[List.append_nil];exact h
 |snoc r y ih=>
  rw[←List.append_assoc,oW]
  unfold lQ
  split
  ·unfold accepts at ih ⊢
   rw[List.any_append,ih];rfl
  ·exact ih
theorem fam_all{x:Ex}{l:List Nat}{s:Nat}(hs:s∈l)(hx:bW x s=true):accepts (jY x l) s=true:=by
 obtain⟨a,b,rfl⟩:=List.append_of_mem hs
 rw[show a++s::b=(a++[s])++b by simp]
 refine fam_keep b ?_
 rw[oW]
 unfold lQ
 split
 ·unfold accepts
  simp only[List.any_append,List.any_cons,Nat.and_self,decide_true,Bool.true_or,Bool.or_true]
 ·rename_i h
  rw[hx,Bool.true_and,Bool.not_eq_true',Bool.not_eq_false] at h
  exact h
theorem Fz{x:Ex}(h:(pu x).2=0){s:Nat}:accepts (pu x).1 s=bW x s:=by
 unfold pu at h ⊢
 split at h
 ·rename_i h1;exact absurd h h1
 rename_i h1
 rw[if_neg h1]
 split at h
 ·cases h
 rename_i h2
 rw[if_neg h2]
 have hx:=Decidable.not_not.1 h1
 have hv:=GH hx
 have hwf:=exE_ok hx
 have hsv:=uK hv.server
 have hws:∀n∈x.nodes,∀v∈n.ws,0≤v:=fun n hn v hv2=>by
  obtain⟨i,hi,rfl⟩:=List.getElem_of_mem hn
  have:=((hwf.nd i hi).wt v hv2).1
  omega
 have e1:∀q,bW x q=(holdsGo q x.nodes).getD x.root.toNat false:=fun q=>jF hwf.root q
 rw[Bool.eq_iff_iff]
 constructor
 ·intro ha
  obtain⟨y,hy,hys⟩:=List.any_eq_true.1 ha
  have h3:=fam_holds y hy
  rw[e1] at h3 ⊢
  refine IX (fun b hb=>?_) x.nodes hws _ h3
  have h4:y&&&s=y:=by simpa using hys
  have:(y&&&s).testBit b=true:=by rw[h4];exact hb
  rw[Nat.testBit_and] at this
  simp_all
 ·intro hh
  have h3:bW x (s&&&o8 x.nodes)=true:=by rw[e1,IW _ (srv_in x.nodes),←e1];exact hh
  have h4:=fam_all (Es hsv (t:=s&&&o8 x.nodes) (by rw[Nat.and_assoc,Nat.and_self])) h3
  obtain⟨y,hy,hys⟩:=List.any_eq_true.1 h4
  have h5:y&&&(s&&&o8 x.nodes)=y:=by simpa using hys
  refine List.any_eq_true.2 ⟨y,hy,?_⟩
  rw[decide_eq_true_eq]
  apply Nat.eq_of_testBit_eq
  intro b
  have h6:(y&&&(s&&&o8 x.nodes)).testBit b=y.testBit b:=by rw[h5]
  rw[Nat.testBit_and,Nat.testBit_and] at h6
  rw[Nat.testBit_and]
  revert h6
  cases y.testBit b<;>cases s.testBit b<;>simp
end
end Go.Proofs.YtmohibkomlhlaaaGreatDoor
