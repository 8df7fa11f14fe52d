/- The contracts of expanded and of model at declarations without an error, as far as they are needed: the memo holds models. Condition: the table of math/bits lies in the world. The contract of model at declarations without an error, as far as it is needed: by induction on the declarations. Condition: the table of math/bits lies in the world. -/
import Derived.Test.YtmohibkomlhlaaaGreatDoorPfa
set_option maxRecDepth 100000
set_option maxHeartbeats 16000000
namespace Go.Proofs.YtmohibkomlhlaaaGreatDoor
section
open Go.RowKit
open _root_.Go.Proofs.Tryz
theorem gF(a b:List (Nat × Nat)):aL (a++b)=aL a++aL b:=by unfold aL;rw[List.flatMap_append]
theorem AR(W:World)(p q:Nat):ak (W.alloc (.cells #[.int .u16 (p:Nat),.int .u16 (q:Nat)] 148)) (W.heap.size≤·) 2 (some ⟨W.heap.size,0,none⟩) 1 (aL [(p,q)]):=
 ak.own (World.ownsRow_lit (base:=W.heap.size) (e:=148) (size:=2) W #[.int .u16 (p:Nat),.int .u16 (q:Nat)] 1 (aP _) (by decide) rfl)
theorem xG{s k:Nat}(hs:s<4096):∀x∈fZ s k,x<65536:=by
 intro x hx
 unfold fZ at hx
 split at hx
 ·cases hx
 ·obtain⟨n,-,rfl⟩:=List.mem_map.1 hx
  exact vI (fun y hy=>Gt hs hy) n
theorem thr_16{n b c:Nat}(hn:n≤12):yC (fq n b c).1∧(fq n b c).1.length≤100:=by
 have h12:2^n-1<4096:=by
  have:=Nat.pow_le_pow_right (n:=2) (by decide) hn
  omega
 unfold fq
 split
 ·exact⟨fun x hx=>by (cases hx),by decide⟩
 ·rename_i h
  refine⟨fun x hx=>?_,by simpa using h⟩
  obtain⟨y,hy,hx⟩:=List.mem_flatMap.1 hx
  obtain⟨z,hz,rfl⟩:=List.mem_map.1 hx
  refine⟨xG h12 y hy,xG ?_ z hz⟩
  have:uw (2^n-1) y≤2^n-1:=Nat.and_le_left
  omega
def MEnt(l:List Dc)(mb:Nat)(T:Nat→Prop)(W:World)(x:ByteArray)(v:Value):Prop:=
 ∃(F:List (Nat × Nat))(A:Option Addr)(c er:Nat),v=.agg #[.slice A F.length c,.int .i64 (er:Nat)]∧ak W (fun g=>mb<g∧¬T g) 2 A F.length (aL F)∧F.length≤100∧yC F∧MdP l x F er
theorem MEnt.keep{l:List Dc}{mb:Nat}{T T':Nat→Prop}{W W':World}{x:ByteArray}{v:Value}(h:MEnt l mb T W x v)(hk:∀g,mb<g→¬T g→g<W.heap.size→W'.heap[g]?=W.heap[g]?∧¬T' g):MEnt l mb T' W' x v:=by
 obtain⟨F,A,c,er,h1,h2,h3⟩:=h
 refine⟨F,A,c,er,h1,?_,h3⟩
 have h4:=h2.mono (S':=fun g=>(mb<g∧¬T g)∧g<W.heap.size) (fun g hg hl=>⟨hg,hl⟩) (by decide)
 have h5:=h4.keep (w':=W') (fun g hg hl=>(hk g hg.1.1 hg.1.2 hl).1)
 exact h5.mono (fun g hg _=>⟨hg.1.1,(hk g hg.1.1 hg.1.2 hg.2).2⟩) (by decide)
structure MSt(b sb mb c:Nat)(A:Option Addr)(l:List Dc)(S T:Nat→Prop)(W:World)(f:ByteArray→Option Value):Prop where
 wd:Wd W b sb mb A c l
 ls:aO (dS W S) W S 22 A l
 ns:∀g,S g→g<mb
 ne:b≠mb∧sb≠mb∧2<mb
 th:∀g,T g→g≠b∧g≠sb∧mb<g
 tz:Tz W
 mm:∃n,bH prog W 9 mb n f∧n≤known l f
 mem:∀x v,f x=some v→MEnt l mb T W x v
section
variable {b sb mb c:Nat} {A:Option Addr} {l:List Dc} {S T T':Nat→Prop} {W W':World} {f:ByteArray→Option Value}
theorem MSt.lt(h:MSt b sb mb c A l S T W f):mb<W.heap.size:=by obtain⟨n,h1,-⟩:=h.mm;exact h1.lt
theorem MSt.hS(h:MSt b sb mb c A l S T W f):∀g,S g→g<W.heap.size:=fun g hg=>Nat.lt_trans (h.ns g hg) h.lt
theorem MSt.but(h:MSt b sb mb c A l S T W f)(hb:But T W W'):MSt b sb mb c A l S T W' f:=by
 have hT:∀g,g≤mb→¬T g:=fun g hg k=>by have:=(h.th g k).2.2;omega
 have hlt:=h.lt
 have hk:Kept S W W':=fun g hS hl=>hb.block g (hT g (dF (h.ns g hS))) hl
 refine⟨⟨(hb.block b (fun k=>(h.th b k).1 rfl) h.wd.lt.1).trans h.wd.row,h.wd.map.at (hb.block sb (fun k=>(h.th sb k).2.1 rfl) h.wd.lt.2)⟩,h.ls.keep hk (fun _ _ k=>k.keep hk),h.ns,h.ne,h.th,⟨bZ h.tz.1 hb.size,fun i hi=>?_⟩,?_,fun x v hx=>(h.mem x v hx).keep (fun g _ hg hl=>⟨hb.block g hg hl,hg⟩)⟩
 ·rw[World.cell?_of_block (hb.block _ (hT _ (dF h.ne.2.2)) h.tz.1)]
  exact h.tz.2 i hi
 ·obtain⟨n,h1,h2⟩:=h.mm
  exact⟨n,h1.at (hb.block mb (hT mb (aP _)) hlt),h2⟩
theorem MSt.later(h:MSt b sb mb c A l S T W f)(hb:Below W.heap.size W W'):MSt b sb mb c A l S T W' f:=h.but (.of_below hb)
theorem MSt.mono(h:MSt b sb mb c A l S T W f)(hT:∀g,T' g→g<W.heap.size→T g)(hth:∀g,T' g→g≠b∧g≠sb∧mb<g):MSt b sb mb c A l S T' W f:=
 ⟨h.wd,h.ls,h.ns,h.ne,hth,h.tz,h.mm,fun x v hx=>(h.mem x v hx).keep (fun g _ hg hl=>⟨rfl,fun k=>hg (hT g k hl)⟩)⟩
theorem MSt.put(h:MSt b sb mb c A l S T W f)(hg:W.grownBy W' (some mb)){n:Nat}{f':ByteArray→Option Value}(hm:bH prog W' 9 mb n f')(hn:n≤known l f')(hmem:∀x v,f' x=some v→MEnt l mb T W x v):MSt b sb mb c A l S T W' f':=by
 have hk:Kept S W W':=fun g hS hl=>hg.block g hl (fun e=>by injection e;have:=h.ns g hS;omega)
 refine⟨⟨ay hg h.wd.row h.ne.1,h.wd.map.kept hg (fun e=>h.ne.2.1 (by injection e))⟩,h.ls.keep hk (fun _ _ k=>k.keep hk),h.ns,h.ne,h.th,⟨bZ h.tz.1 hg.size,fun i hi=>?_⟩,⟨n,hm,hn⟩,fun x v hx=>(hmem x v hx).keep (fun g hgm hg2 hl=>⟨hg.block g hl (fun e=>by injection e;omega),hg2⟩)⟩
 rw[World.cell?_of_block (hg.block _ h.tz.1 (fun e=>by have:=h.ne.2.2;injection e with e;exact absurd e (Nat.ne_of_lt this)))]
 exact h.tz.2 i hi
theorem MSt.grow{v v':Value}(h:MSt b sb mb c A l S (fun g=>T g∨v.ownBlock=some g) W f)(hg:W.grownBy W' v.ownBlock)(hv:v'.ownBlock=v.ownBlock∨v'.ownBlock=some W.heap.size):MSt b sb mb c A l S (fun g=>T g∨v'.ownBlock=some g) W' f:=by
 have hw:=h.wd.lt
 have hm:=h.lt
 have h1:MSt b sb mb c A l S (fun g=>(T g∨v.ownBlock=some g)∨g=W.heap.size) W f:=h.mono (fun g k hl=>k.elim id (fun e=>by omega)) (fun g k=>k.elim (h.th g) (fun e=>by omega))
 have h2:But (fun g=>(T g∨v.ownBlock=some g)∨g=W.heap.size) W W':=⟨hg.os,hg.tape,hg.output,hg.size,fun g hg2 hl=>hg.block g hl (fun e=>hg2 (Or.inl (Or.inr e.symm)))⟩
 refine (h1.but h2).mono (fun g k _=>?_) (fun g k=>?_)
 ·rcases k with k|k
  ·exact Or.inl (Or.inl k)
  ·rcases hv with e|e
   ·exact Or.inl (Or.inr (e.symm.trans k))
   ·exact Or.inr (by rw[e] at k;injection k with k;exact k.symm)
 ·rcases k with k|k
  ·exact h.th g (Or.inl k)
  ·rcases hv with e|e
   ·exact h.th g (Or.inr (e.symm.trans k))
   ·have:W.heap.size=g:=by rw[e] at k;injection k
    omega
end
def xU(b sb mb c:Nat)(A:Option Addr)(l:List Dc)(S T:Nat→Prop)(i:Nat)(x:ByteArray)(W:World)(f:ByteArray→Option Value)(e:Ending)(W':World):Prop:=
 ∃(F:List (Nat × Nat))(A':Option Addr)(c' er:Nat)(f':ByteArray→Option Value),e=.returned (.tuple #[.slice A' F.length c',.int .i64 (er:Nat)])∧ak W' (W.heap.size≤·) 2 A' F.length (aL F)∧F.length≤c'∧F.length≤100∧yC F∧MdP l x F er∧W.grownBy W' (some mb)∧MSt b sb mb c A l S T W' f'∧∀z,f' z=f z∨aQ (tab (l.take i)) z=3
def MdOk(b sb mb c:Nat)(A:Option Addr)(l:List Dc)(S:Nat→Prop)(i:Nat):Prop:=
 ∀(x:ByteArray),x.size≤maxLen→aQ (tab (l.take i)) x=3→∀(T:Nat→Prop)(W:World)(f:ByteArray→Option Value),MSt b sb mb c A l S T W f→(∀g,T g→g<W.heap.size)→Calls prog 41 #[.pointer (some ⟨b,0,none⟩),.string x] W (xU b sb mb c A l S T i x W f)
theorem expandedW{b sb mb c:Nat}{A:Option Addr}{l:List Dc}{S:Nat→Prop}(hc:(bf l).2=0)(hsz:(l.map aW).sum≤1100000)(i:Nat)(hi:i<l.length)(hk:l[i].kind=2)(HM:MdOk b sb mb c A l S i)(T:Nat→Prop)(w:World)(f:ByteArray→Option Value)(hst:MSt b sb mb c A l S T w f)(hT:∀g,T g→g<w.heap.size):
  Calls prog 77 #[.pointer (some ⟨b,0,none⟩),.string l[i].name] w (xU b sb mb c A l S T i l[i].name w f):=by
 have hbA:∀(W:World)(o:Obj),Below W.heap.size W (W.alloc o):=fun W o=>(jQ _ _).alloc (aP _) o
 have hlok:=wH hc hsz
 have hn12:=(fw hc).2
 have hfd0:=uS (fw hc).1 (bQ hi) (by rw[hk];decide)
 rw[hk] at hfd0
 have hgd:=ft_good hc hsz hi hk
 have hfl0:=dfl_len hsz (bQ hi)
 obtain⟨x,hx⟩:=kE (l[i].name)
 rw[←hx] at hfd0 ⊢
 obtain⟨d,hd⟩:=kE (l[i])
 rw[←hd] at hfd0 hgd hfl0
 clear hx hd hk
 have HFD:=jI (vF w S hst.wd hst.ls hst.hS hlok.len 2 x d hfd0)
 have HFN:=jI hfd0
 have HGD:=jI hgd
 obtain⟨n,hn⟩:=kE ((ai l).length)
 have HNN:=jI hn
 clear hn
 have zk:=hst.lt
 clear hfd0 hgd
 go_enter func77,ntmps77
 go_wp2_with fail
 refine HFD.out.mono ?_
 rintro e w3 ⟨v3,rfl,hp3,hb3⟩
 obtain⟨cs,fA,fc,hcl,hone,rfl,q4,hfl⟩:=dc_flts hp3
 obtain⟨N,hN⟩:=kE d.faults.length
 rw[←hN] at q4 hfl0
 have HN:=jI hN
 have hcs2:cs.toArray.size=22:=by simpa using hcl
 have nD:=jI hone
 have HCS:=jI hcs2
 have C4:=jI q4
 have HFL:=jI hfl
 have hbB:∀o,Below w3.heap.size w3 (w3.alloc o):=fun o=>(jQ _ _).alloc (aP _) o
 clear hp3 hcl hone hcs2 q4 hfl hN
 go_wp2_with (with_reducible refine bO _ rfl rfl (.tmp 6) (.tmp 17) rfl w3.heap.size cs.toArray rfl rfl _ (jR w3 _) rfl HCS.out nD.out ?_;intro W5 hr5 hg5;have p4:=aY hr5 C4.out;have hb5:Below w3.heap.size w3 W5:=(hbB _).trans (below_grown hg5 (aP _) (by simp));clear hr5 hg5)
 have tV:Below w.heap.size w W5:=hb3.trans (hb5.mono hb3.size)
 obtain⟨B,hB⟩:=kE W5.heap.size
 have hwB:w.heap.size≤B:=by rw[hB];exact tV.size
 have hmbB:mb<B:=by omega
 have hst5:=(hst.later tV).mono (T':=fun g=>T g∨(Value.slice none 0 0).ownBlock=some g) (fun g h _=>h.elim id (fun e=>by cases e)) (fun g h=>h.elim (hst.th g) (fun e=>by cases e))
 have HST5:=jI hst5
 have HB5:=jI tV
 have HB3:=jI hb3
 have HBB:=jI hB
 clear hst5 tV hb3 hb5 hbB hB
 go_loopw [8,22] (fun y x wr=>∃(k:Nat)(O:List (Nat × Nat))(fk:ByteArray→Option Value)(A5:Option Addr)(c5:Nat),k≤N∧x=.int .i64 k∧y=.slice A5 O.length c5∧O.length≤k * 100∧Hid (wr.ownsRow B 148 2 (.slice A5 O.length c5) O.length (aL O))∧Hid (w.grownBy wr (some mb))∧B≤wr.heap.size∧Hid (MSt b sb mb c A l S (fun g=>T g∨(Value.slice A5 O.length c5).ownBlock=some g) wr fk)∧Hid (yC O)∧Hid (∀z,fk z=f z∨aQ (tab (l.take i)) z=3)∧Hid (k=1→∀t,d.faults[0]?=some t→t.op=2→O=(fq n t.byz.toNat t.iw.toNat).1)) (fun _ x _=>N-(intOf x).toNat)
 case atStart=>exact⟨0,[],f,none,0,cu _,rfl,rfl,aP _,jI (World.ownsRow_nil _ _ _ _),jI (aM HB5.out),by rw[HBB.out];exact aP _,HST5,jI (fun x hx=>(by cases hx)),jI (fun z=>Or.inl rfl),jI (fun h=>absurd h (by decide))⟩
 case round=>
  obtain⟨k,O,fk,A5,c5,hkN,rfl,rfl,hOl,HOWN,HGR,hBr,HST,H16,HCH,HTH0⟩:=hrel
  by_cases hlt:k<N
  ·clear HTH0
   have hkI:(k:Int)<(N:Int):=by omega
   have hk0:(0:Int)≤(k:Int):=by omega
   have hkl:k<d.faults.length:=by rw[←HN.out];exact hlt
   have hkS:Kept S w3 wr:=fun g hg _=>(HGR.out.block g (hst.hS g hg) (fun e=>by injection e;have:=hst.ns g hg;omega)).trans (HB3.out.block g (hst.hS g hg)).symm
   obtain⟨g,o,v,hfA,hSg,hp,hcc⟩:=dB (fun x v h=>by obtain⟨_,_,_,_,rfl,-⟩:=h;rfl) (HFL.out.keep (P':=ng wr S) hkS (fun _ _ h=>h.keep hkS)) (i:=k) hkl
   subst hfA
   have hgood:=HGD.out _ (bQ hkl)
   have htk:d.faults[k]?=some d.faults[k]:=dD hkl
   obtain⟨tt,htt⟩:=kE (d.faults[k])
   rw[←htt] at hp hgood htk
   obtain⟨op,nm,bz,cr,bn,cn⟩:=tt
   have HTK:=jI htk
   obtain⟨bA,bc,cA,cc,rfl,sb1,-,sc1,-⟩:=hp
   have k0:=hcc 0 _ rfl
   have k1:=hcc 1 _ rfl
   have k2:=hcc 2 _ rfl
   have k3:=hcc 3 _ rfl
   have k4:=hcc 4 _ rfl
   have k5:=hcc 5 _ rfl
   have hgs:g<wr.heap.size:=HST.out.hS g hSg
   simp only[Nat.add_zero] at k0
   clear hcc htt htk hkl
   obtain⟨W6,hW6⟩:=kE (wr.alloc (.cells #[.int .i64 op,.string nm,.int .i64 bz,.int .i64 cr,.slice bA bn.length bc,.slice cA cn.length cc] 68))
   have hb6:Below wr.heap.size wr W6:=by rw[hW6];exact hbA _ _
   have hr6:W6.heap[wr.heap.size]?=some (.cells #[.int .i64 op,.string nm,.int .i64 bz,.int .i64 cr,.slice bA bn.length bc,.slice cA cn.length cc] 68 (0,0)):=by rw[hW6];exact jR _ _
   have H6:=jI hW6
   have HST6:=jI (HST.out.later hb6)
   go_upto_region 8 with fail
   rw[←H6.out]
   have z0:=ah hr6 0 _ rfl
   have z1:=ah hr6 1 _ rfl
   have HR6:=jI hr6
   have yo:=jS hr6
   have hop:op=1∨op=2∨op=3∨op=4∨op=5∨op=6:=by have:=hgood.op;simp only at this;omega
   clear hW6 hr6 k0 k1 k2 k3 k4 k5
   rcases hop with rfl|rfl|rfl|rfl|rfl|rfl
   ·have hY0:=jQ W6.heap.size W6
    obtain⟨Y0,hY00⟩:=kE W6
    rw[←hY00] at hY0
    have hY0:Below W6.heap.size W6 Y0:=by rw[hY00];exact jQ _ _
    go_upto_region 23 with fail
    rw[←hY00]
    clear hY00
    obtain⟨Y1,hY1⟩:=kE (Y0.alloc (.cells #[.int .u16 0,.int .u16 0] 148))
    have hbY1:Below W6.heap.size W6 Y1:=by rw[hY1];exact hY0.trans ((hbA Y0 _).mono hY0.size)
    have hbY:Below wr.heap.size wr Y1:=hb6.trans (hbY1.mono hb6.size)
    obtain⟨L,hL⟩:∃L:List (Nat × Nat),L=[(0,0)]:=⟨_,rfl⟩
    have hL1:L.length=1:=by rw[hL];rfl
    have HSL:=jI (show ak Y1 (Y0.heap.size≤·) 2 (some ⟨Y0.heap.size,0,none⟩) L.length (aL L) by rw[hL,hY1];exact AR Y0 0 0)
    have HG:=jI (aM (row:=some mb) hbY)
    have HY:=jI (HST.out.later hbY)
    have H16L:=jI (show yC L by rw[hL];intro y hy;obtain rfl:y=(0,0):=(by simpa using hy);exact⟨by omega,by omega⟩)
    have HY1:=jI hY1
    clear hY1 hL hbY1 hY0 hbY
    obtain⟨fy,hfy⟩:=kE fk
    rw[←hfy] at HY
    have JW:=jI (fun z=>show fy z=fk z∨aQ (tab (l.take i)) z=3 from Or.inl (by rw[hfy]))
    clear hfy
    have HTH:=jI (fun(h:(1:Int)=2)=>show L=(fq n bz.toNat cr.toNat).1 from absurd h (by decide))
    rw[←HY1.out]
    have nS:=gu HOWN.out HG.out hmbB
    have hszY:=HG.out.size
    have wT:O.length+L.length≤2000000000:=by omega
    go_wp2_with (refine mI Y1 rfl (.tmp 87) (.tmp 88) rfl B _ O.length (aL O) nS rfl _ (some ⟨Y0.heap.size,0,none⟩) 1 1 L rfl hL1.symm HSL.out wT (by omega) ?_;intro v8 X8 iq hg8 hv8)
    have Da:=HY.out.grow hg8 hv8
    obtain⟨A8,c8,rfl,-⟩:=aD iq
    have hb8:Below B Y1 X8:=aN nS hg8 (by omega)
    have hs8:=hb8.size
    have HGR8:=jI (aX (au HGR.out HG.out) hb8 hwB)
    have HST8:=jI Da
    have HO8:=jI (show X8.ownsRow B 148 2 (.slice A8 (O++L).length c8) (O++L).length (aL (O++L)) by rw[gF,bD];exact iq)
    clear Da iq hg8 hv8 hb8
    go_roundw
    case rel=>
     refine⟨k+1,O++L,fy,A8,c8,by omega,by go_num,by rw[bD],by rw[bD];omega,HO8,HGR8,by omega,?_,jI ?_,jI (fun z=>by
        rcases JW.out z with h|h
        ·rcases HCH.out z with h2|h2
         ·exact Or.inl (h.trans h2)
         ·exact Or.inr h2
        ·exact Or.inr h),jI ?_⟩
     ·rw[bD];exact HST8
     ·intro y hy
      rcases List.mem_append.1 hy with hy|hy
      ·exact H16.out y hy
      ·exact H16L.out y hy
     ·intro h1 t9 ht9 BJ
      obtain rfl:k=0:=by omega
      obtain rfl:O=[]:=List.length_eq_zero_iff.1 (by omega)
      rw[List.nil_append]
      rw[HTK.out] at ht9
      obtain rfl:=Option.some.inj ht9
      exact HTH.out BJ
    case measure=>simp[intOf];omega
   ·obtain⟨b0,rfl⟩:∃b0:Nat,bz=(b0:Int):=⟨bz.toNat,by have h:0≤bz:=(hgood.thr rfl).1;omega⟩
    obtain⟨c0,rfl⟩:∃c0:Nat,cr=(c0:Int):=⟨cr.toNat,by have h:0≤cr:=(hgood.thr rfl).2.1;omega⟩
    have hsum:b0+c0≤n:=by have h:(b0:Int)+(c0:Int)≤((ai l).length:Int):=(hgood.thr rfl).2.2;rw[HNN.out];omega
    have HT:=jI (fun(W:World)(hW:Tz W)=>thrF_any n b0 c0 (by rw[HNN.out];exact hn12) hsum W hW)
    have h16:=thr_16 (n:=n) (b:=b0) (c:=c0) (by rw[HNN.out];exact hn12)
    obtain⟨L,hL⟩:=kE ((fq n b0 c0).1)
    obtain⟨er,her⟩:=kE ((fq n b0 c0).2)
    rw[←hL] at h16
    rw[←hL,←her] at HT
    have HTE:=jI her
    have HTH:=jI (fun(_:(2:Int)=2)=>show L=(fq n (b0:Int).toNat (c0:Int).toNat).1 by rw[Int.toNat_natCast,Int.toNat_natCast];exact hL)
    obtain⟨h16a,hL100⟩:=h16
    have H16L:=jI h16a
    clear hL her h16a
    go_upto_region 12 with fail
    refine av.start (fun W'=>Below W6.heap.size W6 W') [] [0,1,2,3,4,5,6,7,8,10,11,12,13,14] (by kernel_rfl) (below_drewN (jQ _ _) 1) (fun hHeld=>?_)
    repeat
     refine av.take (v:=?_) rfl (by decide +kernel) (by rfl) (fun _ _ _ h=>h) hHeld ?_ ?_
     rotate_left
     focus
      intro w9 h9
      have hW9:=HST6.out.wd.below h9
      obtain⟨z0,z1,z2⟩:=hW9.cells
      have hr9:=(h9.block _ yo).trans HR6.out
      have z3:=ah hr9 2 _ rfl
      have z4:=ah hr9 3 _ rfl
      have hlen:=hW9.map.len underlying117 3
      rw[←HNN.out] at hlen
      go_simp
      (try with_reducible rfl)
      done
     simp only[Act.put,List.getElem_toArray,List.getElem_cons_succ,List.getElem_cons_zero,List.setIfInBounds_toArray,List.set_cons_zero,List.set_cons_succ]
    repeat'
     first
     |refine av.pure (v:=?_) rfl (by decide +kernel) (by rfl) (fun _ _ _ h=>h) (fun _=>hHeld) ?_ ?_
      rotate_left
      focus
       intro w9
       go_simp
       (try with_reducible rfl)
       done
      simp only[Act.put,List.getElem_toArray,List.getElem_cons_succ,List.getElem_cons_zero,List.setIfInBounds_toArray,List.set_cons_zero,List.set_cons_succ]
     |refine av.one 9 rfl (by decide +kernel) (by rfl) (fun K hK=>?_)
     |go_simp
      go_at_call 103
      refine (HT.out _ (HST6.out.tz.below hHeld (aP _))).mono ?_
      rintro e Y1 ⟨A7,c7,rfl,hsf,hc7,hb7⟩
      have HSL:=jI hsf
      clear hsf
      have hHeld:=hHeld.trans (hb7.mono hHeld.size)
      try go_simp
      refine hK.out _ _ (fun _=>hHeld) ?_
      clear hK K
    refine av.done (by decide +kernel) ?_
    have hbY:Below wr.heap.size wr Y1:=hb6.trans (hHeld.mono hb6.size)
    have HG:=jI (aM (row:=some mb) hbY)
    have HY:=jI (HST.out.later hbY)
    clear hHeld hbY
    obtain⟨fy,hfy⟩:=kE fk
    rw[←hfy] at HY
    have JW:=jI (fun z=>show fy z=fk z∨aQ (tab (l.take i)) z=3 from Or.inl (by rw[hfy]))
    clear hfy
    (try simp only[Exit.then])
    by_cases he0:er=0
    ·subst he0
     have nS:=gu HOWN.out HG.out hmbB
     have hszY:=HG.out.size
     have wT:O.length+L.length≤2000000000:=by omega
     go_wp2_with (refine mI Y1 rfl (.tmp 87) (.tmp 88) rfl B _ O.length (aL O) nS rfl _ A7 L.length c7 L rfl rfl HSL.out wT (by omega) ?_;intro v8 X8 iq hg8 hv8)
     have Da:=HY.out.grow hg8 hv8
     obtain⟨A8,c8,rfl,-⟩:=aD iq
     have hb8:Below B Y1 X8:=aN nS hg8 (by omega)
     have hs8:=hb8.size
     have HGR8:=jI (aX (au HGR.out HG.out) hb8 hwB)
     have HST8:=jI Da
     have HO8:=jI (show X8.ownsRow B 148 2 (.slice A8 (O++L).length c8) (O++L).length (aL (O++L)) by rw[gF,bD];exact iq)
     clear Da iq hg8 hv8 hb8
     go_roundw
     case rel=>
      refine⟨k+1,O++L,fy,A8,c8,by omega,by go_num,by rw[bD],by rw[bD];omega,HO8,HGR8,by omega,?_,jI ?_,jI (fun z=>by
         rcases JW.out z with h|h
         ·rcases HCH.out z with h2|h2
          ·exact Or.inl (h.trans h2)
          ·exact Or.inr h2
         ·exact Or.inr h),jI ?_⟩
      ·rw[bD];exact HST8
      ·intro y hy
       rcases List.mem_append.1 hy with hy|hy
       ·exact H16.out y hy
       ·exact H16L.out y hy
      ·intro h1 t9 ht9 BJ
       obtain rfl:k=0:=by omega
       obtain rfl:O=[]:=List.length_eq_zero_iff.1 (by omega)
       rw[List.nil_append]
       rw[HTK.out] at ht9
       obtain rfl:=Option.some.inj ht9
       exact HTH.out BJ
     case measure=>simp[intOf];omega
    ·have heI:((er:Int) != 0)=true:=by simpa using he0
     have I7:¬(er:Int)=0:=by omega
     have hend:=HY.out.mono (T':=T) (fun g h _=>Or.inl h) hst.th
     go_wp2
     go_ret2
     exact⟨[],none,0,er,fy,rfl,ak.empty _ _ _ _,aP _,by decide,fun x hx=>(by cases hx),⟨fun h=>absurd h he0,fun⟨d9,f9,hd9,hf9,BJ,hg1,_,_⟩=>by
       rw[HFN.out] at hd9
       obtain rfl:=Option.some.inj hd9
       have h1:k=0:=by have h2:=HN.out;rw[hf9,List.length_singleton] at h2;omega
       have h2:=HTK.out
       rw[hf9,h1] at h2
       obtain rfl:=Option.some.inj h2
       have hg2:(fq (ai l).length (b0:Int).toNat (c0:Int).toNat).2=0:=hg1
       rw[Int.toNat_natCast,Int.toNat_natCast] at hg2
       rw[HTE.out,HNN.out]
       exact hg2⟩,au HGR.out HG.out,hend,fun z=>by
       rcases JW.out z with h|h
       ·rcases HCH.out z with h2|h2
        ·exact Or.inl (h.trans h2)
        ·exact Or.inr h2
       ·exact Or.inr h⟩
   ·have hn3:=hgood.len
    obtain⟨s1,hs1⟩:=kE (iA (ai l) bn)
    obtain⟨s2,hs2⟩:=kE (iA (ai l) cn)
    have hs16:s1<65536∧s2<65536:=by
     have h1:=lq hn12 bn
     have h2:=lq hn12 cn
     rw[hs1,hs2];omega
    have HB1:=jI (fun(W:World)(hW:Below W6.heap.size W6 W)=>qD W (HST6.out.wd.below hW) bn bA bc S ((sb1.keep (aA hb6)).keep (aA hW)) hn12 hn3.2.2.2.1 hn3.1)
    have HB2:=jI (fun(W:World)(hW:Below W6.heap.size W6 W)=>qD W (HST6.out.wd.below hW) cn cA cc S ((sc1.keep (aA hb6)).keep (aA hW)) hn12 hn3.2.2.2.2 hn3.2.1)
    simp only[←hs1] at HB1
    simp only[←hs2] at HB2
    clear hs1 hs2 hn3
    go_upto_region 14 with fail
    refine av.start (fun W'=>Below W6.heap.size W6 W') [] [0,1,2,4,5,6,8,10] (by kernel_rfl) (below_drewN (jQ _ _) 1) (fun hHeld=>?_)
    repeat
     refine av.take (v:=?_) rfl (by decide +kernel) (by rfl) (fun _ _ _ h=>h) hHeld ?_ ?_
     rotate_left
     focus
      intro w9 h9
      have hr9:=(h9.block _ yo).trans HR6.out
      have z4:=ah hr9 4 _ rfl
      have z5:=ah hr9 5 _ rfl
      go_simp
      (try with_reducible rfl)
      done
     simp only[Act.put,List.getElem_toArray,List.getElem_cons_succ,List.getElem_cons_zero,List.setIfInBounds_toArray,List.set_cons_zero,List.set_cons_succ]
    repeat'
     first
     |refine av.pure (v:=?_) rfl (by decide +kernel) (by rfl) (fun _ _ _ h=>h) (fun _=>hHeld) ?_ ?_
      rotate_left
      focus
       intro w9
       go_simp
       (try with_reducible rfl)
       done
      simp only[Act.put,List.getElem_toArray,List.getElem_cons_succ,List.getElem_cons_zero,List.setIfInBounds_toArray,List.set_cons_zero,List.set_cons_succ]
     |refine av.one 3 rfl (by decide +kernel) (by rfl) (fun K hK=>?_)
     |refine av.one 7 rfl (by decide +kernel) (by rfl) (fun K hK=>?_)
     |refine av.one 9 rfl (by decide +kernel) (by rfl) (fun K hK=>?_)
     |go_simp
      first
      |go_at_call 39
       first
       |(with_reducible refine (HB1.out _ hHeld).mono ?_);rintro e Y0 ⟨rfl,hY⟩
       |(with_reducible refine (HB2.out _ hHeld).mono ?_);rintro e Y0 ⟨rfl,hY⟩
       have hHeld:Below W6.heap.size W6 Y0:=(by rw[←hY];exact hHeld)
       clear hY
       try go_simp
       refine hK.out _ _ (fun _=>hHeld) ?_
       clear hK K
      |refine hK.out _ (World.alloc _ _) (fun _=>hHeld.alloc hHeld.size _) ?_
       have hY0:=hHeld
       have hHeld:=hHeld.alloc hHeld.size (.cells #[.int .u16 (s1:Nat),.int .u16 (s2:Nat)] 148)
       clear hK K
      |refine hK.out _ _ (fun _=>hHeld) ?_
       clear hK K
    refine av.done (by decide +kernel) ?_
    obtain⟨Y1,hY1⟩:=kE (Y0.alloc (.cells #[.int .u16 (s1:Nat),.int .u16 (s2:Nat)] 148))
    have hbY1:Below W6.heap.size W6 Y1:=by rw[hY1];exact hY0.trans ((hbA Y0 _).mono hY0.size)
    have hbY:Below wr.heap.size wr Y1:=hb6.trans (hbY1.mono hb6.size)
    obtain⟨L,hL⟩:∃L:List (Nat × Nat),L=[(s1,s2)]:=⟨_,rfl⟩
    have hL1:L.length=1:=by rw[hL];rfl
    have HSL:=jI (show ak Y1 (Y0.heap.size≤·) 2 (some ⟨Y0.heap.size,0,none⟩) L.length (aL L) by rw[hL,hY1];exact AR Y0 s1 s2)
    have HG:=jI (aM (row:=some mb) hbY)
    have HY:=jI (HST.out.later hbY)
    have H16L:=jI (show yC L by rw[hL];intro y hy;obtain rfl:y=(s1,s2):=(by simpa using hy);exact⟨by omega,by omega⟩)
    have HY1:=jI hY1
    clear hY1 hL hbY1 hY0 hbY
    obtain⟨fy,hfy⟩:=kE fk
    rw[←hfy] at HY
    have JW:=jI (fun z=>show fy z=fk z∨aQ (tab (l.take i)) z=3 from Or.inl (by rw[hfy]))
    clear hfy
    have HTH:=jI (fun(h:(3:Int)=2)=>show L=(fq n bz.toNat cr.toNat).1 from absurd h (by decide))
    rw[←HY1.out]
    (try simp only[Exit.then])
    have nS:=gu HOWN.out HG.out hmbB
    have hszY:=HG.out.size
    have wT:O.length+L.length≤2000000000:=by omega
    go_wp2_with (refine mI Y1 rfl (.tmp 87) (.tmp 88) rfl B _ O.length (aL O) nS rfl _ (some ⟨Y0.heap.size,0,none⟩) 1 1 L rfl hL1.symm HSL.out wT (by omega) ?_;intro v8 X8 iq hg8 hv8)
    have Da:=HY.out.grow hg8 hv8
    obtain⟨A8,c8,rfl,-⟩:=aD iq
    have hb8:Below B Y1 X8:=aN nS hg8 (by omega)
    have hs8:=hb8.size
    have HGR8:=jI (aX (au HGR.out HG.out) hb8 hwB)
    have HST8:=jI Da
    have HO8:=jI (show X8.ownsRow B 148 2 (.slice A8 (O++L).length c8) (O++L).length (aL (O++L)) by rw[gF,bD];exact iq)
    clear Da iq hg8 hv8 hb8
    go_roundw
    case rel=>
     refine⟨k+1,O++L,fy,A8,c8,by omega,by go_num,by rw[bD],by rw[bD];omega,HO8,HGR8,by omega,?_,jI ?_,jI (fun z=>by
        rcases JW.out z with h|h
        ·rcases HCH.out z with h2|h2
         ·exact Or.inl (h.trans h2)
         ·exact Or.inr h2
        ·exact Or.inr h),jI ?_⟩
     ·rw[bD];exact HST8
     ·intro y hy
      rcases List.mem_append.1 hy with hy|hy
      ·exact H16.out y hy
      ·exact H16L.out y hy
     ·intro h1 t9 ht9 BJ
      obtain rfl:k=0:=by omega
      obtain rfl:O=[]:=List.length_eq_zero_iff.1 (by omega)
      rw[List.nil_append]
      rw[HTK.out] at ht9
      obtain rfl:=Option.some.inj ht9
      exact HTH.out BJ
    case measure=>simp[intOf];omega
   ·obtain⟨gr,hgr⟩:=kE (gH l nm)
    have hgr16:gr<65536:=by rw[hgr];have:=sS hn12 nm;omega
    have HGP:=jI (sw W6 S HST6.out.wd HST6.out.ls HST6.out.hS hlok.len hn12 nm (fun _=>hgood.site (by first|exact Or.inl rfl|exact Or.inr rfl)) hlok.names)
    rw[←hgr] at HGP
    clear hgr
    go_wp2_with fail
    refine HGP.out.mono ?_
    rintro e Y0 ⟨rfl,hY0⟩
    obtain⟨Y1,hY1⟩:=kE (Y0.alloc (.cells #[.int .u16 (gr:Nat),.int .u16 0] 148))
    have hbY1:Below W6.heap.size W6 Y1:=by rw[hY1];exact hY0.trans ((hbA Y0 _).mono hY0.size)
    have hbY:Below wr.heap.size wr Y1:=hb6.trans (hbY1.mono hb6.size)
    obtain⟨L,hL⟩:∃L:List (Nat × Nat),L=[(gr,0)]:=⟨_,rfl⟩
    have hL1:L.length=1:=by rw[hL];rfl
    have HSL:=jI (show ak Y1 (Y0.heap.size≤·) 2 (some ⟨Y0.heap.size,0,none⟩) L.length (aL L) by rw[hL,hY1];exact AR Y0 gr 0)
    have HG:=jI (aM (row:=some mb) hbY)
    have HY:=jI (HST.out.later hbY)
    have H16L:=jI (show yC L by rw[hL];intro y hy;obtain rfl:y=(gr,0):=(by simpa using hy);exact⟨by omega,by omega⟩)
    have HY1:=jI hY1
    clear hY1 hL hbY1 hY0 hbY
    obtain⟨fy,hfy⟩:=kE fk
    rw[←hfy] at HY
    have JW:=jI (fun z=>show fy z=fk z∨aQ (tab (l.take i)) z=3 from Or.inl (by rw[hfy]))
    clear hfy
    have HTH:=jI (fun(h:(4:Int)=2)=>show L=(fq n bz.toNat cr.toNat).1 from absurd h (by decide))
    go_upto_region 23 with fail
    rw[←HY1.out]
    have nS:=gu HOWN.out HG.out hmbB
    have hszY:=HG.out.size
    have wT:O.length+L.length≤2000000000:=by omega
    go_wp2_with (refine mI Y1 rfl (.tmp 87) (.tmp 88) rfl B _ O.length (aL O) nS rfl _ (some ⟨Y0.heap.size,0,none⟩) 1 1 L rfl hL1.symm HSL.out wT (by omega) ?_;intro v8 X8 iq hg8 hv8)
    have Da:=HY.out.grow hg8 hv8
    obtain⟨A8,c8,rfl,-⟩:=aD iq
    have hb8:Below B Y1 X8:=aN nS hg8 (by omega)
    have hs8:=hb8.size
    have HGR8:=jI (aX (au HGR.out HG.out) hb8 hwB)
    have HST8:=jI Da
    have HO8:=jI (show X8.ownsRow B 148 2 (.slice A8 (O++L).length c8) (O++L).length (aL (O++L)) by rw[gF,bD];exact iq)
    clear Da iq hg8 hv8 hb8
    go_roundw
    case rel=>
     refine⟨k+1,O++L,fy,A8,c8,by omega,by go_num,by rw[bD],by rw[bD];omega,HO8,HGR8,by omega,?_,jI ?_,jI (fun z=>by
        rcases JW.out z with h|h
        ·rcases HCH.out z with h2|h2
         ·exact Or.inl (h.trans h2)
         ·exact Or.inr h2
        ·exact Or.inr h),jI ?_⟩
     ·rw[bD];exact HST8
     ·intro y hy
      rcases List.mem_append.1 hy with hy|hy
      ·exact H16.out y hy
      ·exact H16L.out y hy
     ·intro h1 t9 ht9 BJ
      obtain rfl:k=0:=by omega
      obtain rfl:O=[]:=List.length_eq_zero_iff.1 (by omega)
      rw[List.nil_append]
      rw[HTK.out] at ht9
      obtain rfl:=Option.some.inj ht9
      exact HTH.out BJ
    case measure=>simp[intOf];omega
   ·obtain⟨gr,hgr⟩:=kE (gH l nm)
    have hgr16:gr<65536:=by rw[hgr];have:=sS hn12 nm;omega
    have HGP:=jI (sw W6 S HST6.out.wd HST6.out.ls HST6.out.hS hlok.len hn12 nm (fun _=>hgood.site (by first|exact Or.inl rfl|exact Or.inr rfl)) hlok.names)
    rw[←hgr] at HGP
    clear hgr
    go_wp2_with fail
    refine HGP.out.mono ?_
    rintro e Y0 ⟨rfl,hY0⟩
    obtain⟨Y1,hY1⟩:=kE (Y0.alloc (.cells #[.int .u16 0,.int .u16 (gr:Nat)] 148))
    have hbY1:Below W6.heap.size W6 Y1:=by rw[hY1];exact hY0.trans ((hbA Y0 _).mono hY0.size)
    have hbY:Below wr.heap.size wr Y1:=hb6.trans (hbY1.mono hb6.size)
    obtain⟨L,hL⟩:∃L:List (Nat × Nat),L=[(0,gr)]:=⟨_,rfl⟩
    have hL1:L.length=1:=by rw[hL];rfl
    have HSL:=jI (show ak Y1 (Y0.heap.size≤·) 2 (some ⟨Y0.heap.size,0,none⟩) L.length (aL L) by rw[hL,hY1];exact AR Y0 0 gr)
    have HG:=jI (aM (row:=some mb) hbY)
    have HY:=jI (HST.out.later hbY)
    have H16L:=jI (show yC L by rw[hL];intro y hy;obtain rfl:y=(0,gr):=(by simpa using hy);exact⟨by omega,by omega⟩)
    have HY1:=jI hY1
    clear hY1 hL hbY1 hY0 hbY
    obtain⟨fy,hfy⟩:=kE fk
    rw[←hfy] at HY
    have JW:=jI (fun z=>show fy z=fk z∨aQ (tab (l.take i)) z=3 from Or.inl (by rw[hfy]))
    clear hfy
    have HTH:=jI (fun(h:(5:Int)=2)=>show L=(fq n bz.toNat cr.toNat).1 from absurd h (by decide))
    go_upto_region 23 with fail
    rw[←HY1.out]
    have nS:=gu HOWN.out HG.out hmbB
    have hszY:=HG.out.size
    have wT:O.length+L.length≤2000000000:=by omega
    go_wp2_with (refine mI Y1 rfl (.tmp 87) (.tmp 88) rfl B _ O.length (aL O) nS rfl _ (some ⟨Y0.heap.size,0,none⟩) 1 1 L rfl hL1.symm HSL.out wT (by omega) ?_;intro v8 X8 iq hg8 hv8)
    have Da:=HY.out.grow hg8 hv8
    obtain⟨A8,c8,rfl,-⟩:=aD iq
    have hb8:Below B Y1 X8:=aN nS hg8 (by omega)
    have hs8:=hb8.size
    have HGR8:=jI (aX (au HGR.out HG.out) hb8 hwB)
    have HST8:=jI Da
    have HO8:=jI (show X8.ownsRow B 148 2 (.slice A8 (O++L).length c8) (O++L).length (aL (O++L)) by rw[gF,bD];exact iq)
    clear Da iq hg8 hv8 hb8
    go_roundw
    case rel=>
     refine⟨k+1,O++L,fy,A8,c8,by omega,by go_num,by rw[bD],by rw[bD];omega,HO8,HGR8,by omega,?_,jI ?_,jI (fun z=>by
        rcases JW.out z with h|h
        ·rcases HCH.out z with h2|h2
         ·exact Or.inl (h.trans h2)
         ·exact Or.inr h2
        ·exact Or.inr h),jI ?_⟩
     ·rw[bD];exact HST8
     ·intro y hy
      rcases List.mem_append.1 hy with hy|hy
      ·exact H16.out y hy
      ·exact H16L.out y hy
     ·intro h1 t9 ht9 BJ
      obtain rfl:k=0:=by omega
      obtain rfl:O=[]:=List.length_eq_zero_iff.1 (by omega)
      rw[List.nil_append]
      rw[HTK.out] at ht9
      obtain rfl:=Option.some.inj ht9
      exact HTH.out BJ
    case measure=>simp[intOf];omega
   ·have HMD:=jI (HM nm hgood.len.2.2.1 (hgood.nm rfl) (fun g=>T g∨(Value.slice A5 O.length c5).ownBlock=some g) W6 fk HST6.out (fun g h=>by
     have hwB2:=hwB
     rcases h with h|h
     ·have:=hT g h;omega
     ·have:=(HOWN.out.lt g h).2;have:=hb6.size;omega))
    go_wp2_with fail
    refine HMD.out.mono ?_
    rintro e Y1 ⟨L,A7,c7,er,fy,rfl,hsl,hc7,hL100,h16L,-,hg7,hst7,hch7⟩
    have HSL:=jI hsl
    have H16L:=jI h16L
    have HY:=jI hst7
    have HG:=jI (au (aM (row:=some mb) hb6) hg7)
    have JW:=jI hch7
    have HTH:=jI (fun(h:(6:Int)=2)=>show L=(fq n bz.toNat cr.toNat).1 from absurd h (by decide))
    clear hsl h16L hst7 hg7 hch7
    by_cases he0:er=0
    ·subst he0
     have nS:=gu HOWN.out HG.out hmbB
     have hszY:=HG.out.size
     have wT:O.length+L.length≤2000000000:=by omega
     go_wp2_with (refine mI Y1 rfl (.tmp 87) (.tmp 88) rfl B _ O.length (aL O) nS rfl _ A7 L.length c7 L rfl rfl HSL.out wT (by omega) ?_;intro v8 X8 iq hg8 hv8)
     have Da:=HY.out.grow hg8 hv8
     obtain⟨A8,c8,rfl,-⟩:=aD iq
     have hb8:Below B Y1 X8:=aN nS hg8 (by omega)
     have hs8:=hb8.size
     have HGR8:=jI (aX (au HGR.out HG.out) hb8 hwB)
     have HST8:=jI Da
     have HO8:=jI (show X8.ownsRow B 148 2 (.slice A8 (O++L).length c8) (O++L).length (aL (O++L)) by rw[gF,bD];exact iq)
     clear Da iq hg8 hv8 hb8
     go_roundw
     case rel=>
      refine⟨k+1,O++L,fy,A8,c8,by omega,by go_num,by rw[bD],by rw[bD];omega,HO8,HGR8,by omega,?_,jI ?_,jI (fun z=>by
         rcases JW.out z with h|h
         ·rcases HCH.out z with h2|h2
          ·exact Or.inl (h.trans h2)
          ·exact Or.inr h2
         ·exact Or.inr h),jI ?_⟩
      ·rw[bD];exact HST8
      ·intro y hy
       rcases List.mem_append.1 hy with hy|hy
       ·exact H16.out y hy
       ·exact H16L.out y hy
      ·intro h1 t9 ht9 BJ
       obtain rfl:k=0:=by omega
       obtain rfl:O=[]:=List.length_eq_zero_iff.1 (by omega)
       rw[List.nil_append]
       rw[HTK.out] at ht9
       obtain rfl:=Option.some.inj ht9
       exact HTH.out BJ
     case measure=>simp[intOf];omega
    ·have heI:((er:Int) != 0)=true:=by simpa using he0
     have I7:¬(er:Int)=0:=by omega
     have hend:=HY.out.mono (T':=T) (fun g h _=>Or.inl h) hst.th
     go_wp2
     go_ret2
     exact⟨[],none,0,er,fy,rfl,ak.empty _ _ _ _,aP _,by decide,fun x hx=>(by cases hx),⟨fun h=>absurd h he0,fun⟨d9,f9,hd9,hf9,BJ,hg1,_,_⟩=>by
       rw[HFN.out] at hd9
       obtain rfl:=Option.some.inj hd9
       have h1:k=0:=by have h2:=HN.out;rw[hf9,List.length_singleton] at h2;omega
       have h2:=HTK.out
       rw[hf9,h1] at h2
       obtain rfl:=Option.some.inj h2
       exact absurd BJ (show ¬(6:Int)=2 by decide)⟩,au HGR.out HG.out,hend,fun z=>by
       rcases JW.out z with h|h
       ·rcases HCH.out z with h2|h2
        ·exact Or.inl (h.trans h2)
        ·exact Or.inr h2
       ·exact Or.inr h⟩
  ·obtain rfl:k=N:=by omega
   have hkI:¬(k:Int)<(k:Int):=by omega
   have HC:=jI (Il O A5 c5 wr (·<wr.heap.size) ((ak.own HOWN.out).mono (fun g _ hl=>hl) (by decide)) (fun g hg=>hg) (by omega) H16.out)
   go_wp2_with fail
   refine HC.out.mono ?_
   rintro e w6 ⟨F,A6,c6,er,rfl,hs6,hc6,xW,h16,hq,hb6⟩
   have HQ:=jI hq
   have HS6:=jI hs6
   have HF16:=jI h16
   have hend:=((HST.out.later hb6).mono (T':=T) (fun g h _=>Or.inl h) hst.th)
   have HEND:=jI hend
   clear hq hs6 h16 hend
   go_wp2
   go_ret2
   refine⟨F,A6,c6,er,fk,rfl,HS6.out.mono (fun g hg _=>by omega) (by decide),hc6,xW,HF16.out,⟨fun h0 d9 f9 hd9 hf9 BJ=>?_,fun⟨d9,f9,hd9,hf9,BJ,hg1,hg2,hg3⟩=>?_⟩,au HGR.out (aM hb6),HEND.out,HCH.out⟩
   ·rw[HFN.out] at hd9
    obtain rfl:=Option.some.inj hd9
    have h1:k=1:=by rw[HN.out,hf9];rfl
    rw[←HNN.out,←HTH0.out h1 f9 (by rw[hf9];rfl) BJ]
    exact HQ.out.1 h0
   ·rw[HFN.out] at hd9
    obtain rfl:=Option.some.inj hd9
    have h1:k=1:=by rw[HN.out,hf9];rfl
    have hO:=HTH0.out h1 f9 (by rw[hf9];rfl) BJ
    rw[←HNN.out,←hO] at hg2 hg3
    exact HQ.out.2 ⟨hg2,by rw[hO];exact (thr_16 (by rw[HNN.out];exact hn12)).2,hg3⟩
end
section
open Go.RowKit
open _root_.Go.Proofs.Tryz
theorem xU.more{b sb mb c:Nat}{A:Option Addr}{l:List Dc}{S T:Nat→Prop}{i:Nat}{x:ByteArray}{W:World}{f:ByteArray→Option Value}{e:Ending}{W':World}(hi:i<l.length)(h:xU b sb mb c A l S T i x W f e W'):xU b sb mb c A l S T (i+1) x W f e W':=by
 obtain⟨F,A',c',er,f',h1,h2,h3,h4,h5,h6,h7,h8,h9⟩:=h
 exact⟨F,A',c',er,f',h1,h2,h3,h4,h5,h6,h7,h8,fun z=>(h9 z).imp id fun h=>by rw[oq hi,mE _ _ _ (gU _),if_pos (by rw[h];decide)];exact h⟩
theorem name_next{l:List Dc}{i:Nat}(hi:i<l.length)(hk:l[i].kind=2)(h0:aQ (tab (l.take i)) l[i].name=0):aQ (tab (l.take (i+1))) l[i].name=3:=by
 rw[oq hi,mE _ _ _ (gU _),if_neg (by rw[h0];decide)]
 unfold rT
 rw[hk,if_neg (by decide),List.singleton_append,aQ,if_pos ((eT _ _).2 rfl)]
 rfl
theorem model_hit{b sb mb c:Nat}{A:Option Addr}{l:List Dc}{S T:Nat→Prop}(i:Nat)(x:ByteArray)(hx:x.size≤maxLen)(w:World)(f:ByteArray→Option Value)(hst:MSt b sb mb c A l S T w f)(v:Value)(hv:f x=some v):
  Calls prog 41 #[.pointer (some ⟨b,0,none⟩),.string x] w (xU b sb mb c A l S T i x w f):=by
 obtain⟨d0,d1,d2⟩:=hst.wd.cells
 obtain⟨F,A2,c2,er,rfl,J3,xW,h16,hq⟩:=hst.mem x v hv
 obtain⟨n,hM,-⟩:=hst.mm
 have hlk:=hM.look_ok (t:=126) (e:=144) bB underlying126 (FY w) hx
 rw[hv] at hlk
 simp only[Option.getD_some,Option.isSome_some] at hlk
 obtain⟨W0,hW0⟩:=kE (w.alloc (.cells #[.slice A2 F.length c2,.int .i64 (er:Nat)] 144))
 have hb0:Below w.heap.size w W0:=by rw[hW0];exact (jQ _ _).alloc (aP _) _
 have hr0:W0.heap[w.heap.size]?=some (.cells #[.slice A2 F.length c2,.int .i64 (er:Nat)] 144 (0,0)):=by rw[hW0];exact jR _ _
 have H0:=jI hW0
 have HST:=jI hst
 have HR0:=jI hr0
 have HQ:=jI hq
 have H16:=jI h16
 have HCL:=jI (fun(W:World)(hW:Below W0.heap.size W0 W)=>cloneW F A2 c2 W _ ((J3.keep (aA hb0)).keep (aA hW)) (by omega))
 obtain⟨kn,hkn⟩:=kE F.length
 have HKN:=jI hkn
 rw[←hkn] at H0 HR0 HCL hlk xW
 have hlt4:=jS HR0.out
 clear hW0 hr0 hq h16 J3 hM hst hkn
 go_enter func41,ntmps41
 go_upto_region 5 with fail
 rw[←H0.out]
 refine av.start (fun W'=>Below W0.heap.size W0 W') [] [0,1,3,4,5,6] (by kernel_rfl) (below_drewN (jQ _ _) 1) (fun hHeld=>?_)
 repeat
  refine av.take (v:=?_) rfl (by decide +kernel) (by rfl) (fun _ _ _ h=>h) hHeld ?_ ?_
  rotate_left
  focus
   intro w9 h9
   obtain⟨z3,z4⟩:=aG ((h9.block _ hlt4).trans HR0.out)
   go_simp
   (try with_reducible rfl)
   done
  simp only[Act.put,List.getElem_toArray,List.getElem_cons_succ,List.getElem_cons_zero,List.setIfInBounds_toArray,List.set_cons_zero,List.set_cons_succ]
 repeat'
  first
  |refine av.pure (v:=?_) rfl (by decide +kernel) (by rfl) (fun _ _ _ h=>h) (fun _=>hHeld) ?_ ?_
   rotate_left
   focus
    intro w9
    go_simp
    (try with_reducible rfl)
    done
   simp only[Act.put,List.getElem_toArray,List.getElem_cons_succ,List.getElem_cons_zero,List.setIfInBounds_toArray,List.set_cons_zero,List.set_cons_succ]
  |refine av.one 2 rfl (by decide +kernel) (by rfl) (fun K hK=>?_)
  |go_simp
   go_at_call 78
   refine (HCL.out _ hHeld).mono ?_
   rintro e Y1 ⟨v7,rfl,fu,hb7⟩
   obtain⟨A7,c7,rfl,hc7⟩:=aD fu
   have HOWN:=jI ((ak.own fu).mono (S':=(W0.heap.size≤·)) (fun g hg _=>cK hHeld.size hg) (by decide))
   clear fu
   have hHeld:=hHeld.trans (hb7.mono hHeld.size)
   try go_simp
   refine hK.out _ _ (fun _=>hHeld) ?_
   clear hK K
 refine av.done (by decide +kernel) ?_
 go_wp2
 go_ret2
 rw[HKN.out] at xW
 rw[HKN.out] at HOWN hc7
 rw[HKN.out]
 exact⟨F,A7,c7,er,f,rfl,HOWN.out.mono (S':=(w.heap.size≤·)) (fun g hg _=>by have:=hb0.size;omega) (by decide),hc7,xW,H16.out,HQ.out,aM (hb0.trans (hHeld.mono hb0.size)),HST.out.later (hb0.trans (hHeld.mono hb0.size)),fun z=>Or.inl rfl⟩
theorem Iu{b sb mb c:Nat}{A:Option Addr}{l:List Dc}{S:Nat→Prop}(hc:(bf l).2=0)(hsz:(l.map aW).sum≤1100000)(i:Nat)(hi:i<l.length)(hk:l[i].kind=2)(HM:MdOk b sb mb c A l S i)(h0:aQ (tab (l.take i)) l[i].name=0)(hx:l[i].name.size≤maxLen)
  (T:Nat→Prop) (w:World) (f:ByteArray→Option Value) (hst:MSt b sb mb c A l S T w f) (hT:∀g,T g→g<w.heap.size) (hv:f l[i].name=none):
  Calls prog 41 #[.pointer (some ⟨b,0,none⟩),.string l[i].name] w (xU b sb mb c A l S T (i+1) l[i].name w f):=by
 have hbA:∀(W:World)(o:Obj),Below W.heap.size W (W.alloc o):=fun W o=>(jQ _ _).alloc (aP _) o
 have hnx:=name_next hi hk h0
 have hin:∃d∈l,d.name=l[i].name:=⟨l[i],bQ hi,rfl⟩
 have hll:l.length≤1000000000:=(wH hc hsz).len
 obtain⟨d0,d1,d2⟩:=hst.wd.cells
 obtain⟨n0,hM0,-⟩:=hst.mm
 have hlk:=hM0.look_ok (t:=126) (e:=144) bB underlying126 (FY w) hx
 rw[hv] at hlk
 simp only[Option.getD_none,Option.isSome_none] at hlk
 have hlt:=hst.lt
 have hwlt:=hst.wd.lt
 obtain⟨W1,hW1⟩:=kE (w.alloc (.cells #[.slice none 0 0,.int .i64 0] 144))
 have hb1:Below w.heap.size w W1:=by rw[hW1];exact hbA _ _
 have hr1:W1.heap[w.heap.size]?=some (.cells #[.slice none 0 0,.int .i64 0] 144 (0,0)):=by rw[hW1];exact jR _ _
 have hs1:W1.heap.size=w.heap.size+1:=by rw[hW1];simp
 have hst1:=(hst.mono (T':=fun g=>T g∨g=w.heap.size) (fun g h hl=>h.elim id (fun e=>by omega)) (fun g h=>h.elim (hst.th g) (fun e=>by omega))).later hb1
 have HX:=jI (expandedW hc hsz i hi hk HM _ W1 f hst1 (fun g h=>h.elim (fun h=>by have:=hT g h;omega) (fun e=>by omega)))
 have GV:=jI hst
 have H1:=jI hW1
 have HR1:=jI hr1
 obtain⟨x,hxx⟩:=kE (l[i].name)
 rw[←hxx] at HX hlk hx h0 hnx hv hin ⊢
 clear hW1 hr1 hst1 hM0 hst hk HM hxx hc hsz
 go_enter func41,ntmps41
 go_wp2_with fail
 rw[←H1.out]
 refine HX.out.mono ?_
 rintro e w2 ⟨F,A2,c2,er,f2,rfl,hs2,hc2,xW,h16,hq,hg2,hst2,hch2⟩
 have hsz2:=hg2.size
 have hr2:=ay hg2 HR1.out (show w.heap.size≠mb by omega)
 obtain⟨x0,x1⟩:=aG hr2
 have fr0:=jT _ _ 0 _ _ hr2
 have fr1:=jT _ _ 1 _ _ hr2
 have HST2:=jI hst2
 have HS2:=jI hs2
 have HQ:=jI hq
 have H16:=jI h16
 have HCH:=jI hch2
 have HR2:=jI hr2
 have HG2:=jI hg2
 have hlt2:=jS hr2
 obtain⟨kn,hkn⟩:=kE F.length
 have HKN:=jI hkn
 rw[←hkn] at HS2 hc2 xW
 rw[←hkn]
 clear hs2 hq h16 hch2 hr2 hg2 hst2 hlk d0 d1 d2 hkn
 go_upto_region 4 with fail
 obtain⟨W3,hW3⟩:=kE ((w2.setCell ⟨w.heap.size,0,none⟩ (.slice A2 kn c2)).setCell ⟨w.heap.size,1,none⟩ (.int .i64 (er:Nat)))
 have I9:But (fun g=>T g∨g=w.heap.size) w2 W3:=by rw[hW3];exact ((But.refl _ w2).setCell (Or.inr rfl) 0 _).setCell (Or.inr rfl) 1 _
 have hbe3:Below w.heap.size w2 W3:=by rw[hW3];exact ((jQ _ _).setCell (p:=⟨w.heap.size,0,none⟩) (aP _) _).setCell (p:=⟨w.heap.size,1,none⟩) (aP _) _
 have hr3:W3.heap[w.heap.size]?=some (.cells #[.slice A2 kn c2,.int .i64 (er:Nat)] 144 (0,0)):=by rw[hW3];exact jJ HR2.out
 have HST3:=jI (HST2.out.but I9)
 have HR3:=jI hr3
 have H3:=jI hW3
 rw[←H3.out]
 have hlt3:=jS hr3
 have hs3:W3.heap.size=w2.heap.size:=by rw[hW3];simp
 have HSEE:=jI (show ak W3 (W1.heap.size≤·) 2 A2 kn (aL F) by
  rw[hW3]
  refine HS2.out.keep (fun g hg _=>?_)
  have hg2:g≠w.heap.size:=by omega
  rw[kC _ _ _ g (show g≠w.heap.size from hg2),kC _ _ _ g (show g≠w.heap.size from hg2)])
 have HGR3:=jI (show w.grownBy W3 (some mb) from aX (au (aM hb1) HG2.out) hbe3 (aP _))
 clear hr3 hW3 x0 x1 fr0 fr1 I9 hbe3
 refine av.start (fun W'=>Below W3.heap.size W3 W') [6] [0,1,2,3,4,5] (by kernel_rfl) (below_drewN (jQ _ _) 1) (fun hHeld=>?_)
 repeat
  refine av.take (v:=?_) rfl (by decide +kernel) (by rfl) (fun _ _ _ h=>h) hHeld ?_ ?_
  rotate_left
  focus
   intro w9 h9
   obtain⟨z0,z1,z2⟩:=(HST3.out.wd.below h9).cells
   obtain⟨z3,z4⟩:=aG ((h9.block _ hlt3).trans HR3.out)
   go_simp
   (try with_reducible rfl)
   done
  simp only[Act.put,List.getElem_toArray,List.getElem_cons_succ,List.getElem_cons_zero,List.setIfInBounds_toArray,List.set_cons_zero,List.set_cons_succ]
 refine av.one 6 rfl (by decide +kernel) (by rfl) (fun K hK=>?_)
 have HSTh:=jI (HST3.out.later hHeld)
 obtain⟨n,hM,hnk⟩:=HSTh.out.mm
 have hf2:f2 x=none:=(HCH.out x).elim (fun h=>h.trans hv) (fun h=>by rw[h0] at h;exact absurd h (by decide))
 have hkn1:=IC (l:=l) f2 (v:=.agg #[.slice A2 kn c2,.int .i64 (er:Nat)]) hf2 hin
 have hkn2:=known_le l f2
 obtain⟨W0,hrun,r1,r2,r3⟩:=hM.store (t:=126) (e:=144) bB underlying126 (by unfold maxLen;omega) hx (.agg #[.slice A2 kn c2,.int .i64 (er:Nat)])
 go_simp
 refine hK.out _ _ (fun h=>absurd h (by decide)) ?_
 clear hK K hrun
 refine av.done (by decide +kernel) ?_
 have hseeh:=HSEE.out.keep (aA hHeld)
 have hst4:=HSTh.out.put r2 r1 (by omega) (fun y v hy=>by
  by_cases e:y=x
  ·have e2:(if y=x then some (Value.agg #[.slice A2 kn c2,.int .i64 (er:Nat)]) else f2 y)=some (.agg #[.slice A2 kn c2,.int .i64 (er:Nat)]):=if_pos e
   rw[e2] at hy
   obtain rfl:=Option.some.inj hy
   subst e
   refine⟨F,A2,c2,er,by rw[HKN.out],?_,by rw[←HKN.out];exact xW,H16.out,HQ.out⟩
   rw[←HKN.out]
   refine hseeh.mono (fun g hg _=>⟨by omega,fun k=>?_⟩) (by decide)
   rcases k with k|k
   ·have:=hT g k;omega
   ·omega
  ·have e2:(if y=x then some (Value.agg #[.slice A2 kn c2,.int .i64 (er:Nat)]) else f2 y)=f2 y:=if_neg e
   rw[e2] at hy
   exact HSTh.out.mem y v hy)
 have HST4:=jI (hst4.mono (T':=T) (fun g h _=>Or.inl h) GV.out.th)
 have hr0:=(r2.block _ (bZ hlt3 hHeld.size) (fun e=>by injection e;omega)).trans ((hHeld.block _ hlt3).trans HR3.out)
 have HR0:=jI hr0
 have hlt4:=jS hr0
 have hsee4:=hseeh.keep (w':=W0) (fun g hg hl=>r2.block g hl (fun e=>by injection e;omega))
 have HGR:=jI (au (au HGR3.out (aM hHeld)) r2)
 have HCL:=jI (fun(W:World)(hW:Below W0.heap.size W0 W)=>show Calls prog 78 #[.slice A2 kn c2] W fun e w'=>∃v,e=.returned v∧w'.ownsRow W.heap.size 148 2 v kn (aL F)∧Below W.heap.size W w' from by
  have:=HKN.out
  rw[HKN.out] at hsee4 ⊢
  exact cloneW F A2 c2 W _ (hsee4.keep (aA hW)) (by omega))
 have HCH3:=jI (show ∀z,(fun y=>if y=x then some (Value.agg #[.slice A2 kn c2,.int .i64 (er:Nat)]) else f2 y) z=f z∨aQ (tab (l.take (i+1))) z=3 from fun z=>by
  by_cases e:z=x
  ·exact Or.inr (by rw[e];exact hnx)
  ·have e2:(fun y=>if y=x then some (Value.agg #[.slice A2 kn c2,.int .i64 (er:Nat)]) else f2 y) z=f2 z:=if_neg e
   rw[e2]
   exact (HCH.out z).imp id fun h=>by rw[oq hi,mE _ _ _ (gU _),if_pos (by rw[h];decide)];exact h)
 have hsz0:W1.heap.size≤W0.heap.size:=by have:=hHeld.size;omega
 clear r1 r2 r3 hr0 hseeh hsee4 hst4 hHeld hM hnk HSTh HR3 HSEE H3 HS2 HR2
 simp only[Exit.then]
 go_upto_region 5 with fail
 refine av.start (fun W'=>Below W0.heap.size W0 W') [] [0,1,3,4,5,6] (by kernel_rfl) (below_drewN (jQ _ _) 1) (fun hHeld=>?_)
 repeat
  refine av.take (v:=?_) rfl (by decide +kernel) (by rfl) (fun _ _ _ h=>h) hHeld ?_ ?_
  rotate_left
  focus
   intro w9 h9
   obtain⟨z3,z4⟩:=aG ((h9.block _ hlt4).trans HR0.out)
   go_simp
   (try with_reducible rfl)
   done
  simp only[Act.put,List.getElem_toArray,List.getElem_cons_succ,List.getElem_cons_zero,List.setIfInBounds_toArray,List.set_cons_zero,List.set_cons_succ]
 repeat'
  first
  |refine av.pure (v:=?_) rfl (by decide +kernel) (by rfl) (fun _ _ _ h=>h) (fun _=>hHeld) ?_ ?_
   rotate_left
   focus
    intro w9
    go_simp
    (try with_reducible rfl)
    done
   simp only[Act.put,List.getElem_toArray,List.getElem_cons_succ,List.getElem_cons_zero,List.setIfInBounds_toArray,List.set_cons_zero,List.set_cons_succ]
  |refine av.one 2 rfl (by decide +kernel) (by rfl) (fun K hK=>?_)
  |go_simp
   go_at_call 78
   refine (HCL.out _ hHeld).mono ?_
   rintro e Y1 ⟨v7,rfl,fu,hb7⟩
   obtain⟨A7,c7,rfl,hc7⟩:=aD fu
   have HOWN:=jI ((ak.own fu).mono (S':=(W0.heap.size≤·)) (fun g hg _=>cK hHeld.size hg) (by decide))
   clear fu
   have hHeld:=hHeld.trans (hb7.mono hHeld.size)
   try go_simp
   refine hK.out _ _ (fun _=>hHeld) ?_
   clear hK K
 refine av.done (by decide +kernel) ?_
 go_wp2
 go_ret2
 rw[HKN.out] at xW
 rw[HKN.out] at HOWN hc7
 rw[HKN.out]
 exact⟨F,A7,c7,er,_,rfl,HOWN.out.mono (S':=(w.heap.size≤·)) (fun g hg _=>by omega) (by decide),hc7,xW,H16.out,HQ.out,au HGR.out (aM hHeld),HST4.out.later hHeld,HCH3.out⟩
theorem Cw{b sb mb c:Nat}{A:Option Addr}{l:List Dc}{S:Nat→Prop}(hc:(bf l).2=0)(hsz:(l.map aW).sum≤1100000):∀i,i≤l.length→MdOk b sb mb c A l S i:=by
 intro i
 induction i with
 |zero=>intro _ x _ hx;exact absurd hx (by simp[tab,aQ])
 |succ i ih=>
  intro hi x hxs hx T W f hst hT
  rcases Ji hc hi hx with h|⟨h0,hk,rfl,-⟩
  ·exact (ih (by omega) x hxs h T W f hst hT).mono fun e W' h=>h.more hi
  ·cases hv:f l[i].name with
   |none=>exact Iu hc hsz i hi hk (ih (by omega)) h0 hxs T W f hst hT hv
   |some v=>exact model_hit (i+1) _ hxs W f hst v hv
end
end Go.Proofs.YtmohibkomlhlaaaGreatDoor
