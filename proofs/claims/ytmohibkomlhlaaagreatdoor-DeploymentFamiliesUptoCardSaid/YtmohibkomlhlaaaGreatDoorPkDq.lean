/- The contract of the parser's method configuration at the iw protocol, by the contracts of its two terms. The contract of the parser's method joined: where no operator follows the first part. The contracts of the parser's methods conjunction and term, where no operator follows the first factor. The contract of the parser's method factor at a function's word. The contract of the parser's method declaration at three kinds: a site, faults of one threshold, a configuration of the iw protocol. The contract of the program's function Parse at a text whose declarations are of given states (K): each is read by a contract that is given, and no error comes. Parse at the text of the chapter's example. No condition. -/
import Derived.Test.YtmohibkomlhlaaaGreatDoorPkFmtb
import Derived.KernelRfl
set_option maxRecDepth 100000
set_option maxHeartbeats 16000000
namespace Go.Proofs.YtmohibkomlhlaaaGreatDoor
section
open Go.RowKit
open _root_.Go.Proofs.Tryz
def TdOk(b:Nat)(A:Option Addr)(n c:Nat)(L:cB)(ln:Nat→Nat)(s:St):Prop:=∀w:World,PSt b A n c L ln s w→Calls prog 111 #[.pointer (some ⟨b,0,none⟩)] w (D7 b A n c L ln w (nC L s))
theorem cfg_t{b d:Nat}{A:Option Addr}{n c:Nat}{L:cB}{ln:Nat→Nat}{s:St}(w:World)(h:PSt b A n c L ln s w)(kd li:Int)(nm:ByteArray)(hD:w.heap[d]?=some (.cells #[.int .i64 kd,.int .i64 li,.string nm,.slice none 0 0,.slice none 0 0,.int .i64 0,.string ⟨#[]⟩,.int .i64 0,.slice none 0 0,.slice none 0 0,.string ⟨#[]⟩,.int .i64 0,.string ⟨#[]⟩,.int .i64 0,.slice none 0 0,.slice none 0 0,.int .i64 0,.string ⟨#[]⟩,.int .i64 0,.slice none 0 0,.slice none 0 0,.string ⟨#[]⟩] 35 (0,0)))(hbd:b<d)(d0:Dc)(hc:isW L (⟨#[99,114,97,115,104]⟩:ByteArray) s=true)(hT1:TdOk b A n c L ln (need L (⟨#[114,101,97,100]⟩:ByteArray) (taken L (⟨#[99,114,97,115,104]⟩:ByteArray) s)))(hT2:TdOk b A n c L ln (need L (⟨#[119,114,105,116,101]⟩:ByteArray) (nC L (need L (⟨#[114,101,97,100]⟩:ByteArray) (taken L (⟨#[99,114,97,115,104]⟩:ByteArray) s))).2)):
  Calls prog 112 #[.pointer (some ⟨b,0,none⟩),.pointer (some ⟨d,0,none⟩)] w (CfgPost b d A n c L ln w kd li nm (pCfg L d0 s)):=by
 have HT1:=jI hT1
 have HT2:=jI hT2
 clear hT1 hT2
 have hbs:=h.lt
 have hds:=jS hD
 have HC:=jI hc
 have HD0:=jI hD
 have q0:=h
 have f0:=ko.refl b d w
 clear hc hD h
 go_enter func112,ntmps112
 obtain⟨-,-,-,-,-,-,-,-,-,-,a10,-,-,-,-,-,-,-,-,-,-,-,af⟩:=yh HD0.out
 have af10:=af 10
 clear af
 go_wp2_with fail
 obtain⟨W1,hW1⟩:=kE ((w.setCell ⟨d,10,none⟩ (.string (⟨#[98,121,122,97,110,116,105,110,101]⟩:ByteArray))))
 have g1:w.grownBy W1 (some d):=by rw[hW1];exact aK (aJ _ _) _ _
 have hD1:W1.heap[d]?=some (.cells #[.int .i64 kd,.int .i64 li,.string nm,.slice none 0 0,.slice none 0 0,.int .i64 0,.string ⟨#[]⟩,.int .i64 0,.slice none 0 0,.slice none 0 0,.string (⟨#[98,121,122,97,110,116,105,110,101]⟩:ByteArray),.int .i64 0,.string ⟨#[]⟩,.int .i64 0,.slice none 0 0,.slice none 0 0,.int .i64 0,.string ⟨#[]⟩,.int .i64 0,.slice none 0 0,.slice none 0 0,.string ⟨#[]⟩] 35 (0,0)):=by rw[hW1];exact aF (HD0.out) _
 have hs1:W1.heap.size=w.heap.size:=by rw[hW1];simp
 rw[←hW1]
 have z1:w.heap.size≤W1.heap.size:=by omega
 have HZ1:=jI hs1
 have HD1:=jI hD1
 have q1:=q0.other (below_grown g1 (aP _) (by omega)) (by omega)
 have f1:=f0.set g1
 clear hW1 hD1 hs1 a10 af10
 have ht:=eY (⟨#[99,114,97,115,104]⟩:ByteArray) W1 q1
 rw[HC.out] at ht
 refine ht.mono ?_
 clear ht
 rintro e W2 ⟨rfl,q2,g2⟩
 have z2:=g2.size
 have HD2:=jI (ay g2 HD1.out (by omega))
 have f2:=f1.call g2
 obtain⟨-,-,-,-,-,-,-,-,-,-,a10,-,-,-,-,-,-,-,-,-,-,-,af⟩:=yh HD2.out
 have af10:=af 10
 clear af
 go_wp2_with fail
 obtain⟨W3,hW3⟩:=kE ((W2.setCell ⟨d,10,none⟩ (.string (⟨#[99,114,97,115,104]⟩:ByteArray))))
 have g3:W2.grownBy W3 (some d):=by rw[hW3];exact aK (aJ _ _) _ _
 have hD3:W3.heap[d]?=some (.cells #[.int .i64 kd,.int .i64 li,.string nm,.slice none 0 0,.slice none 0 0,.int .i64 0,.string ⟨#[]⟩,.int .i64 0,.slice none 0 0,.slice none 0 0,.string (⟨#[99,114,97,115,104]⟩:ByteArray),.int .i64 0,.string ⟨#[]⟩,.int .i64 0,.slice none 0 0,.slice none 0 0,.int .i64 0,.string ⟨#[]⟩,.int .i64 0,.slice none 0 0,.slice none 0 0,.string ⟨#[]⟩] 35 (0,0)):=by rw[hW3];exact aF (HD2.out) _
 have hs3:W3.heap.size=W2.heap.size:=by rw[hW3];simp
 rw[←hW3]
 have z3:W2.heap.size≤W3.heap.size:=by omega
 have HZ3:=jI hs3
 have HD3:=jI hD3
 have q3:=q2.other (below_grown g3 (aP _) (by omega)) (by omega)
 have f3:=f2.set g3
 clear hW3 hD3 hs3 a10 af10
 refine (iN (⟨#[114,101,97,100]⟩:ByteArray) _ (q3.below ((jQ _ _).alloc (aP _) _)) (by have:=jR W3 (.cells #[.string (⟨#[114,101,97,100]⟩:ByteArray)] 9);rw[HZ3.out] at this;exact this) (by omega)).mono ?_
 rintro e W4 ⟨rfl,q4,g4x⟩
 have g4:=au (dx (aJ W3 (some b)) _) g4x
 clear g4x
 have z4:=g4.size
 have HD4:=jI (ay g4 HD3.out (by omega))
 have f4:=f3.call g4
 go_wp2_with fail
 refine (HT1.out W4 q4).mono ?_
 rintro e W5 ⟨o2,m2,d2,wA2,wn2,wc2,kA2,kn2,kc2,rfl,uy,q5,g5⟩
 have z5:=g5.size
 have HD5:=jI (ay g5 HD4.out (by omega))
 have f5:=f4.call g5
 have uy:=uy.mono (S':=(w.heap.size≤·)) (fun g hg _=>by omega)
 obtain⟨-,-,-,-,-,-,-,-,-,-,-,a11,a12,a13,a14,a15,-,-,-,-,-,-,af⟩:=yh HD5.out
 have af11:=af 11
 have af12:=af 12
 have af13:=af 13
 have af14:=af 14
 have af15:=af 15
 clear af
 go_wp2_with fail
 obtain⟨W6,hW6⟩:=kE ((((((W5.setCell ⟨d,11,none⟩ (.int .i64 o2)).setCell ⟨d,12,none⟩ (.string m2)).setCell ⟨d,13,none⟩ (.int .i64 d2)).setCell ⟨d,14,none⟩ (.slice wA2 wn2 wc2)).setCell ⟨d,15,none⟩ (.slice kA2 kn2 kc2)))
 have g6:W5.grownBy W6 (some d):=by rw[hW6];exact aK (aK (aK (aK (aK (aJ _ _) _ _) _ _) _ _) _ _) _ _
 have hD6:W6.heap[d]?=some (.cells #[.int .i64 kd,.int .i64 li,.string nm,.slice none 0 0,.slice none 0 0,.int .i64 0,.string ⟨#[]⟩,.int .i64 0,.slice none 0 0,.slice none 0 0,.string (⟨#[99,114,97,115,104]⟩:ByteArray),.int .i64 o2,.string m2,.int .i64 d2,.slice wA2 wn2 wc2,.slice kA2 kn2 kc2,.int .i64 0,.string ⟨#[]⟩,.int .i64 0,.slice none 0 0,.slice none 0 0,.string ⟨#[]⟩] 35 (0,0)):=by rw[hW6];exact aF (aF (aF (aF (aF (HD5.out) _) _) _) _) _
 have hs6:W6.heap.size=W5.heap.size:=by rw[hW6];simp
 rw[←hW6]
 have z6:W5.heap.size≤W6.heap.size:=by omega
 have HZ6:=jI hs6
 have HD6:=jI hD6
 have q6:=q5.other (below_grown g6 (aP _) (by omega)) (by omega)
 have f6:=f5.set g6
 have uy:=uy.keep ((aR g6).mono fun g hg=>by omega)
 clear hW6 hD6 hs6 a11 af11 a12 af12 a13 af13 a14 af14 a15 af15
 refine (iN (⟨#[119,114,105,116,101]⟩:ByteArray) _ (q6.below ((jQ _ _).alloc (aP _) _)) (by have:=jR W6 (.cells #[.string (⟨#[119,114,105,116,101]⟩:ByteArray)] 9);rw[HZ6.out] at this;exact this) (by omega)).mono ?_
 rintro e W7 ⟨rfl,q7,g7x⟩
 have g7:=au (dx (aJ W6 (some b)) _) g7x
 clear g7x
 have z7:=g7.size
 have HD7:=jI (ay g7 HD6.out (by omega))
 have f7:=f6.call g7
 have uy:=uy.keep ((aR g7).mono fun g hg=>by omega)
 go_wp2_with fail
 refine (HT2.out W7 q7).mono ?_
 rintro e W8 ⟨o3,m3,d3,wA3,wn3,wc3,kA3,kn3,kc3,rfl,Ba,q8,g8⟩
 have z8:=g8.size
 have HD8:=jI (ay g8 HD7.out (by omega))
 have f8:=f7.call g8
 have uy:=uy.keep ((aR g8).mono fun g hg=>by omega)
 have Ba:=Ba.mono (S':=(w.heap.size≤·)) (fun g hg _=>by omega)
 obtain⟨-,-,-,-,-,-,-,-,-,-,-,-,-,-,-,-,a16,a17,a18,a19,a20,-,af⟩:=yh HD8.out
 have af16:=af 16
 have af17:=af 17
 have af18:=af 18
 have af19:=af 19
 have af20:=af 20
 clear af
 go_wp2_with fail
 obtain⟨W9,hW9⟩:=kE ((((((W8.setCell ⟨d,16,none⟩ (.int .i64 o3)).setCell ⟨d,17,none⟩ (.string m3)).setCell ⟨d,18,none⟩ (.int .i64 d3)).setCell ⟨d,19,none⟩ (.slice wA3 wn3 wc3)).setCell ⟨d,20,none⟩ (.slice kA3 kn3 kc3)))
 have g9:W8.grownBy W9 (some d):=by rw[hW9];exact aK (aK (aK (aK (aK (aJ _ _) _ _) _ _) _ _) _ _) _ _
 have hD9:W9.heap[d]?=some (.cells #[.int .i64 kd,.int .i64 li,.string nm,.slice none 0 0,.slice none 0 0,.int .i64 0,.string ⟨#[]⟩,.int .i64 0,.slice none 0 0,.slice none 0 0,.string (⟨#[99,114,97,115,104]⟩:ByteArray),.int .i64 o2,.string m2,.int .i64 d2,.slice wA2 wn2 wc2,.slice kA2 kn2 kc2,.int .i64 o3,.string m3,.int .i64 d3,.slice wA3 wn3 wc3,.slice kA3 kn3 kc3,.string ⟨#[]⟩] 35 (0,0)):=by rw[hW9];exact aF (aF (aF (aF (aF (HD8.out) _) _) _) _) _
 have hs9:W9.heap.size=W8.heap.size:=by rw[hW9];simp
 rw[←hW9]
 have z9:W8.heap.size≤W9.heap.size:=by omega
 have HZ9:=jI hs9
 have HD9:=jI hD9
 have q9:=q8.other (below_grown g9 (aP _) (by omega)) (by omega)
 have f9:=f8.set g9
 have uy:=uy.keep ((aR g9).mono fun g hg=>by omega)
 have Ba:=Ba.keep ((aR g9).mono fun g hg=>by omega)
 clear hW9 hD9 hs9 a16 af16 a17 af17 a18 af18 a19 af19 a20 af20
 refine (iN (⟨#[102,97,117,108,116,115]⟩:ByteArray) _ (q9.below ((jQ _ _).alloc (aP _) _)) (by have:=jR W9 (.cells #[.string (⟨#[102,97,117,108,116,115]⟩:ByteArray)] 9);rw[HZ9.out] at this;exact this) (by omega)).mono ?_
 rintro e W10 ⟨rfl,q10,g10x⟩
 have g10:=au (dx (aJ W9 (some b)) _) g10x
 clear g10x
 have z10:=g10.size
 have HD10:=jI (ay g10 HD9.out (by omega))
 have f10:=f9.call g10
 have uy:=uy.keep ((aR g10).mono fun g hg=>by omega)
 have Ba:=Ba.keep ((aR g10).mono fun g hg=>by omega)
 go_wp2_with fail
 refine (mR W10 q10).mono ?_
 rintro e W11 ⟨rfl,q11,g11⟩
 have z11:=g11.size
 have HD11:=jI (ay g11 HD10.out (by omega))
 have f11:=f10.call g11
 have uy:=uy.keep ((aR g11).mono fun g hg=>by omega)
 have Ba:=Ba.keep ((aR g11).mono fun g hg=>by omega)
 generalize hN11:(bG L (need L (⟨#[102,97,117,108,116,115]⟩:ByteArray) (nC L (need L (⟨#[119,114,105,116,101]⟩:ByteArray) (nC L (need L (⟨#[114,101,97,100]⟩:ByteArray) (taken L (⟨#[99,114,97,115,104]⟩:ByteArray) s))).2)).2)).1=us at *
 have HN11:=jI hN11
 clear hN11
 obtain⟨-,-,-,-,-,-,-,-,-,-,-,-,-,-,-,-,-,-,-,-,-,a21,af⟩:=yh HD11.out
 have af21:=af 21
 clear af
 have HE:=jI (cfg_crash (d:=d0) HC.out)
 rw[HN11.out] at HE
 have g12:W11.grownBy (W11.setCell ⟨d,21,none⟩ (.string us)) (some d):=aK (aJ _ _) _ _
 go_wp2
 go_end0
 rw[HE.out]
 exact⟨_,_,_,_,_,_,_,_,_,_,_,_,_,_,_,_,_,_,rfl,aF HD11.out _,uy.keep ((aR g12).mono fun g hg=>by omega),Ba.keep ((aR g12).mono fun g hg=>by omega),q11.other (below_grown g12 (aP _) (by omega)) (by omega),f11.set g12⟩
theorem CO{b:Nat}{A:Option Addr}{n c:Nat}{L:cB}{ln:Nat→Nat}(fid:Nat)(he:∀(args:Array Value)(w:World),(callFunc fid args).run prog w=.ok (.enter fid args) w)(part:St→Tm × St)
  (op:Int) (x:ByteArray) {s:St} (w:World) (h:PSt b A n c L ln s w) (hno:isW L x (part s).2=false)
  (hpart:∀(w:World),PSt b A n c L ln s w→Calls prog fid #[.pointer (some ⟨b,0,none⟩)] w (D7 b A n c L ln w (part s))):
  Calls prog 152 #[.pointer (some ⟨b,0,none⟩),.int .i64 op,.string x,.func (.func fid) #[.pointer (some ⟨b,0,none⟩)] #[]] w (D7 b A n c L ln w (part s)):=by
 have hbs:=h.lt
 have HH:=jI h
 have HP:=jI hpart
 have HNO:=jI hno
 clear h hpart hno
 go_enter func152,ntmps152
 go_wp2_with fail
 obtain⟨W0,hW0⟩:=kE (w.alloc (.cells #[.int .i64 0,.string ⟨#[]⟩,.int .i64 0,.slice none 0 0,.slice none 0 0] 26))
 have hb0:Below w.heap.size w W0:=by rw[hW0];exact (jQ _ _).alloc (aP _) _
 have hs0:W0.heap.size=w.heap.size+1:=by rw[hW0];simp
 have hr0:W0.heap[w.heap.size]?=some (.cells #[.int .i64 0,.string ⟨#[]⟩,.int .i64 0,.slice none 0 0,.slice none 0 0] 26 (0,0)):=by rw[hW0];exact jR w _
 rw[←hW0]
 have HS0:=jI hs0
 have HR0:=jI hr0
 have zk:w.heap.size<W0.heap.size:=by omega
 clear hW0 hs0 hr0
 refine (HP.out W0 (HH.out.below hb0)).mono ?_
 rintro e W1 ⟨op1,nm1,nd1,wA1,wn1,wc1,kA1,kn1,kc1,rfl,ht1,h1,hg1⟩
 have hs1:=hg1.size
 go_wp2
 go_loopg [9] 0 (fun f v wr=>PSt b A n c L ln (part s).2 wr∧W0.grownBy wr (some b)∧dZ dX wr (W0.heap.size≤·) W0.heap.size 26 5 v [(part s).1])
 case atStart=>
  refine⟨h1.below ((jQ _ _).alloc (aP _) _),dx hg1 _,?_⟩
  exact dZ.one W1 oG rfl rfl hs1 ht1
 case round=>
  obtain⟨hPs,hgr,hrow⟩:=hrel
  have hsr:=hgr.size
  have ht:=eY x wr hPs
  rw[HNO.out,iG HNO.out] at ht
  have HT:=jI ht
  clear ht hPs
  obtain⟨Av,cv,rfl,hcv,hlist⟩:=hrow.list oG
  go_wp2_with fail
  refine HT.out.mono ?_
  rintro e W2 ⟨rfl,h2,hg2⟩
  have hgr2:=au hgr hg2
  have hs2:=hgr2.size
  have hl2:aO (dX W2 (W0.heap.size≤·)) W2 (W0.heap.size≤·) 5 Av [(part s).1]:=hlist.keep ((aR hg2).mono fun g hg=>by omega) (fun _ _ h=>h.keep ((aR hg2).mono fun g hg=>by omega))
  have hr2:=ay hgr2 HR0.out (Nat.ne_of_gt hbs)
  have HR2:=jI hr2
  obtain⟨c0,c1,c2,c3,c4,cf⟩:=uL hr2
  have f0:=cf 0
  have f1:=cf 1
  have f2:=cf 2
  have f3:=cf 3
  have f4:=cf 4
  clear hr2 cf hlist hrow HT
  obtain⟨g,o,op2,nm2,nd2,wA2,wn2,wc2,kA2,kn2,kc2,rfl,hS2,htm,k0,k1,k2,k3,k4⟩:=nO (fun t v h=>⟨_,h⟩) hl2 0 (by simp)
  have hgR:g≠w.heap.size:=by omega
  simp only[Nat.zero_mul,Nat.add_zero] at k0 k1 k2 k3 k4
  go_wp2
  obtain⟨hb5,hg5⟩:=set5 HR2.out (.int .i64 op2) (.string nm2) (.int .i64 nd2) (.slice wA2 wn2 wc2) (.slice kA2 kn2 kc2)
  refine qR rfl rfl rfl hb5 ?_
  refine⟨_,_,_,_,_,_,_,_,_,rfl,(htm.keep ((aR hg5).mono fun g hg=>by omega)).mono (fun g hg _=>by omega),h2.other (below_grown hg5 (aP _) (by omega)) hbs,?_⟩
  exact aX (au (aM hb0) hgr2) (below_grown hg5 (aP _) (by omega)) (aP _)
theorem conj_no{b:Nat}{A:Option Addr}{n c:Nat}{L:cB}{ln:Nat→Nat}{s:St}{r:Tm × St}(w:World)(h:PSt b A n c L ln s w)(hA:isW L (⟨#[38]⟩:ByteArray) r.2=false)(hpart:∀(w:World),PSt b A n c L ln s w→Calls prog 196 #[.pointer (some ⟨b,0,none⟩)] w (D7 b A n c L ln w r)):
  Calls prog 153 #[.pointer (some ⟨b,0,none⟩)] w (D7 b A n c L ln w r):=by
 have hbs:=h.lt
 have HH:=jI h
 have HC:=jI (fun(W:World)(hW:PSt b A n c L ln s W)=>CO 196 (enters_of func196 (by kernel_rfl) rfl) (fun _=>r) 3 (⟨#[38]⟩:ByteArray) W hW hA hpart)
 clear h hpart
 go_enter func153,ntmps153
 go_wp2_with fail
 obtain⟨W0,hW0⟩:=kE (w.alloc (.cells #[.int .i64 0,.string ⟨#[]⟩,.int .i64 0,.slice none 0 0,.slice none 0 0] 26))
 have hb0:Below w.heap.size w W0:=by rw[hW0];exact (jQ _ _).alloc (aP _) _
 have hs0:w.heap.size<W0.heap.size:=by rw[hW0];simp
 have hr0:W0.heap[w.heap.size]?=some (.cells #[.int .i64 0,.string ⟨#[]⟩,.int .i64 0,.slice none 0 0,.slice none 0 0] 26 (0,0)):=by rw[hW0];exact jR w _
 rw[←hW0]
 clear hW0
 refine (HC.out W0 (HH.out.below hb0)).mono ?_
 rintro e W2 ⟨op,nm,nd,wA,wn,wc,kA,kn,kc,rfl,htm,h9,hg2⟩
 have hs2:=hg2.size
 have hfr9:w.grownBy W2 (some b):=au (aM hb0) hg2
 have hrW:=ay hg2 hr0 (by omega)
 obtain⟨r0,r1,r2,r3,r4,rf⟩:=uL hrW
 have rf0:=rf 0
 have rf1:=rf 1
 have rf2:=rf 2
 have rf3:=rf 3
 have rf4:=rf 4
 have HRW:=jI hrW
 have HTM:=jI htm
 clear rf hrW htm hr0
 go_wp2
 obtain⟨hbR,hgR⟩:=set5 HRW.out (.int .i64 op) (.string nm) (.int .i64 nd) (.slice wA wn wc) (.slice kA kn kc)
 refine qR rfl rfl rfl hbR ?_
 exact⟨_,_,_,_,_,_,_,_,_,rfl,(HTM.out.keep ((aR hgR).mono fun g hg=>by omega)).mono (fun g hg _=>by omega),h9.other (below_grown hgR (aP _) (by omega)) hbs,aX hfr9 (below_grown hgR (aP _) (by omega)) (aP _)⟩
theorem term_no{b:Nat}{A:Option Addr}{n c:Nat}{L:cB}{ln:Nat→Nat}{s:St}{r:Tm × St}(w:World)(h:PSt b A n c L ln s w)(hA:isW L (⟨#[38]⟩:ByteArray) r.2=false)(hB:isW L (⟨#[124]⟩:ByteArray) r.2=false)(hpart:∀(w:World),PSt b A n c L ln s w→Calls prog 196 #[.pointer (some ⟨b,0,none⟩)] w (D7 b A n c L ln w r)):
  Calls prog 111 #[.pointer (some ⟨b,0,none⟩)] w (D7 b A n c L ln w r):=by
 have hbs:=h.lt
 have HH:=jI h
 have HC:=jI (fun(W:World)(hW:PSt b A n c L ln s W)=>CO 153 (enters_of func153 (by kernel_rfl) rfl) (fun _=>r) 4 (⟨#[124]⟩:ByteArray) W hW hB (fun W h=>conj_no W h hA hpart))
 clear h hpart
 go_enter func111,ntmps111
 go_wp2_with fail
 obtain⟨W0,hW0⟩:=kE (w.alloc (.cells #[.int .i64 0,.string ⟨#[]⟩,.int .i64 0,.slice none 0 0,.slice none 0 0] 26))
 have hb0:Below w.heap.size w W0:=by rw[hW0];exact (jQ _ _).alloc (aP _) _
 have hs0:w.heap.size<W0.heap.size:=by rw[hW0];simp
 have hr0:W0.heap[w.heap.size]?=some (.cells #[.int .i64 0,.string ⟨#[]⟩,.int .i64 0,.slice none 0 0,.slice none 0 0] 26 (0,0)):=by rw[hW0];exact jR w _
 rw[←hW0]
 clear hW0
 refine (HC.out W0 (HH.out.below hb0)).mono ?_
 rintro e W2 ⟨op,nm,nd,wA,wn,wc,kA,kn,kc,rfl,htm,h9,hg2⟩
 have hs2:=hg2.size
 have hfr9:w.grownBy W2 (some b):=au (aM hb0) hg2
 have hrW:=ay hg2 hr0 (by omega)
 obtain⟨r0,r1,r2,r3,r4,rf⟩:=uL hrW
 have rf0:=rf 0
 have rf1:=rf 1
 have rf2:=rf 2
 have rf3:=rf 3
 have rf4:=rf 4
 have HRW:=jI hrW
 have HTM:=jI htm
 clear rf hrW htm hr0
 go_wp2
 obtain⟨hbR,hgR⟩:=set5 HRW.out (.int .i64 op) (.string nm) (.int .i64 nd) (.slice wA wn wc) (.slice kA kn kc)
 refine qR rfl rfl rfl hbR ?_
 exact⟨_,_,_,_,_,_,_,_,_,rfl,(HTM.out.keep ((aR hgR).mono fun g hg=>by omega)).mono (fun g hg _=>by omega),h9.other (below_grown hgR (aP _) (by omega)) hbs,aX hfr9 (below_grown hgR (aP _) (by omega)) (aP _)⟩
theorem factor_g{b:Nat}{A:Option Addr}{n c:Nat}{L:cB}{ln:Nat→Nat}(pt:St→Tm × St)
  {s:St} (w:World) (h:PSt b A n c L ln s w) (hi:isInt L s=false) (hp:isW L (⟨#[40]⟩:ByteArray) s=false) (hf:CS L s=true) (h5d:pq (txt L s)≠5):
  Calls prog 196 #[.pointer (some ⟨b,0,none⟩)] w (D7 b A n c L ln w (nL L pt s)):=by
 have hbs:=h.lt
 obtain⟨h00,hpp⟩:=isFun_ok hf
 have hmo:=EX h00 hpp
 have hat:=isFun_at h00 hpp
 rw[hf] at hat
 have hk1:(L[s.pos]'hpp).1.kind=1:=by
  have:=hat.symm
  simp at this
  exact this.1
 have hfo:(pq (L[s.pos]'hpp).1.text:Int)=(pq (txt L s):Int):=by rw[txt_at h00 hpp]
 have hne:pq (txt L s)≠0:=by
  have:=hat.symm
  simp at this
  rw[txt_at h00 hpp];exact this.2
 have HH:=jI h
 have HIN:=jI hi
 have HP:=jI hp
 have HMO:=jI hmo
 have HFO:=jI hfo
 have HK1:=jI hk1
 have HF0:=jI hf
 have H00:=jI h00
 generalize hop:pq (txt L s)=fo at hne HFO h5d
 have HOP:=jI hop
 have qz:((fo:Int)==0)=false:=lM hne
 clear h hi hp hf hmo hfo hk1 h00 hat hop hne
 go_enter func196,ntmps196
 go_wp2_with fail
 obtain⟨W0,hW0⟩:=kE (w.alloc (.cells #[.int .i64 0,.string ⟨#[]⟩,.int .i64 0,.slice none 0 0,.slice none 0 0] 26))
 have hb0:Below w.heap.size w W0:=by rw[hW0];exact (jQ _ _).alloc (aP _) _
 have hs0:w.heap.size<W0.heap.size:=by rw[hW0];simp
 have hr0:W0.heap[w.heap.size]?=some (.cells #[.int .i64 0,.string ⟨#[]⟩,.int .i64 0,.slice none 0 0,.slice none 0 0] 26 (0,0)):=by rw[hW0];exact jR w _
 rw[←hW0]
 have HR0:=jI hr0
 clear hW0 hr0
 have h0:=HH.out.below hb0
 have hI:=CR W0 h0
 rw[HIN.out] at hI
 refine hI.mono ?_
 rintro e W1 ⟨rfl,q,hq⟩
 have hb1:Below W0.heap.size W0 W1:=by rw[hq];exact below_drewN (jQ _ _) _
 have h1:=h0.below hb1
 have hs1:=hb1.size
 clear hq hI
 go_wp2_with fail
 have ht:=eY (⟨#[40]⟩:ByteArray) W1 h1
 rw[HP.out,iG HP.out] at ht
 refine ht.mono ?_
 rintro e W2 ⟨rfl,h2,hg2⟩
 have hs2:=hg2.size
 clear ht
 have HM:=jI (mh h2 HMO.out)
 obtain⟨g,o,l,rfl,hS,hgs,hbs2,hl,k0,k1,k2,k3,k4,i1,i2,i3⟩:=lV h2 hpp
 have HF:=jI (yu HFO.out)
 rw[HK1.out] at k0
 obtain⟨c0,c1,c2,c3,cf⟩:=Ez hl
 clear cf hl
 generalize htx:(L[s.pos]'hpp).1.text=tx at k1 HF
 have HTX:=jI htx
 clear htx
 go_wp2
 go_quiet ((first|(go_at_call 83;exact HM.out _)|(go_at_call 215;exact HF.out _ _)))
 obtain⟨W3,hW3⟩:=kE (W2.drewN nq)
 have hb3:Below W2.heap.size W2 W3:=by rw[hW3];exact below_drewN (jQ _ _) _
 have h3:=h2.below hb3
 have hs3:=hb3.size
 rw[←hW3]
 clear hW3 c0 c1 c2 c3 k0 k1 k2 k3 k4
 obtain⟨g',o',l,hA',hS',hgs',hbs',hl,k0,k1,k2,k3,k4,j1,j2,j3⟩:=lV h3 hpp
 obtain⟨rfl,rfl⟩:g=g'∧o=o':=by injection hA' with e;injection e with e1 e2;exact⟨e1,e2⟩
 rw[HTX.out] at k1
 obtain⟨c0,c1,c2,c3,cf⟩:=Ez hl
 have HL:=jI hl
 have f1:=cf 1
 have HF2:Hid (∀W:World,Calls prog 215 #[.string tx] W fun e w'=>e=.returned (.int .i64 (fo:Int))∧W=w'):=by
  intro W
  have:=tX tx W
  rw[←HTX.out,HFO.out,HTX.out] at this
  exact this
 clear hl cf k0 k2 k3 k4 c2 c3 hA' j1 j2 j3
 go_wp2_with fail
 go_region_held3 (fun w'=>w'.cell? ⟨b,0,none⟩=some (.slice (some ⟨g,o,none⟩) n c)∧w'.cell? ⟨b,1,none⟩=some (.int .i64 s.pos)∧w'.cell? ⟨g,o+s.pos * 5+1,none⟩=some (.string tx)) (go_keep) ((go_at_call 215;refine (HF2.out _).mono ?_;rintro e w' ⟨rfl,rfl⟩))
 all_goals
  obtain⟨W4,hW4⟩:=kE ((W3.setCell ⟨b,1,none⟩ (.int .i64 ((s.pos:Int)+1))).alloc (.cells #[.int .i64 (fo:Int),.string ⟨#[]⟩,.int .i64 0,.slice none 0 0,.slice none 0 0] 26))
  have hg4a:W3.grownBy (W3.setCell ⟨b,1,none⟩ (.int .i64 ((s.pos:Int)+1))) (some b):=aK (aJ _ _) _ _
  have hg4:W3.grownBy W4 (some b):=by rw[hW4];exact dx hg4a _
  have h4:PSt b (some ⟨g,o,none⟩) n c L ln (adv s) W4:=by rw[hW4];exact (h3.adv H00.out hpp (aF HL.out _) hg4a).below ((jQ _ _).alloc (aP _) _)
  have hs4:W4.heap.size=W3.heap.size+1:=by rw[hW4];simp
  have hT4:W4.heap[W3.heap.size]?=some (.cells #[.int .i64 (fo:Int),.string ⟨#[]⟩,.int .i64 0,.slice none 0 0,.slice none 0 0] 26 (0,0)):=by
   rw[hW4]
   have:=jR (W3.setCell ⟨b,1,none⟩ (.int .i64 ((s.pos:Int)+1))) (.cells #[.int .i64 (fo:Int),.string ⟨#[]⟩,.int .i64 0,.slice none 0 0,.slice none 0 0] 26)
   simpa using this
  have HS4:=jI hs4
  have HT4:=jI hT4
  have hlt4:W3.heap.size<W4.heap.size:=by omega
  go_wp2_with fail
  rw[←hW4]
  clear hW4 hT4 hs4 c0 c1 k1 f1
  refine (iN (⟨#[40]⟩:ByteArray) _ ((h4.below ((jQ _ _).alloc (aP _) _)).below (jQ _ _).drew) (by have:=jR W4 (.cells #[.string (⟨#[40]⟩:ByteArray)] 9);rw[HS4.out] at this;exact this) (by omega)).mono ?_
  rintro e W5 ⟨rfl,h5,hg5⟩
  have hg5':W4.grownBy W5 (some b):=au (au (dx (aJ _ _) _) (aM (jQ _ _).drew)) hg5
  have hs5:=hg5'.size
  have hT5:=ay hg5' HT4.out (by omega)
  have hfr5:w.grownBy W5 (some b):=au (au (au (au (aM (hb0.trans (hb1.mono (by omega)))) hg2) (aM hb3)) hg4) hg5'
  have hR5:=ay hg5' (ay hg4 ((hb3.block _ (by omega)).trans (ay hg2 ((hb1.block _ hs0).trans HR0.out) (by omega))) (by omega)) (by omega)
  have hn5:(need L (⟨#[40]⟩:ByteArray) (adv s)).err=0→s.pos+1≤(need L (⟨#[40]⟩:ByteArray) (adv s)).pos:=fun _=>(JS (⟨#[40]⟩:ByteArray) h4.pos).le
  clear hg5
  obtain⟨t0,t1,t2,t3,t4,tf⟩:=uL hT5
  have q5:((fo:Int)==5)=false:=lM h5d
  have e1:=Dr (pt:=pt) HIN.out HP.out HF0.out (by rw[HOP.out];exact h5d)
  rw[HOP.out] at e1
  have E1:=jI e1
  have tf1:=tf 1
  clear e1 h5d tf
  go_wp2_with fail
  have ht:=eY (⟨#[115,101,114,118,101,114,115]⟩:ByteArray) W5 h5
  cases hsv:isW L (⟨#[115,101,114,118,101,114,115]⟩:ByteArray) (need L (⟨#[40]⟩:ByteArray) (adv s))
  ·rw[hsv,iG hsv] at ht
   refine ht.mono ?_
   rintro e W6 ⟨rfl,h6,hg6⟩
   have eg:tQ L (need L (⟨#[40]⟩:ByteArray) (adv s))=bG L (need L (⟨#[40]⟩:ByteArray) (adv s)):=by unfold tQ;rw[hsv];rfl
   rw[eg] at E1
   clear ht hsv eg
   go_wp2_with fail
   refine (mR W6 h6).mono ?_
   rintro e W7 ⟨rfl,h7,hg7⟩
   have hg7':W5.grownBy W7 (some b):=au hg6 hg7
   have hs7:=hg7'.size
   have hT7:=ay hg7' hT5 (by omega)
   have hR7:=ay hg7' hR5 (by omega)
   have hfr7:=au hfr5 hg7'
   obtain⟨nm,hnm⟩:=kE ((bG L (need L (⟨#[40]⟩:ByteArray) (adv s))).1)
   rw[←hnm] at E1 ⊢
   clear hnm
   clear t0 t1 t2 t3 t4 tf1
   obtain⟨t0,t1,t2,t3,t4,tf⟩:=uL hT7
   have tf1:=tf 1
   have hT7s:=jS hT7
   clear tf
   obtain⟨W8,hW8⟩:=kE (W7.setCell ⟨W3.heap.size,1,none⟩ (.string nm))
   have hgx:W7.grownBy W8 (some W3.heap.size):=by rw[hW8];exact aK (aJ _ _) _ _
   have hs8:W8.heap.size=W7.heap.size:=by rw[hW8];simp
   have hT8:W8.heap[W3.heap.size]?=some (.cells #[.int .i64 (fo:Int),.string nm,.int .i64 0,.slice none 0 0,.slice none 0 0] 26 (0,0)):=by rw[hW8];exact aF hT7 _
   have h8:=h7.other (below_grown hgx (aP _) (by omega)) (by omega)
   have hR8:=ay hgx hR7 (by omega)
   have hfr8:=aX hfr7 (below_grown hgx (aP _) (by omega)) (by omega)
   have hn8:=jR W8 (.cells #[.string (⟨#[41]⟩:ByteArray)] 9)
   rw[hs8] at hn8
   have HN8:=jI hn8
   have hs8':W7.heap.size≤W8.heap.size:=by omega
   clear hn8 hs8 hT7
   go_wp2_with fail
   rw[←hW8]
   clear hW8 t0 t1 t2 t3 t4 tf1
   refine (iN (⟨#[41]⟩:ByteArray) _ (h8.below ((jQ _ _).alloc (aP _) _)) HN8.out (by omega)).mono ?_
   rintro e W9 ⟨rfl,h9,hg9⟩
   have hg9':W8.grownBy W9 (some b):=au (dx (aJ _ _) _) hg9
   have hs9:=hg9'.size
   have hfr9:w.grownBy W9 (some b):=au hfr8 hg9'
   have hrW:=ay hg9' hR8 (by omega)
   obtain⟨t0,t1,t2,t3,t4,tf⟩:=uL (ay hg9' hT8 (by omega))
   clear tf
   obtain⟨r0,r1,r2,r3,r4,rf⟩:=uL hrW
   have rf0:=rf 0
   have rf1:=rf 1
   have rf2:=rf 2
   have rf3:=rf 3
   have rf4:=rf 4
   have HRW:=jI hrW
   clear rf hrW
   have HTM:=jI (dX.named W9 (W5.heap.size≤·) (fo:Int) nm)
   go_wp2
   obtain⟨hbR,hgR⟩:=set5 HRW.out (.int .i64 (fo:Int)) (.string nm) (.int .i64 0) (.slice none 0 0) (.slice none 0 0)
   refine qR rfl rfl rfl hbR ?_
   rw[E1.out]
   exact⟨_,_,_,_,_,_,_,_,_,rfl,(HTM.out.keep ((aR hgR).mono fun g hg=>by omega)).mono (fun g hg _=>by omega),h9.other (below_grown hgR (aP _) (by omega)) hbs,aX hfr9 (below_grown hgR (aP _) (by omega)) (aP _)⟩
  ·rw[hsv] at ht
   refine ht.mono ?_
   rintro e W7 ⟨rfl,h7,hg7'⟩
   obtain⟨nm,hnm⟩:=kE ((⟨#[115,101,114,118,101,114,115]⟩:ByteArray))
   have eg:tQ L (need L (⟨#[40]⟩:ByteArray) (adv s))=(nm,taken L (⟨#[115,101,114,118,101,114,115]⟩:ByteArray) (need L (⟨#[40]⟩:ByteArray) (adv s))):=by rw[hnm];unfold tQ taken;rw[hsv];rfl
   rw[eg] at E1
   clear ht hsv eg
   have hs7:=hg7'.size
   have hT7:=ay hg7' hT5 (by omega)
   have hR7:=ay hg7' hR5 (by omega)
   have hfr7:=au hfr5 hg7'
   have HNM:=jI hnm
   clear hnm
   clear t0 t1 t2 t3 t4 tf1
   obtain⟨t0,t1,t2,t3,t4,tf⟩:=uL hT7
   have tf1:=tf 1
   have hT7s:=jS hT7
   clear tf
   obtain⟨W8,hW8⟩:=kE (W7.setCell ⟨W3.heap.size,1,none⟩ (.string nm))
   have hgx:W7.grownBy W8 (some W3.heap.size):=by rw[hW8];exact aK (aJ _ _) _ _
   have hs8:W8.heap.size=W7.heap.size:=by rw[hW8];simp
   have hT8:W8.heap[W3.heap.size]?=some (.cells #[.int .i64 (fo:Int),.string nm,.int .i64 0,.slice none 0 0,.slice none 0 0] 26 (0,0)):=by rw[hW8];exact aF hT7 _
   have h8:=h7.other (below_grown hgx (aP _) (by omega)) (by omega)
   have hR8:=ay hgx hR7 (by omega)
   have hfr8:=aX hfr7 (below_grown hgx (aP _) (by omega)) (by omega)
   have hn8:=jR W8 (.cells #[.string (⟨#[41]⟩:ByteArray)] 9)
   rw[hs8] at hn8
   have HN8:=jI hn8
   have hs8':W7.heap.size≤W8.heap.size:=by omega
   rw[HNM.out] at hW8
   clear hn8 hs8 hT7
   go_wp2_with fail
   rw[←hW8]
   clear hW8 t0 t1 t2 t3 t4 tf1
   refine (iN (⟨#[41]⟩:ByteArray) _ (h8.below ((jQ _ _).alloc (aP _) _)) HN8.out (by omega)).mono ?_
   rintro e W9 ⟨rfl,h9,hg9⟩
   have hg9':W8.grownBy W9 (some b):=au (dx (aJ _ _) _) hg9
   have hs9:=hg9'.size
   have hfr9:w.grownBy W9 (some b):=au hfr8 hg9'
   have hrW:=ay hg9' hR8 (by omega)
   obtain⟨t0,t1,t2,t3,t4,tf⟩:=uL (ay hg9' hT8 (by omega))
   clear tf
   obtain⟨r0,r1,r2,r3,r4,rf⟩:=uL hrW
   have rf0:=rf 0
   have rf1:=rf 1
   have rf2:=rf 2
   have rf3:=rf 3
   have rf4:=rf 4
   have HRW:=jI hrW
   clear rf hrW
   have HTM:=jI (dX.named W9 (W5.heap.size≤·) (fo:Int) nm)
   go_wp2
   obtain⟨hbR,hgR⟩:=set5 HRW.out (.int .i64 (fo:Int)) (.string nm) (.int .i64 0) (.slice none 0 0) (.slice none 0 0)
   refine qR rfl rfl rfl hbR ?_
   rw[E1.out]
   exact⟨_,_,_,_,_,_,_,_,_,rfl,(HTM.out.keep ((aR hgR).mono fun g hg=>by omega)).mono (fun g hg _=>by omega),h9.other (below_grown hgR (aP _) (by omega)) hbs,aX hfr9 (below_grown hgR (aP _) (by omega)) (aP _)⟩
end
section
open Go.RowKit
open _root_.Go.Proofs.Tryz
theorem Jg{L:cB}{x:Int}{s:St}(h:isW L (⟨#[124]⟩:ByteArray) (kN L x s).2=false):Az L x s=([(kN L x s).1],(kN L x s).2):=by unfold Az;exact Bf h
attribute [local go_sem ↓] FD in
theorem decl_t{b:Nat}{A:Option Addr}{n c:Nat}{L:cB}{ln:Nat→Nat}{s:St}(w:World)(h:PSt b A n c L ln s w)(hm:jW L s=true)(hk:(isW L (⟨#[115,105,116,101]⟩:ByteArray) s=true)∨(isW L (⟨#[115,105,116,101]⟩:ByteArray) s=false∧isW L (⟨#[102,97,117,108,116,115]⟩:ByteArray) s=true∧isW L (⟨#[110,111,110,101]⟩:ByteArray) (need L (⟨#[61]⟩:ByteArray) (bG L (taken L (⟨#[102,97,117,108,116,115]⟩:ByteArray) s)).2)=false∧isW L (⟨#[116,104,114,101,115,104,111,108,100]⟩:ByteArray) (need L (⟨#[61]⟩:ByteArray) (bG L (taken L (⟨#[102,97,117,108,116,115]⟩:ByteArray) s)).2)=true∧isW L (⟨#[124]⟩:ByteArray) (kN L 4 (need L (⟨#[61]⟩:ByteArray) (bG L (taken L (⟨#[102,97,117,108,116,115]⟩:ByteArray) s)).2)).2=false)∨(isW L (⟨#[115,105,116,101]⟩:ByteArray) s=false∧isW L (⟨#[102,97,117,108,116,115]⟩:ByteArray) s=false∧isW L (⟨#[113,117,111,114,117,109]⟩:ByteArray) s=false∧isW L (⟨#[99,111,110,102,105,103]⟩:ByteArray) s=true∧isW L (⟨#[99,114,97,115,104]⟩:ByteArray) (bG L (taken L (⟨#[99,111,110,102,105,103]⟩:ByteArray) s)).2=true∧TdOk b A n c L ln (need L (⟨#[114,101,97,100]⟩:ByteArray) (taken L (⟨#[99,114,97,115,104]⟩:ByteArray) (bG L (taken L (⟨#[99,111,110,102,105,103]⟩:ByteArray) s)).2))∧TdOk b A n c L ln (need L (⟨#[119,114,105,116,101]⟩:ByteArray) (nC L (need L (⟨#[114,101,97,100]⟩:ByteArray) (taken L (⟨#[99,114,97,115,104]⟩:ByteArray) (bG L (taken L (⟨#[99,111,110,102,105,103]⟩:ByteArray) s)).2))).2))):
  Calls prog 84 #[.pointer (some ⟨b,0,none⟩)] w (DPost b A n c L ln w (uq L 4 s)):=by
 have hbs:=h.lt
 obtain⟨h00,hpp⟩:=qg hm
 have HK:=jI hk
 clear hk
 have HH:=jI h
 have H00:=jI h00
 clear h h00 hm
 go_enter func84,ntmps84
 go_upto_region 1 with fail
 obtain⟨Wa,hWa⟩:=kE (w.alloc (.cells #[.int .i64 0,.int .i64 0,.string ⟨#[]⟩,.slice none 0 0,.slice none 0 0,.int .i64 0,.string ⟨#[]⟩,.int .i64 0,.slice none 0 0,.slice none 0 0,.string ⟨#[]⟩,.int .i64 0,.string ⟨#[]⟩,.int .i64 0,.slice none 0 0,.slice none 0 0,.int .i64 0,.string ⟨#[]⟩,.int .i64 0,.slice none 0 0,.slice none 0 0,.string ⟨#[]⟩] 35))
 have hba:Below w.heap.size w Wa:=by rw[hWa];exact (jQ _ _).alloc (aP _) _
 have hsa:w.heap.size<Wa.heap.size:=by rw[hWa];simp
 have hra:Wa.heap[w.heap.size]?=some (.cells #[.int .i64 0,.int .i64 0,.string ⟨#[]⟩,.slice none 0 0,.slice none 0 0,.int .i64 0,.string ⟨#[]⟩,.int .i64 0,.slice none 0 0,.slice none 0 0,.string ⟨#[]⟩,.int .i64 0,.string ⟨#[]⟩,.int .i64 0,.slice none 0 0,.slice none 0 0,.int .i64 0,.string ⟨#[]⟩,.int .i64 0,.slice none 0 0,.slice none 0 0,.string ⟨#[]⟩] 35 (0,0)):=by rw[hWa];exact jR w _
 rw[←hWa]
 have HRa:=jI hra
 clear hWa hra
 have qa:=HH.out.below hba
 obtain⟨g,o,l,rfl,hS,hgs,hbs2,hl,k0,k1,k2,k3,k4,i1,i2,i3⟩:=lV qa hpp
 obtain⟨c0,c1,c2,c3,cf⟩:=Ez hl
 have hln:(wI L s.pos:Int)=((L[s.pos]'hpp).2:Int):=by unfold wI;rw[dD hpp];rfl
 generalize hli:((L[s.pos]'hpp).2:Int)=li at k4 hln
 have HLI:=jI hln
 clear hli hln hl cf k0 k1 k2 k3 c2 c3
 go_cut [3] (fun s3 wx=>s3=.pointer (some ⟨Wa.heap.size,0,none⟩)∧wx.heap[Wa.heap.size]?=some (.cells #[.int .i64 0,.int .i64 li,.string ⟨#[]⟩,.slice none 0 0,.slice none 0 0,.int .i64 0,.string ⟨#[]⟩,.int .i64 0,.slice none 0 0,.slice none 0 0,.string ⟨#[]⟩,.int .i64 0,.string ⟨#[]⟩,.int .i64 0,.slice none 0 0,.slice none 0 0,.int .i64 0,.string ⟨#[]⟩,.int .i64 0,.slice none 0 0,.slice none 0 0,.string ⟨#[]⟩] 35 (0,0))∧Below Wa.heap.size Wa wx∧Wa.heap.size<wx.heap.size)
 case first=>
  have hst:=fun(c:Array Value)(hc:c.size=22)=>Ht Wa c hc li
  go_region_law (fail)
  all_goals
   go_wp2_with fail
   go_meet
   exact⟨rfl,jR Wa _,((jQ _ _).alloc (aP _) _).drew,by simp⟩
 case rest=>
  obtain⟨rfl,hDz,hbz,hsz⟩:=hcut
  obtain⟨wz,rfl⟩:=kE wc
  have HRz:=jI ((hbz.block _ hsa).trans HRa.out)
  have q0:=qa.below hbz
  have f0:=ko.refl b Wa.heap.size wz
  have HD0:=jI hDz
  have z0:wz.heap.size≤wz.heap.size:=aP _
  have hfz:w.grownBy wz (some b):=au (aM hba) (aM hbz)
  clear hDz c0 c1 k4
  rcases HK.out with h1|⟨h1,h2,h3,h4,h5⟩|⟨h1,h2,h3,h4,h5,h6,h7⟩
  ·have Hh1:=jI h1
   clear HK h1
   go_wp2_with fail
   have ht:=eY (⟨#[115,105,116,101]⟩:ByteArray) wz q0
   rw[Hh1.out] at ht
   refine ht.mono ?_
   clear ht
   rintro e W1 ⟨rfl,q1,g1⟩
   have z1:=g1.size
   have HD1:=jI (ay g1 HD0.out (by omega))
   have f1:=f0.call g1
   go_wp2_with fail
   refine (mR W1 q1).mono ?_
   rintro e W2 ⟨rfl,q2,g2⟩
   have z2:=g2.size
   have HD2:=jI (ay g2 HD1.out (by omega))
   have f2:=f1.call g2
   generalize hN2:(bG L (taken L (⟨#[115,105,116,101]⟩:ByteArray) s)).1=nm at *
   have HN2:=jI hN2
   clear hN2
   obtain⟨a0,-,a2,-,-,-,-,-,-,-,-,-,-,-,-,-,-,-,-,-,-,-,af⟩:=yh HD2.out
   have af0:=af 0
   have af2:=af 2
   clear af
   go_wp2_with fail
   obtain⟨W3,hW3⟩:=kE (((W2.setCell ⟨Wa.heap.size,0,none⟩ (.int .i64 1)).setCell ⟨Wa.heap.size,2,none⟩ (.string nm)))
   have g3:W2.grownBy W3 (some Wa.heap.size):=by rw[hW3];exact aK (aK (aJ _ _) _ _) _ _
   have hD3:W3.heap[Wa.heap.size]?=some (.cells #[.int .i64 1,.int .i64 li,.string nm,.slice none 0 0,.slice none 0 0,.int .i64 0,.string ⟨#[]⟩,.int .i64 0,.slice none 0 0,.slice none 0 0,.string ⟨#[]⟩,.int .i64 0,.string ⟨#[]⟩,.int .i64 0,.slice none 0 0,.slice none 0 0,.int .i64 0,.string ⟨#[]⟩,.int .i64 0,.slice none 0 0,.slice none 0 0,.string ⟨#[]⟩] 35 (0,0)):=by rw[hW3];exact aF (aF (HD2.out) _) _
   have hs3:W3.heap.size=W2.heap.size:=by rw[hW3];simp
   rw[←hW3]
   have z3:W2.heap.size≤W3.heap.size:=by omega
   have HZ3:=jI hs3
   have HD3:=jI hD3
   have q3:=q2.other (below_grown g3 (aP _) (by omega)) (by omega)
   have f3:=f2.set g3
   clear hW3 hD3 hs3 a0 af0 a2 af2
   refine (JQ W3 q3).mono ?_
   rintro e W4 ⟨v4,rfl,jX,q4,g4⟩
   have z4:=g4.size
   have HD4:=jI (ay g4 HD3.out (by omega))
   have f4:=f3.call g4
   obtain⟨nA,nc,rfl,hnc⟩:=aD jX
   have hsn:=(ak.own jX).mono (S':=(wz.heap.size≤·)) (fun g hg _=>by omega) (by decide)
   clear jX
   generalize hns:(iR L (bG L (taken L (⟨#[115,105,116,101]⟩:ByteArray) s)).2).1=ns at *
   have HNS:=jI hns
   clear hns
   obtain⟨-,-,-,a3,-,-,-,-,-,-,-,-,-,-,-,-,-,-,-,-,-,-,af⟩:=yh HD4.out
   have af3:=af 3
   clear af
   go_wp2_with fail
   obtain⟨W5,hW5⟩:=kE ((W4.setCell ⟨Wa.heap.size,3,none⟩ (.slice nA ns.length nc)))
   have g5:W4.grownBy W5 (some Wa.heap.size):=by rw[hW5];exact aK (aJ _ _) _ _
   have hD5:W5.heap[Wa.heap.size]?=some (.cells #[.int .i64 1,.int .i64 li,.string nm,.slice nA ns.length nc,.slice none 0 0,.int .i64 0,.string ⟨#[]⟩,.int .i64 0,.slice none 0 0,.slice none 0 0,.string ⟨#[]⟩,.int .i64 0,.string ⟨#[]⟩,.int .i64 0,.slice none 0 0,.slice none 0 0,.int .i64 0,.string ⟨#[]⟩,.int .i64 0,.slice none 0 0,.slice none 0 0,.string ⟨#[]⟩] 35 (0,0)):=by rw[hW5];exact aF (HD4.out) _
   have hs5:W5.heap.size=W4.heap.size:=by rw[hW5];simp
   rw[←hW5]
   have z5:W4.heap.size≤W5.heap.size:=by omega
   have HZ5:=jI hs5
   have HD5:=jI hD5
   have q5:=q4.other (below_grown g5 (aP _) (by omega)) (by omega)
   have f5:=f4.set g5
   have hsn:=hsn.keep ((aR g5).mono fun g hg=>by omega)
   clear hW5 hD5 hs5 a3 af3
   refine (iN (⟨#[59]⟩:ByteArray) _ (q5.below ((jQ _ _).alloc (aP _) _)) (by have:=jR W5 (.cells #[.string (⟨#[59]⟩:ByteArray)] 9);rw[HZ5.out] at this;exact this) (by omega)).mono ?_
   rintro e W6 ⟨rfl,q6,g6x⟩
   have g6:=au (dx (aJ W5 (some b)) _) g6x
   clear g6x
   have z6:=g6.size
   have HD6:=jI (ay g6 HD5.out (by omega))
   have f6:=f5.call g6
   have hsn:=hsn.keep ((aR g6).mono fun g hg=>by omega)
   have hrW:W6.heap[w.heap.size]?=some (.cells #[.int .i64 0,.int .i64 0,.string ⟨#[]⟩,.slice none 0 0,.slice none 0 0,.int .i64 0,.string ⟨#[]⟩,.int .i64 0,.slice none 0 0,.slice none 0 0,.string ⟨#[]⟩,.int .i64 0,.string ⟨#[]⟩,.int .i64 0,.slice none 0 0,.slice none 0 0,.int .i64 0,.string ⟨#[]⟩,.int .i64 0,.slice none 0 0,.slice none 0 0,.string ⟨#[]⟩] 35 (0,0)):=(f6.block _ (by omega) (by omega) (by omega)).trans HRz.out
   have HRW:=jI hrW
   clear hrW
   have HE:=jI (decl_eq HLI.out (body_site (x:=4) (d:=.zero li) Hh1.out))
   go_wp2_with (first|(with_reducible refine gy _ rfl (.tmp 3) rfl Wa.heap.size rfl _ HD6.out rfl ?_)|((with_reducible refine bO _ rfl rfl (.tmp 2) (.tmp 102) rfl w.heap.size _ rfl rfl _ HRW.out rfl rfl (by simp[Value.oneCell']) ?_);intro WR hbR hgR))
   refine Aj rfl rfl rfl hbR rfl ?_
   rw[HE.out]
   unfold pSite
   rw[HNS.out,HN2.out]
   have hfr:w.grownBy W6 (some b):=⟨f6.os.trans hfz.os,f6.tape.trans hfz.tape,f6.output.trans hfz.output,cK hfz.size f6.size,fun k hk hne=>(f6.block k (by omega) (fun e=>hne (by rw[e])) (by omega)).trans (hfz.block k hk hne)⟩
   have hsn:=(hsn.keep ((aR hgR).mono fun g hg=>by omega)).mono (S':=(w.heap.size≤·)) (fun g hg _=>by omega) (by decide)
   refine⟨_,rfl,?_,q6.other (below_grown hgR (aP _) (by omega)) hbs,aX hfr (below_grown hgR (aP _) (by omega)) (aP _)⟩
   exact dc_mk (hsn) (hnc) (aO.empty _ _ _ _ _) (aP _) (pX _ _) (pX _ _) (pX _ _)
  ·have Hh1:=jI h1
   have Hh2:=jI h2
   have Hh3:=jI h3
   have Hh4:=jI h4
   have Hh5:=jI h5
   clear HK h1 h2 h3 h4 h5
   go_wp2_with fail
   have ht:=eY (⟨#[115,105,116,101]⟩:ByteArray) wz q0
   rw[Hh1.out,iG Hh1.out] at ht
   refine ht.mono ?_
   clear ht
   rintro e W1 ⟨rfl,q1,g1⟩
   have z1:=g1.size
   have HD1:=jI (ay g1 HD0.out (by omega))
   have f1:=f0.call g1
   go_wp2_with fail
   have ht:=eY (⟨#[102,97,117,108,116,115]⟩:ByteArray) W1 q1
   rw[Hh2.out] at ht
   refine ht.mono ?_
   clear ht
   rintro e W2 ⟨rfl,q2,g2⟩
   have z2:=g2.size
   have HD2:=jI (ay g2 HD1.out (by omega))
   have f2:=f1.call g2
   go_wp2_with fail
   refine (mR W2 q2).mono ?_
   rintro e W3 ⟨rfl,q3,g3⟩
   have z3:=g3.size
   have HD3:=jI (ay g3 HD2.out (by omega))
   have f3:=f2.call g3
   generalize hN3:(bG L (taken L (⟨#[102,97,117,108,116,115]⟩:ByteArray) s)).1=nm at *
   have HN3:=jI hN3
   clear hN3
   obtain⟨a0,-,a2,-,-,-,-,-,-,-,-,-,-,-,-,-,-,-,-,-,-,-,af⟩:=yh HD3.out
   have af0:=af 0
   have af2:=af 2
   clear af
   go_wp2_with fail
   obtain⟨W4,hW4⟩:=kE (((W3.setCell ⟨Wa.heap.size,0,none⟩ (.int .i64 2)).setCell ⟨Wa.heap.size,2,none⟩ (.string nm)))
   have g4:W3.grownBy W4 (some Wa.heap.size):=by rw[hW4];exact aK (aK (aJ _ _) _ _) _ _
   have hD4:W4.heap[Wa.heap.size]?=some (.cells #[.int .i64 2,.int .i64 li,.string nm,.slice none 0 0,.slice none 0 0,.int .i64 0,.string ⟨#[]⟩,.int .i64 0,.slice none 0 0,.slice none 0 0,.string ⟨#[]⟩,.int .i64 0,.string ⟨#[]⟩,.int .i64 0,.slice none 0 0,.slice none 0 0,.int .i64 0,.string ⟨#[]⟩,.int .i64 0,.slice none 0 0,.slice none 0 0,.string ⟨#[]⟩] 35 (0,0)):=by rw[hW4];exact aF (aF (HD3.out) _) _
   have hs4:W4.heap.size=W3.heap.size:=by rw[hW4];simp
   rw[←hW4]
   have z4:W3.heap.size≤W4.heap.size:=by omega
   have HZ4:=jI hs4
   have HD4:=jI hD4
   have q4:=q3.other (below_grown g4 (aP _) (by omega)) (by omega)
   have f4:=f3.set g4
   clear hW4 hD4 hs4 a0 af0 a2 af2
   refine (iN (⟨#[61]⟩:ByteArray) _ (q4.below ((jQ _ _).alloc (aP _) _)) (by have:=jR W4 (.cells #[.string (⟨#[61]⟩:ByteArray)] 9);rw[HZ4.out] at this;exact this) (by omega)).mono ?_
   rintro e W5 ⟨rfl,q5,g5x⟩
   have g5:=au (dx (aJ W4 (some b)) _) g5x
   clear g5x
   have z5:=g5.size
   have HD5:=jI (ay g5 HD4.out (by omega))
   have f5:=f4.call g5
   go_wp2_with fail
   refine (fault_b W5 q5 Hh3.out Hh4.out).mono ?_
   rintro e W6 ⟨op,f1,by_,cr,bA,bn,bc,cA,cn,cc,rfl,hft,q6,g6⟩
   have z6:=g6.size
   have HD6:=jI (ay g6 HD5.out (by omega))
   have f6:=f5.call g6
   have hft:=hft.mono (S':=(wz.heap.size≤·)) (fun g hg _=>by omega)
   obtain⟨-,-,-,-,a4,-,-,-,-,-,-,-,-,-,-,-,-,-,-,-,-,-,af⟩:=yh HD6.out
   have af4:=af 4
   clear af
   have hds:=jS HD6.out
   obtain⟨Wx,hWx⟩:=kE (W6.setCell ⟨Wa.heap.size,4,none⟩ (.slice (some ⟨W6.heap.size,0,none⟩) 1 1))
   have hgx:W6.grownBy Wx (some Wa.heap.size):=by rw[hWx];exact aK (aJ _ _) _ _
   have hsx:Wx.heap.size=W6.heap.size:=by rw[hWx];simp
   have hDx:Wx.heap[Wa.heap.size]?=some (.cells #[.int .i64 2,.int .i64 li,.string nm,.slice none 0 0,.slice (some ⟨W6.heap.size,0,none⟩) 1 1,.int .i64 0,.string ⟨#[]⟩,.int .i64 0,.slice none 0 0,.slice none 0 0,.string ⟨#[]⟩,.int .i64 0,.string ⟨#[]⟩,.int .i64 0,.slice none 0 0,.slice none 0 0,.int .i64 0,.string ⟨#[]⟩,.int .i64 0,.slice none 0 0,.slice none 0 0,.string ⟨#[]⟩] 35 (0,0)):=by rw[hWx];exact aF HD6.out _
   have hfx:=hft.keep ((aR hgx).mono fun g hg=>by omega)
   have Bb:dZ ng (Wx.alloc (.cells #[.int .i64 op,.string f1,.int .i64 by_,.int .i64 cr,.slice bA bn bc,.slice cA cn cc] 68)) (wz.heap.size≤·) wz.heap.size 68 6 (.slice (some ⟨Wx.heap.size,0,none⟩) 1 1) [(kN L 4 (need L (⟨#[61]⟩:ByteArray) (bG L (taken L (⟨#[102,97,117,108,116,115]⟩:ByteArray) s)).2)).1]:=dZ.one Wx Gf rfl rfl (by omega) hfx
   rw[hsx] at Bb
   have hbx:Below Wx.heap.size Wx (Wx.alloc (.cells #[.int .i64 op,.string f1,.int .i64 by_,.int .i64 cr,.slice bA bn bc,.slice cA cn cc] 68)):=(jQ _ _).alloc (aP _) _
   have hxle:W6.heap.size≤Wx.heap.size:=by omega
   have hq0:=(q6.other (below_grown hgx (aP _) (by omega)) (by omega)).below hbx
   have hf0:=(f6.set hgx).from hbx (by omega)
   have hD0:=(hbx.block _ (by omega)).trans hDx
   have HSX:=jI hsx
   have HRow:=jI Bb
   have HDD:=jI hD0
   clear hsx Bb hD0 hft hfx hDx
   have hfew:=q6.few
   go_wp2_with fail
   rw[←hWx]
   clear hWx
   go_loopg [] 0 (fun f wr=>∃fV,PSt b (some ⟨g,o,none⟩) n c L ln (kN L 4 (need L (⟨#[61]⟩:ByteArray) (bG L (taken L (⟨#[102,97,117,108,116,115]⟩:ByteArray) s)).2)).2 wr∧ko b Wa.heap.size wz wr∧Hid (wr.heap[Wa.heap.size]?=some (.cells #[.int .i64 2,.int .i64 li,.string nm,.slice none 0 0,fV,.int .i64 0,.string ⟨#[]⟩,.int .i64 0,.slice none 0 0,.slice none 0 0,.string ⟨#[]⟩,.int .i64 0,.string ⟨#[]⟩,.int .i64 0,.slice none 0 0,.slice none 0 0,.int .i64 0,.string ⟨#[]⟩,.int .i64 0,.slice none 0 0,.slice none 0 0,.string ⟨#[]⟩] 35 (0,0)))∧dZ ng wr (wz.heap.size≤·) wz.heap.size 68 6 fV [(kN L 4 (need L (⟨#[61]⟩:ByteArray) (bG L (taken L (⟨#[102,97,117,108,116,115]⟩:ByteArray) s)).2)).1])
   case atStart=>exact⟨_,hq0,hf0,HDD.out,HRow.out⟩
   case round=>
    obtain⟨fV,hPs,hfr,hDD,hrow⟩:=hrel
    have hsr:=hfr.size
    have ht:=eY (⟨#[124]⟩:ByteArray) wr hPs
    rw[Hh5.out,iG Hh5.out] at ht
    obtain⟨Af,cf,rfl,hcf,hlist0⟩:=hrow.list Gf
    have hfl:FlAt wr (wz.heap.size≤·) Af [(kN L 4 (need L (⟨#[61]⟩:ByteArray) (bG L (taken L (⟨#[102,97,117,108,116,115]⟩:ByteArray) s)).2)).1]:=hlist0
    have HT:=jI ht
    clear ht hPs hlist0 hrow
    go_wp2_with fail
    refine HT.out.mono ?_
    rintro e W20 ⟨rfl,q20,g20⟩
    have z20:=g20.size
    have HD20:=jI (ay g20 hDD.out (by omega))
    have f20:=hfr.call g20
    have hfl:=hfl.keep ((aR g20).mono fun g hg=>by omega)
    clear HT hDD
    go_wp2_with fail
    refine (iN (⟨#[59]⟩:ByteArray) _ (q20.below ((jQ _ _).alloc (aP _) _)) (jR W20 _) (by omega)).mono ?_
    rintro e W21 ⟨rfl,q21,g21x⟩
    have g21:=au (dx (aJ W20 (some b)) _) g21x
    clear g21x
    have z21:=g21.size
    have HD21:=jI (ay g21 HD20.out (by omega))
    have f21:=f20.call g21
    have hfl:=hfl.keep ((aR g21).mono fun g hg=>by omega)
    have hrW:W21.heap[w.heap.size]?=some (.cells #[.int .i64 0,.int .i64 0,.string ⟨#[]⟩,.slice none 0 0,.slice none 0 0,.int .i64 0,.string ⟨#[]⟩,.int .i64 0,.slice none 0 0,.slice none 0 0,.string ⟨#[]⟩,.int .i64 0,.string ⟨#[]⟩,.int .i64 0,.slice none 0 0,.slice none 0 0,.int .i64 0,.string ⟨#[]⟩,.int .i64 0,.slice none 0 0,.slice none 0 0,.string ⟨#[]⟩] 35 (0,0)):=(f21.block _ (by omega) (by omega) (by omega)).trans HRz.out
    have HRW:=jI hrW
    clear hrW
    have HE:=jI (decl_eq HLI.out (FU (x:=4) (d:=.zero li) Hh1.out Hh2.out))
    go_wp2_with (first|(with_reducible refine gy _ rfl (.tmp 3) rfl Wa.heap.size rfl _ HD21.out rfl ?_)|((with_reducible refine bO _ rfl rfl (.tmp 2) (.tmp 102) rfl w.heap.size _ rfl rfl _ HRW.out rfl rfl (by simp[Value.oneCell']) ?_);intro WR hbR hgR))
    refine Aj rfl rfl rfl hbR rfl ?_
    rw[HE.out]
    unfold Ay
    rw[HN3.out,Jg Hh5.out]
    have hfr:w.grownBy W21 (some b):=⟨f21.os.trans hfz.os,f21.tape.trans hfz.tape,f21.output.trans hfz.output,cK hfz.size f21.size,fun k hk hne=>(f21.block k (by omega) (fun e=>hne (by rw[e])) (by omega)).trans (hfz.block k hk hne)⟩
    have hfl:=(hfl.keep ((aR hgR).mono fun g hg=>by omega)).mono (S':=(w.heap.size≤·)) (fun g hg _=>by omega)
    refine⟨_,rfl,?_,q21.other (below_grown hgR (aP _) (by omega)) hbs,aX hfr (below_grown hgR (aP _) (by omega)) (aP _)⟩
    exact dc_mk (ak.empty _ _ _ _) (aP _) (hfl) (hcf) (pX _ _) (pX _ _) (pX _ _)
  ·have Hh1:=jI h1
   have Hh2:=jI h2
   have Hh3:=jI h3
   have Hh4:=jI h4
   have Hh5:=jI h5
   have Hh6:=jI h6
   have Hh7:=jI h7
   clear HK h1 h2 h3 h4 h5 h6 h7
   go_wp2_with fail
   have ht:=eY (⟨#[115,105,116,101]⟩:ByteArray) wz q0
   rw[Hh1.out,iG Hh1.out] at ht
   refine ht.mono ?_
   clear ht
   rintro e W1 ⟨rfl,q1,g1⟩
   have z1:=g1.size
   have HD1:=jI (ay g1 HD0.out (by omega))
   have f1:=f0.call g1
   go_wp2_with fail
   have ht:=eY (⟨#[102,97,117,108,116,115]⟩:ByteArray) W1 q1
   rw[Hh2.out,iG Hh2.out] at ht
   refine ht.mono ?_
   clear ht
   rintro e W2 ⟨rfl,q2,g2⟩
   have z2:=g2.size
   have HD2:=jI (ay g2 HD1.out (by omega))
   have f2:=f1.call g2
   go_wp2_with fail
   have ht:=eY (⟨#[113,117,111,114,117,109]⟩:ByteArray) W2 q2
   rw[Hh3.out,iG Hh3.out] at ht
   refine ht.mono ?_
   clear ht
   rintro e W3 ⟨rfl,q3,g3⟩
   have z3:=g3.size
   have HD3:=jI (ay g3 HD2.out (by omega))
   have f3:=f2.call g3
   go_wp2_with fail
   have ht:=eY (⟨#[99,111,110,102,105,103]⟩:ByteArray) W3 q3
   rw[Hh4.out] at ht
   refine ht.mono ?_
   clear ht
   rintro e W4 ⟨rfl,q4,g4⟩
   have z4:=g4.size
   have HD4:=jI (ay g4 HD3.out (by omega))
   have f4:=f3.call g4
   go_wp2_with fail
   refine (mR W4 q4).mono ?_
   rintro e W5 ⟨rfl,q5,g5⟩
   have z5:=g5.size
   have HD5:=jI (ay g5 HD4.out (by omega))
   have f5:=f4.call g5
   generalize hN5:(bG L (taken L (⟨#[99,111,110,102,105,103]⟩:ByteArray) s)).1=nm at *
   have HN5:=jI hN5
   clear hN5
   obtain⟨a0,-,a2,-,-,-,-,-,-,-,-,-,-,-,-,-,-,-,-,-,-,-,af⟩:=yh HD5.out
   have af0:=af 0
   have af2:=af 2
   clear af
   go_wp2_with fail
   obtain⟨W6,hW6⟩:=kE (((W5.setCell ⟨Wa.heap.size,0,none⟩ (.int .i64 4)).setCell ⟨Wa.heap.size,2,none⟩ (.string nm)))
   have g6:W5.grownBy W6 (some Wa.heap.size):=by rw[hW6];exact aK (aK (aJ _ _) _ _) _ _
   have hD6:W6.heap[Wa.heap.size]?=some (.cells #[.int .i64 4,.int .i64 li,.string nm,.slice none 0 0,.slice none 0 0,.int .i64 0,.string ⟨#[]⟩,.int .i64 0,.slice none 0 0,.slice none 0 0,.string ⟨#[]⟩,.int .i64 0,.string ⟨#[]⟩,.int .i64 0,.slice none 0 0,.slice none 0 0,.int .i64 0,.string ⟨#[]⟩,.int .i64 0,.slice none 0 0,.slice none 0 0,.string ⟨#[]⟩] 35 (0,0)):=by rw[hW6];exact aF (aF (HD5.out) _) _
   have hs6:W6.heap.size=W5.heap.size:=by rw[hW6];simp
   rw[←hW6]
   have z6:W5.heap.size≤W6.heap.size:=by omega
   have HZ6:=jI hs6
   have HD6:=jI hD6
   have q6:=q5.other (below_grown g6 (aP _) (by omega)) (by omega)
   have f6:=f5.set g6
   clear hW6 hD6 hs6 a0 af0 a2 af2
   refine (cfg_t W6 q6 4 li nm HD6.out (by omega) { Dc.zero li with kind:=4,name:=nm } Hh5.out Hh6.out Hh7.out).mono ?_
   rintro e W7 ⟨o2,m2,d2,wA2,wn2,wc2,kA2,kn2,kc2,o3,m3,d3,wA3,wn3,wc3,kA3,kn3,kc3,rfl,hD7,uy,Ba,q7,f7x⟩
   have z7:=f7x.size
   have f7:ko b Wa.heap.size wz W7:=⟨f7x.os.trans f6.os,f7x.tape.trans f6.tape,f7x.output.trans f6.output,cK f6.size f7x.size,fun k hk h1 h2=>(f7x.block k (by have:=f6.size;omega) h1 h2).trans (f6.block k hk h1 h2)⟩
   have uy:=uy.mono (S':=(wz.heap.size≤·)) (fun g hg _=>by omega)
   have Ba:=Ba.mono (S':=(wz.heap.size≤·)) (fun g hg _=>by omega)
   generalize hpr:(pCfg L { Dc.zero li with kind:=4,name:=nm } (bG L (taken L (⟨#[99,111,110,102,105,103]⟩:ByteArray) s)).2).1.proto=pr at *
   generalize hus:(pCfg L { Dc.zero li with kind:=4,name:=nm } (bG L (taken L (⟨#[99,111,110,102,105,103]⟩:ByteArray) s)).2).1.use=us at *
   have HD7:=jI hD7
   have HPR:=jI hpr
   have HUS:=jI hus
   clear hD7 f7x hpr hus
   go_wp2_with fail
   refine (iN (⟨#[59]⟩:ByteArray) _ (q7.below ((jQ _ _).alloc (aP _) _)) (jR W7 _) (by omega)).mono ?_
   rintro e W8 ⟨rfl,q8,g8x⟩
   have g8:=au (dx (aJ W7 (some b)) _) g8x
   clear g8x
   have z8:=g8.size
   have HD8:=jI (ay g8 HD7.out (by omega))
   have f8:=f7.call g8
   have uy:=uy.keep ((aR g8).mono fun g hg=>by omega)
   have Ba:=Ba.keep ((aR g8).mono fun g hg=>by omega)
   have hrW:W8.heap[w.heap.size]?=some (.cells #[.int .i64 0,.int .i64 0,.string ⟨#[]⟩,.slice none 0 0,.slice none 0 0,.int .i64 0,.string ⟨#[]⟩,.int .i64 0,.slice none 0 0,.slice none 0 0,.string ⟨#[]⟩,.int .i64 0,.string ⟨#[]⟩,.int .i64 0,.slice none 0 0,.slice none 0 0,.int .i64 0,.string ⟨#[]⟩,.int .i64 0,.slice none 0 0,.slice none 0 0,.string ⟨#[]⟩] 35 (0,0)):=(f8.block _ (by omega) (by omega) (by omega)).trans HRz.out
   have HRW:=jI hrW
   clear hrW
   have HE:=jI (decl_eq HLI.out (FV (x:=4) (d:=.zero li) Hh1.out Hh2.out Hh3.out Hh4.out))
   go_wp2_with (first|(with_reducible refine gy _ rfl (.tmp 3) rfl Wa.heap.size rfl _ HD8.out rfl ?_)|((with_reducible refine bO _ rfl rfl (.tmp 2) (.tmp 102) rfl w.heap.size _ rfl rfl _ HRW.out rfl rfl (by simp[Value.oneCell']) ?_);intro WR hbR hgR))
   refine Aj rfl rfl rfl hbR rfl ?_
   rw[HE.out]
   unfold EM
   rw[HN5.out]
   have hfr:w.grownBy W8 (some b):=⟨f8.os.trans hfz.os,f8.tape.trans hfz.tape,f8.output.trans hfz.output,cK hfz.size f8.size,fun k hk hne=>(f8.block k (by omega) (fun e=>hne (by rw[e])) (by omega)).trans (hfz.block k hk hne)⟩
   have uy:=(uy.keep ((aR hgR).mono fun g hg=>by omega)).mono (S':=(w.heap.size≤·)) (fun g hg _=>by omega)
   have Ba:=(Ba.keep ((aR hgR).mono fun g hg=>by omega)).mono (S':=(w.heap.size≤·)) (fun g hg _=>by omega)
   refine⟨_,rfl,?_,q8.other (below_grown hgR (aP _) (by omega)) hbs,aX hfr (below_grown hgR (aP _) (by omega)) (aP _)⟩
   have hd:(pCfg L { Dc.zero li with kind:=4,name:=nm } (bG L (taken L (⟨#[99,111,110,102,105,103]⟩:ByteArray) s)).2).1={ Dc.zero li with kind:=4,name:=nm,proto:=pr,read:=(pCfg L { Dc.zero li with kind:=4,name:=nm } (bG L (taken L (⟨#[99,111,110,102,105,103]⟩:ByteArray) s)).2).1.read,write:=(pCfg L { Dc.zero li with kind:=4,name:=nm } (bG L (taken L (⟨#[99,111,110,102,105,103]⟩:ByteArray) s)).2).1.write,use:=us }:=by rw[←HPR.out,←HUS.out];rfl
   rw[hd]
   exact dc_mk (ak.empty _ _ _ _) (aP _) (aO.empty _ _ _ _ _) (aP _) (pX _ _) (uy) (Ba)
end
section
open Go.RowKit
open _root_.Go.Proofs.Tryz
theorem parse_t(s:ByteArray)(w:World)(K:St→Prop)(hn:Calls prog 82 #[.string s] w (tC s.data.toList w))(h0:K ⟨0,psE s.data.toList⟩)
  (hK:∀s',K s'→s'.err=0∧(jW (psL s.data.toList) s'=true→K (uq (psL s.data.toList) 4 s').2∧s'.pos<(uq (psL s.data.toList) 4 s').2.pos∧∀(b:Nat)(A:Option Addr)(n c:Nat)(W:World),PSt b A n c (psL s.data.toList) (Ic s.data.toList) s' W→Calls prog 84 #[.pointer (some ⟨b,0,none⟩)] W (DPost b A n c (psL s.data.toList) (Ic s.data.toList) W (uq (psL s.data.toList) 4 s')))):Calls prog 57 #[.string s] w (PfPost (Aw 4 s.data.toList) w):=by
 rw[Ii]
 generalize hR:vW 4 (psL s.data.toList) (Ic s.data.toList) ⟨0,psE s.data.toList⟩=R
 have HR:=jI hR
 have HKK:=jI hK
 have HK0:=jI h0
 clear hR hK h0
 go_enter func57,ntmps57
 go_wp2_with fail
 refine hn.mono ?_
 rintro e W1 ⟨b,A,n,c,rfl,hbb,hp1,hb1⟩
 generalize psL s.data.toList=L at *
 generalize Ic s.data.toList=ln at *
 generalize hs0:(⟨0,psE s.data.toList⟩:St)=s0 at *
 have hpos0:s0.pos=0:=by rw[←hs0]
 have hs1:=hb1.size
 have hbs:=hp1.lt
 have hfew:=hp1.few
 have HP1:=jI hp1
 have HR2:Hid (jZ L 4 L.length [] s0=jZ L 4 L.length [] s0):=jI rfl
 clear hp1 hs0
 go_wp2
 go_loopg [6] L.length (fun f v wr=>∃acc s',K s'∧Hid (jZ L 4 f acc s'=jZ L 4 L.length [] s0)∧(s'.err=0→L.length≤f+s'.pos)∧acc.length+f≤L.length∧PSt b A n c L ln s' wr∧W1.grownBy wr (some b)∧dZ dS wr (W1.heap.size≤·) W1.heap.size 35 22 v acc)
 case atStart=>exact⟨[],s0,HK0.out,rfl,fun _=>by omega,by simp,HP1.out,aJ _ _,dZ.nil _ _ _ _ _⟩
 case round=>
  obtain⟨acc,s',hks,hgo,hfu,hal,hP,hgr,hrow⟩:=hrel
  have hsr:=hgr.size
  have hm:=AQ wr hP
  cases hmo:jW L s'
  ·rw[hmo] at hm
   rw[tZ hmo] at hgo
   have HM:=jI hm
   have HP:=jI hP
   have hR:=HR.out
   unfold vW at hR
   rw[←hgo.out] at hR
   simp only at hR
   obtain⟨Av,cv,rfl,hcv,hlist⟩:=hrow.list uJ
   have HL:=jI hlist
   obtain⟨l,hl,hln⟩:=hP.blk
   obtain⟨c0,c1,c2,c3,-⟩:=Ez hl
   have hfr:Below w.heap.size w wr:=hb1.trans (below_grown hgr (by omega) (by omega))
   clear hm hmo hP hrow hlist hgo hl
   have he:=(HKK.out s' hks).1
   rw[if_neg (by simpa using he)] at hR
   have hne:((s'.err:Int) != 0)=false:=by simpa using he
   clear hln
   go_wp2_with fail
   refine HM.out.mono ?_
   rintro e W2 ⟨rfl,q,rfl⟩
   go_wp2
   go_ret3
   subst hR
   have hq:Below wr.heap.size wr (wr.drewN q):=below_drewN (jQ _ _) q
   exact⟨_,_,rfl,hcv,((HL.out.keep (P':=dS (wr.drewN q) (W1.heap.size≤·)) (aA hq) (fun _ _ h=>h.keep (aA hq))).mono (fun g hg _=>by omega) (by decide) (fun _ _ h=>h.mono (fun g hg _=>by omega))),below_drewN hfr _⟩
  ·rw[hmo] at hm
   have hok:=qg hmo
   obtain⟨f,rfl⟩:∃f,gk=f+1:=⟨gk-1,by have:=hfu hok.1;omega⟩
   rw[Dx hmo] at hgo
   have HM:=jI hm
   have HP:=jI hP
   have HMO:=jI hmo
   have HOK:=jI hok
   have HFU:=jI hfu
   have HKD:=jI ((HKK.out s' hks).2 hmo)
   clear hm hmo hP hok hfu hks
   go_wp2_with fail
   refine HM.out.mono ?_
   rintro e W2 ⟨rfl,q,rfl⟩
   go_wp2_with fail
   refine (HKD.out.2.2 _ _ _ _ _ (HP.out.drewN q)).mono ?_
   rintro e W3 ⟨v,rfl,hdc,h3,hg3⟩
   obtain⟨nA,nc,fA,fc,o1,m1,d1,wA1,wn1,wc1,kA1,kn1,kc1,o2,m2,d2,wA2,wn2,wc2,kA2,kn2,kc2,o3,m3,d3,wA3,wn3,wc3,kA3,kn3,kc3,hv⟩:=qo hdc
   have hgr3:W1.grownBy W3 (some b):=au (dL hgr q) hg3
   have hs3:=hg3.size
   have hrow3:dZ dS W3 (W1.heap.size≤·) W1.heap.size 35 22 _ acc:=dZ.grown (b:=b) (hrow.keep (w':=wr.drewN q) uJ (aA (below_drewN (jQ _ _) q)) (fun g _=>rfl)) uJ hg3 hbs (fun g hg=>by omega)
   have hdc2:=hdc
   subst hv
   obtain⟨vs,hvl,hown,hvs⟩:=hrow3
   have hbz:W1.heap.size≤W3.heap.size:=hgr3.size
   have hlt:=(qg HMO.out).2
   have hdcx:=hdc2.mono (S':=(wr.heap.size≤·)) (fun g hg _=>hg)
   have hvo:=hown.lt
   go_wp2_with (at_builtin;refine Ck W3 rfl (.tmp 11) (.tmp 14) rfl W1.heap.size _ _ _ hown rfl _ _ _ _ _ _ _ _ _ _ _ _ _ _ _ _ _ _ _ _ _ _ _ _ _ _ _ _ _ _ _ _ _ _ _ _ _ _ rfl (by omega) hbz ?_;intro v' W4 jX hg4 hv4)
   have hb4:=aN hown hg4 hbz
   go_roundg f
   case measure=>omega
   case rel=>
    have Ba:dS W3 (fun g=>W1.heap.size≤g∧some g≠(Value.ownBlock _)) (uq L 4 s').1 _:=hdcx.mono (fun g hg _=>⟨by omega,fun e=>by
     obtain⟨vs0,_,hown0,_⟩:=hrow
     have:=(hown0.lt g e.symm).2
     omega⟩)
    refine⟨acc++[(uq L 4 s').1],_,HKD.out.1,hgo.out,?_,?_,h3.other hb4 hbs,aX hgr3 hb4 (aP _),dZ.push hvl hvs uJ rfl Ba jX hg4 hv4⟩
    ·intro h9
     have h10:=HKD.out.2.1
     have h11:=HFU.out HOK.out.1
     omega
    ·rw[bD];simp;omega
def dm:List UInt8:=[115,105,116,101,32,115,32,123,32,97,44,32,98,44,32,99,32,125,59,32,102,97,117,108,116,115,32,102,32,61,32,116,104,114,101,115,104,111,108,100,32,48,32,49,59,32,99,111,110,102,105,103,32,120,32,99,114,97,115,104,32,114,101,97,100,32,109,97,106,111,114,105,116,121,40,115,41,32,119,114,105,116,101,32,97,108,108,40,115,41,32,102,97,117,108,116,115,32,102,59]
def dp1:Dc:=⟨1,1,bs [115],[bs [97],bs [98],bs [99]],[],.zero,bs [],.zero,.zero,bs []⟩
def dp2:Dc:=⟨2,1,bs [102],[],[⟨2,bs [],0,1,[],[]⟩],.zero,bs [],.zero,.zero,bs []⟩
def dp3:Dc:=⟨4,1,bs [120],[],[],.zero,bs [99,114,97,115,104],.mk 6 (bs [115]) 0 [] [],.mk 7 (bs [115]) 0 [] [],bs [102]⟩
theorem dp_parse:Aw 4 dm=([dp1,dp2,dp3],0,0):=by kernel_rfl
theorem join_no{L:cB}{op:Int}{x:ByteArray}{part:St→Tm × St}{s:St}(h:isW L x (part s).2=false):pJoin L op x part s=part s:=by
 have e:∀f,CP L x part f [(part s).1] (part s).2=([(part s).1],(part s).2):=fun f=>by
  cases f with
  |zero=>rfl
  |succ f=>rw[CP,h];rfl
 unfold pJoin
 rw[e];rfl
theorem dp_tok{b:Nat}{A:Option Addr}{n c:Nat}{ln:Nat→Nat}(p:Nat)(hi:isInt (psL dm) ⟨p,0⟩=false)(hp:isW (psL dm) (⟨#[40]⟩:ByteArray) ⟨p,0⟩=false)(hf:CS (psL dm) ⟨p,0⟩=true)(h5:pq (txt (psL dm) ⟨p,0⟩)≠5)
  (hA:isW (psL dm) (⟨#[38]⟩:ByteArray) (nL (psL dm) (tO (psL dm) (psL dm).length) ⟨p,0⟩).2=false) (hB:isW (psL dm) (⟨#[124]⟩:ByteArray) (nL (psL dm) (tO (psL dm) (psL dm).length) ⟨p,0⟩).2=false):TdOk b A n c (psL dm) ln ⟨p,0⟩:=by
 intro w h
 have e1:pConj (psL dm) (tO (psL dm) (psL dm).length) ⟨p,0⟩=nL (psL dm) (tO (psL dm) (psL dm).length) ⟨p,0⟩:=join_no hA
 have e:nC (psL dm) ⟨p,0⟩=nL (psL dm) (tO (psL dm) (psL dm).length) ⟨p,0⟩:=(join_no (part:=pConj (psL dm) (tO (psL dm) (psL dm).length)) (by rw[e1];exact hB)).trans e1
 rw[e]
 exact term_no w h hA hB (fun W hW=>factor_g _ W hW hi hp hf h5)
theorem parse_dp(w:World):Calls prog 57 #[.string (bs dm)] w (PfPost ([dp1,dp2,dp3],0,0) w):=by
 have hn:=wD (bs dm) w (by rw[jH];exact .of (by kernel_rfl))
 have h:=parse_t (bs dm) w (fun s=>s=⟨0,0⟩∨s=⟨10,0⟩∨s=⟨17,0⟩∨s=⟨33,0⟩)
 rw[jH] at hn
 rw[jH,dp_parse] at h
 refine h hn (.inl (by kernel_rfl)) ?_
 rintro s' (rfl|rfl|rfl|rfl)
 ·exact⟨rfl,fun hm=>⟨.inr (.inl (by kernel_rfl)),of_decide_eq_true (by kernel_rfl),fun b A n c W hW=>decl_t W hW hm (.inl (by kernel_rfl))⟩⟩
 ·exact⟨rfl,fun hm=>⟨.inr (.inr (.inl (by kernel_rfl))),of_decide_eq_true (by kernel_rfl),fun b A n c W hW=>decl_t W hW hm (.inr (.inl ⟨by kernel_rfl,by kernel_rfl,by kernel_rfl,by kernel_rfl,by kernel_rfl⟩))⟩⟩
 ·refine⟨rfl,fun hm=>⟨.inr (.inr (.inr (by kernel_rfl))),of_decide_eq_true (by kernel_rfl),fun b A n c W hW=>decl_t W hW hm (.inr (.inr ⟨by kernel_rfl,by kernel_rfl,by kernel_rfl,by kernel_rfl,by kernel_rfl,?_,?_⟩))⟩⟩
  ·rw[show need (psL dm) (⟨#[114,101,97,100]⟩:ByteArray) (taken (psL dm) (⟨#[99,114,97,115,104]⟩:ByteArray) (bG (psL dm) (taken (psL dm) (⟨#[99,111,110,102,105,103]⟩:ByteArray) ⟨17,0⟩)).2)=⟨21,0⟩ from by kernel_rfl]
   exact dp_tok 21 (by kernel_rfl) (by kernel_rfl) (by kernel_rfl) (of_decide_eq_true (by kernel_rfl)) (by kernel_rfl) (by kernel_rfl)
  ·rw[show need (psL dm) (⟨#[119,114,105,116,101]⟩:ByteArray) (nC (psL dm) (need (psL dm) (⟨#[114,101,97,100]⟩:ByteArray) (taken (psL dm) (⟨#[99,114,97,115,104]⟩:ByteArray) (bG (psL dm) (taken (psL dm) (⟨#[99,111,110,102,105,103]⟩:ByteArray) ⟨17,0⟩)).2))).2=⟨26,0⟩ from by kernel_rfl]
   exact dp_tok 26 (by kernel_rfl) (by kernel_rfl) (by kernel_rfl) (of_decide_eq_true (by kernel_rfl)) (by kernel_rfl) (by kernel_rfl)
 ·exact⟨rfl,fun hm=>absurd hm (by rw[show jW (psL dm) ⟨33,0⟩=false from by kernel_rfl];decide)⟩
end
end Go.Proofs.YtmohibkomlhlaaaGreatDoor
