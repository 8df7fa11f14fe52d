/- The contract of the program's text of a declaration: declText, one theorem a kind. BA by gen_fdecl.py. The bytes of a formatted text: none is a quote or a slash. No condition. The lexer at a text that holds no quote and no slash; the new parser of such a text. The contracts of sized, Format, FormatTerm, Valid. -/
import Derived.Test.YtmohibkomlhlaaaGreatDoorPkFmta
set_option maxRecDepth 100000
set_option maxHeartbeats 8000000
namespace Go.Proofs.YtmohibkomlhlaaaGreatDoor
section
open Go.RowKit
open _root_.Go.Proofs.Tryz
def TLim(d:Dc):Prop:=d.names.length≤1000000000∧d.faults.length≤1200000∧(∀f∈d.faults,f.aI.length+f.aB.length≤1200000)∧ax d.term≤1000000000∧ax d.read≤1000000000∧ax d.write≤1000000000
theorem bd_word24{b:List UInt8}(h:kR b=true):b.length≤24:=by
 obtain⟨c,r,rfl,-,hl,-⟩:=rC h
 exact hl
theorem cat5(a b c d e:List UInt8)(A B C D E:ByteArray)(ha:A=bs a)(hb:B=bs b)(hc:C=bs c)(hd:D=bs d)(he:E=bs e):A++B++C++D++E=bs (a++b++c++d++e):=by rw[ha,hb,hc,hd,he,iL,iL,iL,iL]
theorem Jw(line:Int)(name:ByteArray)(names:List ByteArray)(faults:List Ft)(term:Tm)(proto:ByteArray)(read write:Tm)(use:ByteArray)(nA:Option Addr)(nc:Nat)(fA:Option Addr)(fc:Nat)(o1:Int)(m1:ByteArray)(d1:Int)(wA1:Option Addr)(wn1 wc1:Nat)(kA1:Option Addr)(kn1 kc1:Nat)(o2:Int)(m2:ByteArray)(d2:Int)(wA2:Option Addr)(wn2 wc2:Nat)(kA2:Option Addr)(kn2 kc2:Nat)(o3:Int)(m3:ByteArray)(d3:Int)(wA3:Option Addr)(wn3 wc3:Nat)(kA3:Option Addr)(kn3 kc3:Nat)(w:World)(S:Nat→Prop)(hS:∀g,S g→g<w.heap.size)
  (hnm:name.size≤24) (hs:ak w S 1 nA names.length (names.map Value.string)) (hl:names.length≤nc) (hon:dQ names=true) (hlim:names.length≤1000000000):
  Calls prog 119 #[.agg #[.int .i64 1,.int .i64 line,.string name,.slice nA names.length nc,.slice fA faults.length fc,.int .i64 o1,.string m1,.int .i64 d1,.slice wA1 wn1 wc1,.slice kA1 kn1 kc1,.string proto,.int .i64 o2,.string m2,.int .i64 d2,.slice wA2 wn2 wc2,.slice kA2 kn2 kc2,.int .i64 o3,.string m3,.int .i64 d3,.slice wA3 wn3 wc3,.slice kA3 kn3 kc3,.string use]] w fun e w'=>e=.returned (.string (bs (gB ⟨1,line,name,names,faults,term,proto,read,write,use⟩)))∧Below w.heap.size w w':=by
 have hbA:∀o,Below w.heap.size w (w.alloc o):=fun o=>(jQ _ _).alloc (aP _) o
 have hnb:=gV hon
 obtain⟨TN,hTN⟩:∃T:ByteArray,T=bs (eO names):=⟨_,rfl⟩
 have hTNs:TN.size≤26000000000:=by rw[hTN,fD];omega
 have HN:=jI hs
 have HL:=jI (fun(W:World)(hb:Below w.heap.size w W)=>show Calls prog 134 #[.slice nA names.length nc] W (fun e w'=>e=.returned (.string TN)∧Below W.heap.size W w') by rw[hTN];exact oO names nA nc W S (HN.out.keep (aj hb hS)) (fun g hg=>by have:=hS g hg;have:=hb.size;omega) hl (by omega) (by omega))
 have HTN:=jI hTN
 clear hs hon hnb hTN
 go_enter func119,ntmps119
 go_upto_region 3 with fail
 obtain⟨W0,hW0⟩:=kE (w.alloc (.cells (xX 1 line name nA names.length nc fA faults.length fc o1 m1 d1 wA1 wn1 wc1 kA1 kn1 kc1 proto o2 m2 d2 wA2 wn2 wc2 kA2 kn2 kc2 o3 m3 d3 wA3 wn3 wc3 kA3 kn3 kc3 use) 35))
 have hb0:Below w.heap.size w W0:=by rw[hW0];exact hbA _
 have hs0:w.heap.size<W0.heap.size:=by rw[hW0];simp
 have hr0:W0.heap[w.heap.size]?=some (.cells (xX 1 line name nA names.length nc fA faults.length fc o1 m1 d1 wA1 wn1 wc1 kA1 kn1 kc1 proto o2 m2 d2 wA2 wn2 wc2 kA2 kn2 kc2 o3 m3 d3 wA3 wn3 wc3 kA3 kn3 kc3 use) 35 (0,0)):=by rw[hW0];exact jR w _
 rw[←hW0]
 have HR0:=jI hr0
 clear hW0 hr0
 have ks2:¬(9223372036854775807<5+name.size):=by omega
 have ks3:¬(9223372036854775807<5+name.size+3):=by omega
 have ks4:¬(9223372036854775807<5+name.size+3+TN.size):=by omega
 have ks5:¬(9223372036854775807<5+name.size+3+TN.size+3):=by omega
 have c2:=ah HR0.out 2 _ rfl
 have c3:=ah HR0.out 3 _ rfl
 go_region_held3 (fun w'=>w'.cell? ⟨w.heap.size,2,none⟩=some (.string name)∧w'.cell? ⟨w.heap.size,3,none⟩=some (.slice nA names.length nc)) (first|go_keep|(refine⟨?_,?_⟩<;>(rw[hb2.cell (by simp;omega)];go_keep)))
  (first|(go_at_call 134;(refine (HL.out _ (below_drewN hb0 _)).mono ?_;rintro e w2 ⟨rfl,hb2⟩)))
 all_goals (
  go_wp2
  go_ret
  refine⟨congrArg (fun b=>Ending.returned (.string b)) ?_,(below_drewN hb0 _).trans (hb2.mono (by simp;omega))⟩
  exact cat5 _ _ _ _ _ _ _ _ _ _ rfl (gN name).symm rfl HTN.out rfl)
theorem Js(line:Int)(name:ByteArray)(names:List ByteArray)(faults:List Ft)(term:Tm)(proto:ByteArray)(read write:Tm)(use:ByteArray)(nA:Option Addr)(nc:Nat)(fA:Option Addr)(fc:Nat)(o1:Int)(m1:ByteArray)(d1:Int)(wA1:Option Addr)(wn1 wc1:Nat)(kA1:Option Addr)(kn1 kc1:Nat)(o2:Int)(m2:ByteArray)(d2:Int)(wA2:Option Addr)(wn2 wc2:Nat)(kA2:Option Addr)(kn2 kc2:Nat)(o3:Int)(m3:ByteArray)(d3:Int)(wA3:Option Addr)(wn3 wc3:Nat)(kA3:Option Addr)(kn3 kc3:Nat)(w:World)(S:Nat→Prop)(hS:∀g,S g→g<w.heap.size)
  (hs:ak w S 1 nA names.length (names.map Value.string)) (hl:names.length≤nc) (hon:dQ names=true) (hlim:names.length≤1000000000):
  Calls prog 119 #[.agg #[.int .i64 5,.int .i64 line,.string name,.slice nA names.length nc,.slice fA faults.length fc,.int .i64 o1,.string m1,.int .i64 d1,.slice wA1 wn1 wc1,.slice kA1 kn1 kc1,.string proto,.int .i64 o2,.string m2,.int .i64 d2,.slice wA2 wn2 wc2,.slice kA2 kn2 kc2,.int .i64 o3,.string m3,.int .i64 d3,.slice wA3 wn3 wc3,.slice kA3 kn3 kc3,.string use]] w fun e w'=>e=.returned (.string (bs (gB ⟨5,line,name,names,faults,term,proto,read,write,use⟩)))∧Below w.heap.size w w':=by
 have hbA:∀o,Below w.heap.size w (w.alloc o):=fun o=>(jQ _ _).alloc (aP _) o
 have hnb:=gV hon
 obtain⟨TN,hTN⟩:∃T:ByteArray,T=bs (eO names):=⟨_,rfl⟩
 have hTNs:TN.size≤26000000000:=by rw[hTN,fD];omega
 have HN:=jI hs
 have HL:=jI (fun(W:World)(hb:Below w.heap.size w W)=>show Calls prog 134 #[.slice nA names.length nc] W (fun e w'=>e=.returned (.string TN)∧Below W.heap.size W w') by rw[hTN];exact oO names nA nc W S (HN.out.keep (aj hb hS)) (fun g hg=>by have:=hS g hg;have:=hb.size;omega) hl (by omega) (by omega))
 have HTN:=jI hTN
 clear hs hon hnb hTN
 go_enter func119,ntmps119
 go_wp2_with fail
 refine (HL.out _ (hbA _)).mono ?_
 rintro e w2 ⟨rfl,hb2⟩
 go_wp2
 go_ret
 refine⟨congrArg (fun b=>Ending.returned (.string b)) ?_,(hbA _).trans (hb2.mono (by simp))⟩
 exact JK _ _ _ _ _ _ rfl HTN.out rfl
theorem Jq(line:Int)(name:ByteArray)(names:List ByteArray)(faults:List Ft)(term:Tm)(proto:ByteArray)(read write:Tm)(use:ByteArray)(nA:Option Addr)(nc:Nat)(fA:Option Addr)(fc:Nat)(o1:Int)(m1:ByteArray)(d1:Int)(wA1:Option Addr)(wn1 wc1:Nat)(kA1:Option Addr)(kn1 kc1:Nat)(o2:Int)(m2:ByteArray)(d2:Int)(wA2:Option Addr)(wn2 wc2:Nat)(kA2:Option Addr)(kn2 kc2:Nat)(o3:Int)(m3:ByteArray)(d3:Int)(wA3:Option Addr)(wn3 wc3:Nat)(kA3:Option Addr)(kn3 kc3:Nat)(w:World)(S:Nat→Prop)(hS:∀g,S g→g<w.heap.size)
  (hs:ak w S 1 nA names.length (names.map Value.string)) (hl:names.length≤nc) (hon:dQ names=true) (hlim:names.length≤1000000000):
  Calls prog 119 #[.agg #[.int .i64 7,.int .i64 line,.string name,.slice nA names.length nc,.slice fA faults.length fc,.int .i64 o1,.string m1,.int .i64 d1,.slice wA1 wn1 wc1,.slice kA1 kn1 kc1,.string proto,.int .i64 o2,.string m2,.int .i64 d2,.slice wA2 wn2 wc2,.slice kA2 kn2 kc2,.int .i64 o3,.string m3,.int .i64 d3,.slice wA3 wn3 wc3,.slice kA3 kn3 kc3,.string use]] w fun e w'=>e=.returned (.string (bs (gB ⟨7,line,name,names,faults,term,proto,read,write,use⟩)))∧Below w.heap.size w w':=by
 have hbA:∀o,Below w.heap.size w (w.alloc o):=fun o=>(jQ _ _).alloc (aP _) o
 have hnb:=gV hon
 obtain⟨TN,hTN⟩:∃T:ByteArray,T=bs (eO names):=⟨_,rfl⟩
 have hTNs:TN.size≤26000000000:=by rw[hTN,fD];omega
 have HN:=jI hs
 have HL:=jI (fun(W:World)(hb:Below w.heap.size w W)=>show Calls prog 134 #[.slice nA names.length nc] W (fun e w'=>e=.returned (.string TN)∧Below W.heap.size W w') by rw[hTN];exact oO names nA nc W S (HN.out.keep (aj hb hS)) (fun g hg=>by have:=hS g hg;have:=hb.size;omega) hl (by omega) (by omega))
 have HTN:=jI hTN
 clear hs hon hnb hTN
 go_enter func119,ntmps119
 go_wp2_with fail
 refine (HL.out _ (hbA _)).mono ?_
 rintro e w2 ⟨rfl,hb2⟩
 go_wp2
 go_ret
 refine⟨congrArg (fun b=>Ending.returned (.string b)) ?_,(hbA _).trans (hb2.mono (by simp))⟩
 exact JK _ _ _ _ _ _ rfl HTN.out rfl
theorem Ju(line:Int)(name:ByteArray)(names:List ByteArray)(faults:List Ft)(term:Tm)(proto:ByteArray)(read write:Tm)(use:ByteArray)(nA:Option Addr)(nc:Nat)(fA:Option Addr)(fc:Nat)(o1:Int)(m1:ByteArray)(d1:Int)(wA1:Option Addr)(wn1 wc1:Nat)(kA1:Option Addr)(kn1 kc1:Nat)(o2:Int)(m2:ByteArray)(d2:Int)(wA2:Option Addr)(wn2 wc2:Nat)(kA2:Option Addr)(kn2 kc2:Nat)(o3:Int)(m3:ByteArray)(d3:Int)(wA3:Option Addr)(wn3 wc3:Nat)(kA3:Option Addr)(kn3 kc3:Nat)(w:World)(S:Nat→Prop)(hS:∀g,S g→g<w.heap.size)
  (hnm:name.size≤24) (hv1:dX w S term (.agg #[.int .i64 o1,.string m1,.int .i64 d1,.slice wA1 wn1 wc1,.slice kA1 kn1 kc1])) (hok1:lT term=true) (hlim1:ax term≤1000000000) (hpw:Pow w):
  Calls prog 119 #[.agg #[.int .i64 3,.int .i64 line,.string name,.slice nA names.length nc,.slice fA faults.length fc,.int .i64 o1,.string m1,.int .i64 d1,.slice wA1 wn1 wc1,.slice kA1 kn1 kc1,.string proto,.int .i64 o2,.string m2,.int .i64 d2,.slice wA2 wn2 wc2,.slice kA2 kn2 kc2,.int .i64 o3,.string m3,.int .i64 d3,.slice wA3 wn3 wc3,.slice kA3 kn3 kc3,.string use]] w fun e w'=>e=.returned (.string (bs (gB ⟨3,line,name,names,faults,term,proto,read,write,use⟩)))∧Below w.heap.size w w':=by
 have hbA:∀o,Below w.heap.size w (w.alloc o):=fun o=>(jQ _ _).alloc (aP _) o
 have htl1:=gT hok1
 obtain⟨T1,hT1⟩:∃T:ByteArray,T=bs (aS term):=⟨_,rfl⟩
 have hTs1:T1.size≤48000000000:=by rw[hT1,fD];omega
 have HV1:=jI hv1
 have HT1:=jI (fun(W:World)(hb:Below w.heap.size w W)=>show Calls prog 95 #[.agg #[.int .i64 o1,.string m1,.int .i64 d1,.slice wA1 wn1 wc1,.slice kA1 kn1 kc1]] W (fun e w'=>e=.returned (.string T1)∧Below W.heap.size W w') by rw[hT1];exact lm term _ W S (HV1.out.keep (aj hb hS)) (fun g hg=>by have:=hS g hg;have:=hb.size;omega) hok1 hlim1 (hpw.below hb))
 have HE1:=jI hT1
 clear hv1 htl1 hT1
 go_enter func119,ntmps119
 go_upto_region 13 with fail
 obtain⟨W0,hW0⟩:=kE (w.alloc (.cells (xX 3 line name nA names.length nc fA faults.length fc o1 m1 d1 wA1 wn1 wc1 kA1 kn1 kc1 proto o2 m2 d2 wA2 wn2 wc2 kA2 kn2 kc2 o3 m3 d3 wA3 wn3 wc3 kA3 kn3 kc3 use) 35))
 have hb0:Below w.heap.size w W0:=by rw[hW0];exact hbA _
 have hs0:w.heap.size<W0.heap.size:=by rw[hW0];simp
 have hr0:W0.heap[w.heap.size]?=some (.cells (xX 3 line name nA names.length nc fA faults.length fc o1 m1 d1 wA1 wn1 wc1 kA1 kn1 kc1 proto o2 m2 d2 wA2 wn2 wc2 kA2 kn2 kc2 o3 m3 d3 wA3 wn3 wc3 kA3 kn3 kc3 use) 35 (0,0)):=by rw[hW0];exact jR w _
 rw[←hW0]
 have HR0:=jI hr0
 clear hW0 hr0
 have ks2:¬(9223372036854775807<7+name.size):=by omega
 have ks3:¬(9223372036854775807<7+name.size+3):=by omega
 have ks4:¬(9223372036854775807<7+name.size+3+T1.size):=by omega
 have ks5:¬(9223372036854775807<7+name.size+3+T1.size+1):=by omega
 have c2:=ah HR0.out 2 _ rfl
 have c5:=ah HR0.out 5 _ rfl
 have c6:=ah HR0.out 6 _ rfl
 have c7:=ah HR0.out 7 _ rfl
 have c8:=ah HR0.out 8 _ rfl
 have c9:=ah HR0.out 9 _ rfl
 go_region_held3 (fun w'=>w'.cell? ⟨w.heap.size,2,none⟩=some (.string name)∧w'.cell? ⟨w.heap.size,5,none⟩=some (.int .i64 o1)∧w'.cell? ⟨w.heap.size,6,none⟩=some (.string m1)∧w'.cell? ⟨w.heap.size,7,none⟩=some (.int .i64 d1)∧w'.cell? ⟨w.heap.size,8,none⟩=some (.slice wA1 wn1 wc1)∧w'.cell? ⟨w.heap.size,9,none⟩=some (.slice kA1 kn1 kc1)) (first|go_keep|(refine⟨?_,?_,?_,?_,?_,?_⟩<;>(rw[hb2.cell (by simp;omega)];go_keep)))
  (first|(go_at_call 95;(refine (HT1.out _ (below_drewN hb0 _)).mono ?_;rintro e w2 ⟨rfl,hb2⟩)))
 all_goals (
  go_wp2
  go_ret
  refine⟨congrArg (fun b=>Ending.returned (.string b)) ?_,(below_drewN hb0 _).trans (hb2.mono (by simp;omega))⟩
  exact cat5 _ _ _ _ _ _ _ _ _ _ rfl (gN name).symm rfl HE1.out rfl)
theorem Jr(line:Int)(name:ByteArray)(names:List ByteArray)(faults:List Ft)(term:Tm)(proto:ByteArray)(read write:Tm)(use:ByteArray)(nA:Option Addr)(nc:Nat)(fA:Option Addr)(fc:Nat)(o1:Int)(m1:ByteArray)(d1:Int)(wA1:Option Addr)(wn1 wc1:Nat)(kA1:Option Addr)(kn1 kc1:Nat)(o2:Int)(m2:ByteArray)(d2:Int)(wA2:Option Addr)(wn2 wc2:Nat)(kA2:Option Addr)(kn2 kc2:Nat)(o3:Int)(m3:ByteArray)(d3:Int)(wA3:Option Addr)(wn3 wc3:Nat)(kA3:Option Addr)(kn3 kc3:Nat)(w:World)(S:Nat→Prop)(_hS:∀g,S g→g<w.heap.size)
  (hnm:name.size≤24) (hus:use.size≤24):
  Calls prog 119 #[.agg #[.int .i64 6,.int .i64 line,.string name,.slice nA names.length nc,.slice fA faults.length fc,.int .i64 o1,.string m1,.int .i64 d1,.slice wA1 wn1 wc1,.slice kA1 kn1 kc1,.string proto,.int .i64 o2,.string m2,.int .i64 d2,.slice wA2 wn2 wc2,.slice kA2 kn2 kc2,.int .i64 o3,.string m3,.int .i64 d3,.slice wA3 wn3 wc3,.slice kA3 kn3 kc3,.string use]] w fun e w'=>e=.returned (.string (bs (gB ⟨6,line,name,names,faults,term,proto,read,write,use⟩)))∧Below w.heap.size w w':=by
 have hbA:∀o,Below w.heap.size w (w.alloc o):=fun o=>(jQ _ _).alloc (aP _) o
 by_cases zu:use.size=0
 ·obtain rfl:=vL zu
  clear zu hus
  go_enter func119,ntmps119
  go_wp2
  go_ret
  refine⟨congrArg (fun b=>Ending.returned (.string b)) ?_,hbA _⟩
  exact JK _ _ _ _ _ _ rfl (gN name).symm rfl
 ·have hpu:0<use.size:=by omega
  have hnu2:=gP hpu
  have hnu:=dK hpu
  have E:=jI (show gB ⟨6,line,name,names,faults,term,proto,read,write,use⟩=[99,108,105,101,110,116,32]++name.data.toList++[32,102,97,117,108,116,115,32]++use.data.toList++[59] by
   exact if_neg zu)
  clear zu
  go_enter func119,ntmps119
  go_wp2
  go_ret
  refine⟨congrArg (fun b=>Ending.returned (.string b)) ?_,hbA _⟩
  rw[E.out]
  exact cat5 _ _ _ _ _ _ _ _ _ _ rfl (gN name).symm rfl (gN use).symm rfl
theorem text_cfg(line:Int)(name:ByteArray)(names:List ByteArray)(faults:List Ft)(term:Tm)(proto:ByteArray)(read write:Tm)(use:ByteArray)(T2 T3:ByteArray)(h2:T2=bs (aS read))(h3:T3=bs (aS write)):
  (⟨#[99,111,110,102,105,103,32]⟩:ByteArray)++name++(⟨#[32]⟩:ByteArray)++proto++(⟨#[32,114,101,97,100,32]⟩:ByteArray)++T2++(⟨#[32,119,114,105,116,101,32]⟩:ByteArray)++T3++(⟨#[32,102,97,117,108,116,115,32]⟩:ByteArray)++use++(⟨#[59]⟩:ByteArray)=bs (gB ⟨4,line,name,names,faults,term,proto,read,write,use⟩):=by
 have e:gB ⟨4,line,name,names,faults,term,proto,read,write,use⟩=[99,111,110,102,105,103,32]++name.data.toList++[32]++proto.data.toList++[32,114,101,97,100,32]++aS read++[32,119,114,105,116,101,32]++aS write++[32,102,97,117,108,116,115,32]++use.data.toList++[59]:=rfl
 rw[e]
 refine cat2 _ _ _ _ (cat5 _ _ _ _ _ _ _ _ _ _ (cat5 _ _ _ _ _ _ _ _ _ _ (cat2 _ _ _ _ rfl (gN name).symm) rfl (gN proto).symm rfl h2) rfl h3 rfl (gN use).symm) rfl
theorem Jt(line:Int)(name:ByteArray)(names:List ByteArray)(faults:List Ft)(term:Tm)(proto:ByteArray)(read write:Tm)(use:ByteArray)(nA:Option Addr)(nc:Nat)(fA:Option Addr)(fc:Nat)(o1:Int)(m1:ByteArray)(d1:Int)(wA1:Option Addr)(wn1 wc1:Nat)(kA1:Option Addr)(kn1 kc1:Nat)(o2:Int)(m2:ByteArray)(d2:Int)(wA2:Option Addr)(wn2 wc2:Nat)(kA2:Option Addr)(kn2 kc2:Nat)(o3:Int)(m3:ByteArray)(d3:Int)(wA3:Option Addr)(wn3 wc3:Nat)(kA3:Option Addr)(kn3 kc3:Nat)(w:World)(S:Nat→Prop)(hS:∀g,S g→g<w.heap.size)
  (hnm:name.size≤24) (hpr:proto.size≤24) (hus:use.size≤24) (hv2:dX w S read (.agg #[.int .i64 o2,.string m2,.int .i64 d2,.slice wA2 wn2 wc2,.slice kA2 kn2 kc2])) (hok2:lT read=true) (CZ:ax read≤1000000000) (hv3:dX w S write (.agg #[.int .i64 o3,.string m3,.int .i64 d3,.slice wA3 wn3 wc3,.slice kA3 kn3 kc3])) (hok3:lT write=true) (hlim3:ax write≤1000000000) (hpw:Pow w):
  Calls prog 119 #[.agg #[.int .i64 4,.int .i64 line,.string name,.slice nA names.length nc,.slice fA faults.length fc,.int .i64 o1,.string m1,.int .i64 d1,.slice wA1 wn1 wc1,.slice kA1 kn1 kc1,.string proto,.int .i64 o2,.string m2,.int .i64 d2,.slice wA2 wn2 wc2,.slice kA2 kn2 kc2,.int .i64 o3,.string m3,.int .i64 d3,.slice wA3 wn3 wc3,.slice kA3 kn3 kc3,.string use]] w fun e w'=>e=.returned (.string (bs (gB ⟨4,line,name,names,faults,term,proto,read,write,use⟩)))∧Below w.heap.size w w':=by
 have hbA:∀o,Below w.heap.size w (w.alloc o):=fun o=>(jQ _ _).alloc (aP _) o
 have htl2:=gT hok2
 obtain⟨T2,hT2⟩:∃T:ByteArray,T=bs (aS read):=⟨_,rfl⟩
 have hTs2:T2.size≤48000000000:=by rw[hT2,fD];omega
 have HV2:=jI hv2
 have HT2:=jI (fun(W:World)(hb:Below w.heap.size w W)=>show Calls prog 95 #[.agg #[.int .i64 o2,.string m2,.int .i64 d2,.slice wA2 wn2 wc2,.slice kA2 kn2 kc2]] W (fun e w'=>e=.returned (.string T2)∧Below W.heap.size W w') by rw[hT2];exact lm read _ W S (HV2.out.keep (aj hb hS)) (fun g hg=>by have:=hS g hg;have:=hb.size;omega) hok2 CZ (hpw.below hb))
 have HE2:=jI hT2
 clear hv2 htl2 hT2
 have htl3:=gT hok3
 obtain⟨T3,hT3⟩:∃T:ByteArray,T=bs (aS write):=⟨_,rfl⟩
 have hTs3:T3.size≤48000000000:=by rw[hT3,fD];omega
 have HV3:=jI hv3
 have HT3:=jI (fun(W:World)(hb:Below w.heap.size w W)=>show Calls prog 95 #[.agg #[.int .i64 o3,.string m3,.int .i64 d3,.slice wA3 wn3 wc3,.slice kA3 kn3 kc3]] W (fun e w'=>e=.returned (.string T3)∧Below W.heap.size W w') by rw[hT3];exact lm write _ W S (HV3.out.keep (aj hb hS)) (fun g hg=>by have:=hS g hg;have:=hb.size;omega) hok3 hlim3 (hpw.below hb))
 have HE3:=jI hT3
 clear hv3 htl3 hT3
 have E:=jI (text_cfg line name names faults term proto read write use T2 T3 HE2.out HE3.out)
 go_enter func119,ntmps119
 go_upto_region 15 with fail
 obtain⟨W0,hW0⟩:=kE (w.alloc (.cells (xX 4 line name nA names.length nc fA faults.length fc o1 m1 d1 wA1 wn1 wc1 kA1 kn1 kc1 proto o2 m2 d2 wA2 wn2 wc2 kA2 kn2 kc2 o3 m3 d3 wA3 wn3 wc3 kA3 kn3 kc3 use) 35))
 have hb0:Below w.heap.size w W0:=by rw[hW0];exact hbA _
 have hs0:w.heap.size<W0.heap.size:=by rw[hW0];simp
 have hr0:W0.heap[w.heap.size]?=some (.cells (xX 4 line name nA names.length nc fA faults.length fc o1 m1 d1 wA1 wn1 wc1 kA1 kn1 kc1 proto o2 m2 d2 wA2 wn2 wc2 kA2 kn2 kc2 o3 m3 d3 wA3 wn3 wc3 kA3 kn3 kc3 use) 35 (0,0)):=by rw[hW0];exact jR w _
 rw[←hW0]
 have HR0:=jI hr0
 clear hW0 hr0
 have ks2:¬(9223372036854775807<7+name.size):=by omega
 have ks3:¬(9223372036854775807<7+name.size+1):=by omega
 have ks4:¬(9223372036854775807<7+name.size+1+proto.size):=by omega
 have ks5:¬(9223372036854775807<7+name.size+1+proto.size+6):=by omega
 have ks6:¬(9223372036854775807<7+name.size+1+proto.size+6+T2.size):=by omega
 have ks7:¬(9223372036854775807<7+name.size+1+proto.size+6+T2.size+7):=by omega
 have ks8:¬(9223372036854775807<7+name.size+1+proto.size+6+T2.size+7+T3.size):=by omega
 have ks9:¬(9223372036854775807<7+name.size+1+proto.size+6+T2.size+7+T3.size+8):=by omega
 have ks10:¬(9223372036854775807<7+name.size+1+proto.size+6+T2.size+7+T3.size+8+use.size):=by omega
 have ks11:¬(9223372036854775807<7+name.size+1+proto.size+6+T2.size+7+T3.size+8+use.size+1):=by omega
 refine av.start (fun w'=>Below W0.heap.size W0 w') [] [0,1,2,3,4,5,6,7,8,9,13,14,18,19,10,11,12,15,16,17,20,21,22] (by kernel_rfl) (jQ _ _).drew (fun bx=>?_)
 repeat
  first
  |refine av.take (v:=?_) rfl (by decide +kernel) (by rfl) (fun _ _ _ h=>h) bx ?_ ?_
   rotate_left
   focus
    intro w9 h9
    have r9:=(h9.block _ hs0).trans HR0.out
    have z2:=ah r9 2 _ rfl;have z10:=ah r9 10 _ rfl;have z11:=ah r9 11 _ rfl;have z12:=ah r9 12 _ rfl;have z13:=ah r9 13 _ rfl;have z14:=ah r9 14 _ rfl;have z15:=ah r9 15 _ rfl;have z16:=ah r9 16 _ rfl;have z17:=ah r9 17 _ rfl;have z18:=ah r9 18 _ rfl;have z19:=ah r9 19 _ rfl;have z20:=ah r9 20 _ rfl;have z21:=ah r9 21 _ rfl
    go_simp
    (try with_reducible rfl)
    done
  |refine av.call rfl (by decide +kernel) (by rfl) (fun K hK=>?_)
   go_simp
   go_at_call 95
   first
   |(with_reducible refine (HT2.out _ (hb0.trans (bx.mono hb0.size))).mono ?_);rintro e w2 ⟨rfl,hb2⟩
   |(with_reducible refine (HT3.out _ (hb0.trans (bx.mono hb0.size))).mono ?_);rintro e w2 ⟨rfl,hb2⟩
   have bx:=bx.trans (hb2.mono bx.size)
   try go_simp
   refine hK.out _ _ (fun _=>bx) ?_
   clear hK K
  try simp only[Act.put,List.getElem_toArray,List.getElem_cons_succ,List.getElem_cons_zero,List.setIfInBounds_toArray,List.set_cons_zero,List.set_cons_succ]
 refine av.done (by decide +kernel) ?_
 go_wp2
 go_ret
 exact⟨congrArg (fun b=>Ending.returned (.string b)) E.out,hb0.trans (bx.mono hb0.size)⟩
def mX(l:List Ft):List ByteArray:=l.map fun f=>bs (gW f)
theorem Dg(l:List Ft)(k:Nat)(h:k<l.length):mX (l.take (k+1))=mX (l.take k)++[bs (gW l[k])]:=by
 unfold mX;rw[cO h,List.map_append];rfl
theorem pJ(l:List Ft)(sep:List UInt8):joined (mX l) sep=Lib.join (l.map gW) sep:=by
 unfold joined mX lst
 rw[List.map_map]
 congr 1
theorem ft_lens(l:List Ft)(h:∀f∈l,(gW f).length≤33000000):Lib.lens (l.map gW)≤33000000 * l.length:=by
 induction l with
 |nil=>simp[Lib.lens]
 |cons f r ih=>
  have a:=h f (by simp)
  have b:=ih (fun q hq=>h q (by simp[hq]))
  rw[List.map_cons,lens_cons,fM];omega
theorem Dp{w:World}{S:Nat→Prop}{A:Option Addr}{l:List Ft}(h:aO (ng w S) w S 6 A l){i:Nat}(hi:i<l.length):
  ∃g o op nm x y bA bn bc cA cn cc,A=some ⟨g,o,none⟩∧S g∧ng w S l[i] (.agg #[.int .i64 op,.string nm,.int .i64 x,.int .i64 y,.slice bA bn bc,.slice cA cn cc])∧w.cell? ⟨g,o+i * 6,none⟩=some (.int .i64 op)∧w.cell? ⟨g,o+i * 6+1,none⟩=some (.string nm)∧
   w.cell? ⟨g,o+i * 6+2,none⟩=some (.int .i64 x)∧w.cell? ⟨g,o+i * 6+3,none⟩=some (.int .i64 y)∧w.cell? ⟨g,o+i * 6+4,none⟩=some (.slice bA bn bc)∧w.cell? ⟨g,o+i * 6+5,none⟩=some (.slice cA cn cc):=by
 obtain⟨g,o,v,hA,hS,hp,hc⟩:=dB (fun x v h=>by obtain⟨bA,bc,cA,cc,rfl,-⟩:=h;rfl) h hi
 have hp2:=hp
 obtain⟨bA,bc,cA,cc,rfl,-⟩:=hp
 exact⟨g,o,_,_,_,_,_,_,_,_,_,_,hA,hS,hp2,hc 0 _ rfl,hc 1 _ rfl,hc 2 _ rfl,hc 3 _ rfl,hc 4 _ rfl,hc 5 _ rfl⟩
theorem Jv(line:Int)(name:ByteArray)(names:List ByteArray)(faults:List Ft)(term:Tm)(proto:ByteArray)(read write:Tm)(use:ByteArray)(nA:Option Addr)(nc:Nat)(fA:Option Addr)(fc:Nat)(o1:Int)(m1:ByteArray)(d1:Int)(wA1:Option Addr)(wn1 wc1:Nat)(kA1:Option Addr)(kn1 kc1:Nat)(o2:Int)(m2:ByteArray)(d2:Int)(wA2:Option Addr)(wn2 wc2:Nat)(kA2:Option Addr)(kn2 kc2:Nat)(o3:Int)(m3:ByteArray)(d3:Int)(wA3:Option Addr)(wn3 wc3:Nat)(kA3:Option Addr)(kn3 kc3:Nat)(w:World)(S:Nat→Prop)(hS:∀g,S g→g<w.heap.size)
  (hnm:name.size≤24) (hf:aO (ng w S) w S 6 fA faults) (hof:faults.all pG=true) (hlf:faults.length≤1200000) (hln:∀f∈faults,f.aI.length+f.aB.length≤1200000) (hpw:Pow w):
  Calls prog 119 #[.agg #[.int .i64 2,.int .i64 line,.string name,.slice nA names.length nc,.slice fA faults.length fc,.int .i64 o1,.string m1,.int .i64 d1,.slice wA1 wn1 wc1,.slice kA1 kn1 kc1,.string proto,.int .i64 o2,.string m2,.int .i64 d2,.slice wA2 wn2 wc2,.slice kA2 kn2 kc2,.int .i64 o3,.string m3,.int .i64 d3,.slice wA3 wn3 wc3,.slice kA3 kn3 kc3,.string use]] w fun e w'=>e=.returned (.string (bs (gB ⟨2,line,name,names,faults,term,proto,read,write,use⟩)))∧Below w.heap.size w w':=by
 have hbA:∀o,Below w.heap.size w (w.alloc o):=fun o=>(jQ _ _).alloc (aP _) o
 have HF:=jI hf
 have HOF:=jI (List.all_eq_true.1 hof)
 have HLN:=jI hln
 have HP:=jI hpw
 clear hf hof hln hpw
 go_enter func119,ntmps119
 go_upto_region 7 with fail
 obtain⟨W0,hW0⟩:=kE (w.alloc (.cells (xX 2 line name nA names.length nc fA faults.length fc o1 m1 d1 wA1 wn1 wc1 kA1 kn1 kc1 proto o2 m2 d2 wA2 wn2 wc2 kA2 kn2 kc2 o3 m3 d3 wA3 wn3 wc3 kA3 kn3 kc3 use) 35))
 have hb0:Below w.heap.size w W0:=by rw[hW0];exact hbA _
 have hs0:w.heap.size<W0.heap.size:=by rw[hW0];simp
 have hr0:W0.heap[w.heap.size]?=some (.cells (xX 2 line name nA names.length nc fA faults.length fc o1 m1 d1 wA1 wn1 wc1 kA1 kn1 kc1 proto o2 m2 d2 wA2 wn2 wc2 kA2 kn2 kc2 o3 m3 d3 wA3 wn3 wc3 kA3 kn3 kc3 use) 35 (0,0)):=by rw[hW0];exact jR w _
 rw[←hW0]
 have HR0:=jI hr0
 clear hW0 hr0
 have c4:=ah HR0.out 4 _ rfl
 go_wp2
 go_loopw [3,24] (fun v x wr=>∃k:Nat,k≤faults.length∧x=.int .i64 k∧wr.ownsRow W0.heap.size 9 1 v k (aC (mX (faults.take k)))∧Below W0.heap.size W0 wr) (fun _ x _=>faults.length-(intOf x).toNat)
 case atStart=>exact⟨0,cu _,rfl,World.ownsRow_nil _ _ _ _,jQ _ _⟩
 case round=>
  obtain⟨k,hk,rfl,hown,hb⟩:=hrel
  have hsr:=hb.size
  have hbw:Below w.heap.size w wr:=hb0.trans (hb.mono (dF hs0))
  have hrr:=(hb.block _ hs0).trans HR0.out
  by_cases hlt:k<faults.length
  ·have hfr:=HF.out.keep (P':=ng wr S) (aj hbw hS) (fun _ _ h=>h.keep (aj hbw hS))
   obtain⟨g,o,op,fn,x,y,bA,bn,bc,cA,cn,cc,rfl,hSg,hft,k0,k1,k2,k3,k4,k5⟩:=Dp hfr hlt
   have hgs:g<wr.heap.size:=by have:=hS g hSg;have:=hbw.size;omega
   have hkI:(k:Int)<(faults.length:Int):=by omega
   have hk0:(0:Int)≤(k:Int):=by omega
   obtain⟨t,ht⟩:=kE (faults[k])
   have hmem:t∈faults:=by rw[ht];exact bQ hlt
   rw[←ht] at hft
   have HTX:=jI ht
   have hl1:=rJ (HOF.out t hmem)
   have hl2:=HLN.out t hmem
   have hbA:∀o,Below wr.heap.size wr (wr.alloc o):=fun o=>(jQ _ _).alloc (aP _) o
   have HC:=jI (fun o=>Bg t _ (wr.alloc o) S (hft.keep (aA (hbA o))) (fun g hg=>by have:=hS g hg;have:=hbw.size;simp;omega) (HOF.out t hmem) (by omega) ((HP.out.below hbw).below (hbA o)))
   obtain⟨T,hTT⟩:∃T:ByteArray,T=bs (gW t):=⟨_,rfl⟩
   have hTs:T.size≤33000000:=by rw[hTT,fD];omega
   have HTT:=jI hTT
   clear ht hft hfr hTT c4 hrr hl1 hl2
   go_wp2_with fail
   refine (HC.out _).mono ?_
   rintro e W1 ⟨rfl,hb1⟩
   rw[←HTT.out]
   have hs1:=hb1.size
   rw[show (wr.alloc (.cells #[.int .i64 op,.string fn,.int .i64 x,.int .i64 y,.slice bA bn bc,.slice cA cn cc] 68)).heap.size=wr.heap.size+1 by simp] at hs1 hb1
   have hw1:Below wr.heap.size wr W1:=(hbA _).trans (hb1.mono (by omega))
   have hbx1:Below W0.heap.size W0 W1:=hb.trans (hw1.mono hsr)
   have hown1:=own_below hown hw1 (aP _)
   have hsw1:W0.heap.size≤W1.heap.size:=hbx1.size
   clear k0 k1 k2 k3 k4 k5 HC hown
   go_wp2_with (at_builtin;refine gK W1 rfl (.tmp 28) (.tmp 31) rfl W0.heap.size _ _ _ hown1 rfl T rfl (by omega) hsw1 ?_;intro v' w3 hown3 hg3 hv3)
   go_roundw
   case rel=>
    refine⟨k+1,by omega,by go_num,?_,hbx1.trans (aN hown1 hg3 hsw1)⟩
    rw[Dg _ _ hlt,iZ,←HTX.out,←HTT.out];exact hown3
   case measure=>simp[intOf];omega
  ·obtain rfl:k=faults.length:=by omega
   obtain⟨A9,c9,rfl,hc9⟩:=aD hown
   rw[List.take_length] at hown
   have hlen:(mX faults).length=faults.length:=by simp[mX]
   have hjl:(Lib.join (faults.map gW) [32,124,32]).length≤41000000000000:=by
    have a:=join_length_le (faults.map gW) [32,124,32]
    have b:=ft_lens faults (fun f hf=>by have:=rJ (HOF.out f hf);have:=HLN.out f hf;omega)
    simp only[fM,List.length_nil,List.length_map] at a
    omega
   obtain⟨J,hJ⟩:∃J:ByteArray,J=bs (Lib.join (faults.map gW) [32,124,32]):=⟨_,rfl⟩
   have hJs:J.size≤41000000000000:=by rw[hJ,fD];exact hjl
   have HOWN:=jI hown
   have HLEN:=jI hlen
   have HJE:=jI hJ
   have HJ:=jI (fun(n:Nat)=>show Calls prog 161 #[.slice A9 faults.length c9,.string ⟨#[32,124,32]⟩] (wr.drewN n) (fun e w'=>e=.returned (.string J)∧Below (wr.drewN n).heap.size (wr.drewN n) w') by
    have h:=oQ (mX faults) A9 c9 ⟨#[32,124,32]⟩ (wr.drewN n) (·<(wr.drewN n).heap.size) (by rw[HLEN.out];exact (ak.own (own_drewN HOWN.out n)).mono (fun g _ h=>h) (by decide)) (fun g h=>h) (by rw[HLEN.out];exact hc9) (by rw[pJ];exact cK hjl (by omega)) (by rw[HLEN.out];omega)
    rw[HLEN.out,pJ,←hJ] at h;exact h)
   have c2:=ah hrr 2 _ rfl
   have hkI:¬(faults.length:Int)<(faults.length:Int):=by omega
   have ks2:¬(9223372036854775807<7+name.size):=by omega
   have ks3:¬(9223372036854775807<7+name.size+3):=by omega
   have ks4:¬(9223372036854775807<7+name.size+3+J.size):=by omega
   have ks5:¬(9223372036854775807<7+name.size+3+J.size+1):=by omega
   clear hJ hjl hlen hown hrr c4
   go_upto_region 11 with fail
   go_region_held3 (fun w'=>w'.cell? ⟨w.heap.size,2,none⟩=some (.string name)) (first|go_keep|(rw[hb2.cell (by simp;omega)];go_keep))
    (first|(go_at_call 161;(refine (HJ.out _).mono ?_;rintro e w2 ⟨rfl,hb2⟩)))
   all_goals (
    go_wp2
    go_ret
    refine⟨congrArg (fun b=>Ending.returned (.string b)) ?_,(below_drewN hbw _).trans (hb2.mono (by simp;exact hbw.size))⟩
    exact cat5 _ _ _ _ _ _ _ _ _ _ rfl (gN name).symm rfl HJE.out rfl)
theorem Dy(d:Dc)(v:Value)(w:World)(S:Nat→Prop)(hd:dS w S d v)(hS:∀g,S g→g<w.heap.size)(hok:vZ d=true)(hlim:TLim d)(hpw:Pow w):
  Calls prog 119 #[v] w fun e w'=>e=.returned (.string (bs (gB d)))∧Below w.heap.size w w':=by
 have h:=JA hok
 obtain⟨kind,line,name,names,faults,term,proto,read,write,use⟩:=d
 obtain⟨nA,nc,fA,fc,vt,vr,vw,rfl,h1,h2,h3,h4,h5,h6,h7⟩:=hd
 obtain⟨o1,m1,d1,wA1,wn1,wc1,kA1,kn1,kc1,rfl⟩:=h5.form
 obtain⟨o2,m2,d2,wA2,wn2,wc2,kA2,kn2,kc2,rfl⟩:=h6.form
 obtain⟨o3,m3,d3,wA3,wn3,wc3,kA3,kn3,kc3,rfl⟩:=h7.form
 obtain⟨l1,l2,l3,l4,l5,l6⟩:=hlim
 simp only at h1 h2 h3 h4 h5 h6 h7 l1 l2 l3 l4 l5 l6
 simp only[Value.cells,List.append_toArray,List.cons_append,List.nil_append]
 have nm:∀{x:ByteArray},dP x=true→x.size≤24:=fun h=>(kP h).1
 rcases xA h with hk|hk|hk|hk|hk|hk|hk<;>(simp only at hk;subst hk)
 ·exact Jw line name names faults term proto read write use nA nc fA fc o1 m1 d1 wA1 wn1 wc1 kA1 kn1 kc1 o2 m2 d2 wA2 wn2 wc2 kA2 kn2 kc2 o3 m3 d3 wA3 wn3 wc3 kA3 kn3 kc3 w S hS (nm (rR h (show hasName 1=true by decide))) h1 h2 h.names l1
 ·exact Jv line name names faults term proto read write use nA nc fA fc o1 m1 d1 wA1 wn1 wc1 kA1 kn1 kc1 o2 m2 d2 wA2 wn2 wc2 kA2 kn2 kc2 o3 m3 d3 wA3 wn3 wc3 kA3 kn3 kc3 w S hS (nm (rR h (show hasName 2=true by decide))) h3 h.faults l2 l3 hpw
 ·exact Ju line name names faults term proto read write use nA nc fA fc o1 m1 d1 wA1 wn1 wc1 kA1 kn1 kc1 o2 m2 d2 wA2 wn2 wc2 kA2 kn2 kc2 o3 m3 d3 wA3 wn3 wc3 kA3 kn3 kc3 w S hS (nm (rR h (show hasName 3=true by decide))) h5 (by have ht:=h.term;rw[if_pos (show nT 3=true by decide)] at ht;exact ht) l4 hpw
 ·obtain⟨hp,hr,hw,hu⟩:=FK h (show jO 4=true by decide)
  have hp2:proto.size≤24:=by have:=bd_word24 (Cm hp);simpa using this
  exact Jt line name names faults term proto read write use nA nc fA fc o1 m1 d1 wA1 wn1 wc1 kA1 kn1 kc1 o2 m2 d2 wA2 wn2 wc2 kA2 kn2 kc2 o3 m3 d3 wA3 wn3 wc3 kA3 kn3 kc3 w S hS (nm (rR h (show hasName 4=true by decide))) hp2 (nm hu) h6 hr l5 h7 hw l6 hpw
 ·exact Js line name names faults term proto read write use nA nc fA fc o1 m1 d1 wA1 wn1 wc1 kA1 kn1 kc1 o2 m2 d2 wA2 wn2 wc2 kA2 kn2 kc2 o3 m3 d3 wA3 wn3 wc3 kA3 kn3 kc3 w S hS h1 h2 h.names l1
 ·have hu:use.size≤24:=by
   rcases h.use with h|h
   ·have h:use.size=0:=h
    omega
   ·exact nm h
  exact Jr line name names faults term proto read write use nA nc fA fc o1 m1 d1 wA1 wn1 wc1 kA1 kn1 kc1 o2 m2 d2 wA2 wn2 wc2 kA2 kn2 kc2 o3 m3 d3 wA3 wn3 wc3 kA3 kn3 kc3 w S hS (nm (rR h (show hasName 6=true by decide))) hu
 ·exact Jq line name names faults term proto read write use nA nc fA fc o1 m1 d1 wA1 wn1 wc1 kA1 kn1 kc1 o2 m2 d2 wA2 wn2 wc2 kA2 kn2 kc2 o3 m3 d3 wA3 wn3 wc3 kA3 kn3 kc3 w S hS h1 h2 h.names l1
end
section
def Cl(l:List UInt8):Prop:=∀c∈l,c≠34∧c≠47
theorem Cl.app{a b:List UInt8}(ha:Cl a)(hb:Cl b):Cl (a++b):=fun c h=>(List.mem_append.1 h).elim (ha c) (hb c)
theorem Cl.of{l:List UInt8}(h:(l.all fun c=>c != 34&&c != 47)=true):Cl l:=fun c hc=>by simpa using List.all_eq_true.1 h c hc
theorem JE:∀c:Fin 256,(iJ c.1=true→c.1≠34∧c.1≠47):=by decide +kernel
theorem Cl.word{b:List UInt8}(h:kR b=true):Cl b:=by
 obtain⟨_,_,-,-,-,hall⟩:=rC h
 intro c hc
 obtain⟨h1,h2⟩:=JE ⟨c.toNat,c.toNat_lt⟩ (hall c hc)
 exact⟨fun e=>h1 (by rw[e];rfl),fun e=>h2 (by rw[e];rfl)⟩
theorem Cl.name{x:ByteArray}(h:dP x=true):Cl x.data.toList:=.word (by unfold dP at h;rw[Bool.and_eq_true] at h;exact h.1)
theorem Cl.none{x:ByteArray}(h:x.size=0):Cl x.data.toList:=by
 rw[List.length_eq_zero_iff.1 (show x.data.toList.length=0 by simpa using h)]
 intro c hc;cases hc
theorem Cl.dec(u:Nat):Cl (Lib.decDigits u):=by
 rw[Lib.decDigits_eq]
 intro c hc
 obtain⟨t,-,rfl⟩:=List.mem_map.1 hc
 have h:∀i:Fin 10,UInt8.ofNat (48+i.1)≠34∧UInt8.ofNat (48+i.1)≠47:=by decide
 exact h ⟨_,Nat.mod_lt _ (by decide)⟩
theorem Cl.itoa(n:Int):Cl (Lib.itoa n):=by
 unfold Lib.itoa
 split
 ·exact .app (a:=[45]) (.of rfl) (.dec _)
 ·exact .dec _
theorem Cl.join{xs:List (List UInt8)}{sep:List UInt8}(h:∀x∈xs,Cl x)(hs:Cl sep):Cl (Lib.join xs sep):=by
 cases xs with
 |nil=>intro c hc;cases hc
 |cons x r=>
  rw[Lib.join_cons]
  refine .app (h x (by simp)) ?_
  intro c hc
  simp only[Lib.joinTail,List.mem_flatten,List.mem_map] at hc
  obtain⟨_,⟨y,hy,rfl⟩,hc⟩:=hc
  exact Cl.app hs (h y (by simp[hy])) c hc
theorem Cl.names{l:List ByteArray}(h:dQ l=true):Cl (eO l):=by
 refine .join (fun x hx=>?_) (.of rfl)
 obtain⟨y,hy,rfl⟩:=List.mem_map.1 hx
 exact .name (List.all_eq_true.1 h y hy)
theorem Cl.head{t:Tm}(h:bJ t=true):Cl t.name.data.toList:=by
 unfold bJ at h
 repeat' split at h
 all_goals try simp only[Bool.and_eq_true,Bool.or_eq_true,decide_eq_true_eq] at h
 ·exact .name h.1
 ·rcases h.1 with h|h
  ·exact .name h
  ·rw[eT] at h;rw[h];exact .of rfl
 ·exact .none h.1.1.1
 ·exact .none h.1.1.1
 ·exact .none h.1.1.1
 ·cases h
theorem cl_tm:∀(n:Nat)(t:Tm),ax t≤n→lT t=true→Cl (aS t):=by
 intro n
 induction n with
 |zero=>
   intro t ht;have:0<ax t:=by (cases t;rw[ax];omega)
   omega
 |succ n ih=>
  intro t ht hok
  obtain⟨h1,-,h3⟩:=oL hok
  have hs:=gQ t
  have hk:∀k∈t.kids,Cl (aS k):=fun k hk=>ih k (by have:=eZ hk;omega) (h3 k hk)
  have hn:=Cl.head h1
  have hp:∀(ops:List Int)(sep:List UInt8),Cl sep→Cl (Lib.join (List.zipWith (par ops) t.kids (t.kids.map aS)) sep):=by
   intro ops sep hsep
   refine .join (fun x hx=>?_) hsep
   rw[zip_map] at hx
   obtain⟨k,hkm,rfl⟩:=List.mem_map.1 hx
   unfold par
   split
   ·exact ((Cl.of rfl).app (hk k hkm)).app (.of rfl)
   ·exact hk k hkm
  rw[iF]
  unfold uQ
  split
  ·exact hp _ _ (.of rfl)
  split
  ·exact hp _ _ (.of rfl)
  split
  ·refine ((Cl.of rfl).app ?_).app (.of rfl)
   cases hkk:t.kids with
   |nil=>intro c hc;cases hc
   |cons k r=>exact hk k (by rw[hkk];simp)
  split
  ·exact ((Cl.of rfl).app hn).app (.of rfl)
  split
  ·exact ((Cl.of rfl).app hn).app (.of rfl)
  split
  ·exact ((Cl.of rfl).app hn).app (.of rfl)
  split
  ·refine (((Cl.itoa _).app (.of rfl)).app (.join (fun x hx=>?_) (.of rfl))).app (.of rfl)
   obtain⟨i,hi⟩:=List.mem_iff_getElem?.1 hx
   obtain⟨y,hy,hxy⟩:=vG _ _ i x hi
   obtain⟨k,hkm,rfl⟩:=List.mem_map.1 (List.mem_of_getElem? hy)
   rcases hxy with rfl|⟨w,-,rfl⟩
   ·exact hk k hkm
   ·exact (hk k hkm).app ((Cl.of rfl).app (.itoa _))
  ·exact hn
theorem Cl.tm{t:Tm}(h:lT t=true):Cl (aS t):=cl_tm _ t (aP _) h
theorem Cl.ft{f:Ft}(h:pG f=true):Cl (gW f):=by
 unfold pG at h
 unfold gW
 by_cases e1:f.op=1
 ·rw[if_pos e1];exact .of rfl
 by_cases e2:f.op=2
 ·rw[if_neg e1,if_pos e2];exact (((Cl.of rfl).app (.itoa _)).app (.of rfl)).app (.itoa _)
 rw[if_neg e1,if_neg e2] at h ⊢
 by_cases e3:f.op=3
 ·rw[if_pos e3] at h
  simp only[Bool.and_eq_true] at h
  rw[if_neg (by omega),if_neg (by omega),if_pos e3]
  refine .join (fun x hx=>?_) (.of rfl)
  unfold oH at hx
  rcases List.mem_append.1 hx with hx|hx<;>split at hx
  ·cases hx
  ·rw[List.mem_singleton.1 hx];exact (((Cl.of rfl).app (.of rfl)).app (.names h.1.2)).app (.of rfl)
  ·cases hx
  ·rw[List.mem_singleton.1 hx];exact (((Cl.of rfl).app (.of rfl)).app (.names h.2)).app (.of rfl)
 ·rw[if_neg e3] at h ⊢
  split at h
  ·simp only[Bool.and_eq_true] at h
   have hn:=Cl.name h.1.1
   split
   ·exact ((Cl.of rfl).app hn).app (.of rfl)
   split
   ·exact ((Cl.of rfl).app hn).app (.of rfl)
   ·exact hn
  ·cases h
theorem Cl.dc{d:Dc}(h:vZ d=true):Cl (gB d):=by
 have h0:=JA h
 have hn:Cl d.name.data.toList:=h0.name.elim .none .name
 have hu:Cl d.use.data.toList:=h0.use.elim .none .name
 have hl:=Cl.names h0.names
 unfold gB
 rcases xA h0 with e|e|e|e|e|e|e
 ·rw[if_pos e]
  exact ((((Cl.of rfl).app hn).app (.of rfl)).app hl).app (.of rfl)
 ·rw[if_neg (by omega),if_pos e]
  refine ((((Cl.of rfl).app hn).app (.of rfl)).app (.join (fun x hx=>?_) (.of rfl))).app (.of rfl)
  obtain⟨f,hf,rfl⟩:=List.mem_map.1 hx
  exact .ft (List.all_eq_true.1 h0.faults f hf)
 ·rw[if_neg (by omega),if_neg (by omega),if_pos e]
  have ht:lT d.term=true:=by have:=h0.term;rw[e] at this;exact this
  exact ((((Cl.of rfl).app hn).app (.of rfl)).app (.tm ht)).app (.of rfl)
 ·rw[if_neg (by omega),if_neg (by omega),if_neg (by omega),if_pos e]
  obtain⟨h1,h2,h3,-⟩:=FK h0 (by rw[e];rfl)
  exact (((((((((((Cl.of rfl).app hn).app (.of rfl)).app (.word (Cm h1))).app (.of rfl)).app (.tm h2)).app (.of rfl)).app (.tm h3)).app (.of rfl)).app hu).app (.of rfl))
 ·rw[if_neg (by omega),if_neg (by omega),if_neg (by omega),if_neg (by omega),if_pos e]
  exact ((Cl.of rfl).app hl).app (.of rfl)
 ·rw[if_neg (by omega),if_neg (by omega),if_neg (by omega),if_neg (by omega),if_neg (by omega),if_neg (by omega)]
  split
  ·exact ((Cl.of rfl).app hn).app (.of rfl)
  ·exact ((((Cl.of rfl).app hn).app (.of rfl)).app hu).app (.of rfl)
 ·rw[if_neg (by omega),if_neg (by omega),if_neg (by omega),if_neg (by omega),if_neg (by omega),if_pos e]
  exact ((Cl.of rfl).app hl).app (.of rfl)
theorem Cl.dcs{l:List Dc}(h:l.all vZ=true):Cl (dM l):=by
 intro c hc
 obtain⟨d,hd,hc⟩:=List.mem_flatMap.1 hc
 exact Cl.app (.dc (List.all_eq_true.1 h d hd)) (b:=[10]) (.of rfl) c hc
end
section
open Go.RowKit
open _root_.Go.Proofs.Tryz
theorem IA{l:List UInt8}{t:Tok}{n:Nat}(hq:l.head?≠some 34)(h:jm l=some (t,n)):n≤l.length:=by
 match l with
 |[]=>simp[jm] at h
 |c::r=>
  rw[jm] at h
  split at h
  ·split at h
   ·simp at h
   ·simp only[Option.some.injEq,Prod.mk.injEq] at h
    rw[←h.2];exact Cn _ _
  ·split at h
   ·split at h
    ·simp at h
    ·simp only[Option.some.injEq,Prod.mk.injEq] at h
     rw[←h.2];exact Cn _ _
   ·rw[if_neg (fun e=>hq (by rw[e];rfl))] at h
    split at h
    ·simp only[Option.some.injEq,Prod.mk.injEq] at h;simp;omega
    ·simp at h
theorem next_q(s:ByteArray)(w:World)(hs:s.size≤1000000000)(h0:0<s.size)(hq:s[0].toNat≠34):Calls prog 148 #[.string s] w (NxPost s.data.toList w):=by
 have hone:=lexOne_at h0
 have hbW:∀o,Below w.heap.size w (w.alloc o):=fun o=>(jQ _ _).alloc (aP _) o
 have hnew:=jR w (.cells #[.int .i64 0,.string ⟨#[]⟩,.int .i64 0,.string ⟨#[]⟩,.int .i64 0] 179)
 obtain⟨W,hW⟩:=kE (w.alloc (.cells #[.int .i64 0,.string ⟨#[]⟩,.int .i64 0,.string ⟨#[]⟩,.int .i64 0] 179))
 have hb:=hbW (.cells #[.int .i64 0,.string ⟨#[]⟩,.int .i64 0,.string ⟨#[]⟩,.int .i64 0] 179)
 rw[←hW] at hb hnew
 have HB:=jI hb
 have HNEW:=jI hnew
 obtain⟨a0,a1,a2,a3,a4,af⟩:=uL hnew
 have af0:=af 0
 have af1:=af 1
 have af2:=af 2
 have af3:=af 3
 have af4:=af 4
 have hcx:=sZ s[0].toNat W
 have hdx:=qm s[0].toNat W
 clear hbW hb hnew af
 cases hl:iO s[0].toNat
 ·rw[hl] at hcx hone
  rw[if_neg (by simp)] at hone
  cases hd:isDigit s[0].toNat
  ·rw[hd] at hdx hone
   rw[if_neg (by simp)] at hone
   have q34:((s[0].toNat:Int)==34)=false:=lM hq
   rw[if_neg (fun e=>hq (by rw[e];rfl))] at hone
   have hix:=sym_index ⟨s[0].toNat,s[0].toNat_lt⟩
   simp only at hix
   rw[show UInt8.ofNat s[0].toNat=s[0] by simp] at hix
   have hic:=Tryz.strings_IndexByte ⟨#[123,125,40,41,91,93,44,59,58,61,47,43,45,60,62,124,38,42]⟩ s[0].toNat W
   generalize hz:Lib.indexByte (⟨#[123,125,40,41,91,93,44,59,58,61,47,43,45,60,62,124,38,42]⟩:ByteArray).data.toList ((s[0].toNat:Int).toNat.toUInt8)=z at hic
   have hix:decide (0≤z)=decide (s[0]∈syms):=by rw[←hz];exact hix
   have HC:=jI hcx
   have HD:=jI hdx
   have HI:=jI hic
   clear hcx hdx hic hz hl hd hq
   by_cases hsy:s[0]∈syms
   ·rw[if_pos hsy] at hone
    have hz:0≤z:=by simpa [hsy] using hix
    have HO:=jI hone
    have h1:(1:Int)≤(s.size:Int):=by omega
    clear hone hix hsy
    go_enter func148,ntmps148
    go_wp2_with fail
    rw[←hW]
    clear hW
    refine HC.out.mono ?_
    rintro e w' ⟨rfl,rfl⟩
    go_wp2_with fail
    refine HD.out.mono ?_
    rintro e w' ⟨rfl,rfl⟩
    go_wp2_with fail
    refine HI.out.mono ?_
    rintro e w' ⟨rfl,hw'⟩
    subst hw'
    go_wp2
    obtain⟨e1,e2⟩:=sF HB.out HNEW.out rfl
    refine sJ rfl rfl rfl rfl e1 ⟨_,_,_,_,_,rfl,e2,?_⟩
    have e3:s.extract 0 1=bs [s[0]]:=by
     rw[sV,show s.data.toList=s[0]::s.data.toList.drop 1 from jo s 0 h0];rfl
    rw[e3]
    exact wB HO.out
   ·rw[if_neg hsy] at hone
    have hz:¬0≤z:=by simpa [hsy] using hix
    have HO:=jI hone
    clear hone hix hsy
    go_enter func148,ntmps148
    go_wp2_with fail
    rw[←hW]
    clear hW
    refine HC.out.mono ?_
    rintro e w' ⟨rfl,rfl⟩
    go_wp2_with fail
    refine HD.out.mono ?_
    rintro e w' ⟨rfl,rfl⟩
    go_wp2_with fail
    refine HI.out.mono ?_
    rintro e w' ⟨rfl,hw'⟩
    subst hw'
    go_wp2
    obtain⟨e1,e2⟩:=sF HB.out HNEW.out rfl
    refine sJ rfl rfl rfl rfl e1 ⟨_,_,_,_,_,rfl,e2,?_⟩
    exact wC HO.out _ _ _ _
  ·rw[hd] at hdx hone
   rw[if_pos rfl] at hone
   have hpre:=oK s 192 (enters_of func192 (by kernel_rfl) rfl) isDigit (fun c w _=>qm c w) W hs
   have hple:=Cn isDigit s.data.toList
   have hlen:s.data.toList.length=s.size:=by simp
   have hpp:0<pre isDigit s.data.toList:=by
    rw[show s.data.toList=s[0]::s.data.toList.drop 1 from jo s 0 h0]
    exact Ap _ _ _ hd
   have hdig:=pre_digit s.data.toList
   generalize hn:pre isDigit s.data.toList=n at hpre hone hple hpp hdig
   rw[hlen] at hple
   have hex:=sV s n
   have hesz:(s.extract 0 n).size=n:=by simp;omega
   have hnum:=AU (s.extract 0 n) W (by omega) (fun k hk=>by
    have hkn:k<n:=by omega
    have:=hdig k hkn (by omega)
    have h5:(s.extract 0 n)[k]=s.data.toList[k]'(by omega):=by simp[ByteArray.getElem_extract];rfl
    rw[h5];exact this) (by omega)
   have hed:(s.extract 0 n).data.toList=s.data.toList.take n:=by simp
   rw[hed] at hnum
   obtain⟨hy,hno⟩:=next_num hpp (by omega) hone
   have HC:=jI hcx
   have HD:=jI hdx
   have HP:=jI hpre
   have hnI:(n:Int)≤(s.size:Int):=by omega
   cases hok:qf (s.data.toList.take n)
   ·rw[hok] at hnum
    have HN:=jI hnum
    have HO:=jI (hno hok)
    clear hcx hdx hpre hnum hno hy hok hed hex hdig hone hl hd hn hlen hesz hq
    go_enter func148,ntmps148
    go_wp2_with fail
    rw[←hW]
    clear hW
    refine HC.out.mono ?_
    rintro e w' ⟨rfl,rfl⟩
    go_wp2_with fail
    refine HD.out.mono ?_
    rintro e w' ⟨rfl,rfl⟩
    go_wp2_with fail
    refine HP.out.mono ?_
    rintro e w' ⟨rfl,rfl⟩
    go_wp2_with fail
    refine HN.out.mono ?_
    rintro e w' ⟨rfl,rfl⟩
    go_wp2
    obtain⟨e1,e2⟩:=sF HB.out HNEW.out rfl
    refine sJ rfl rfl rfl rfl e1 ⟨_,_,_,_,_,rfl,e2,?_⟩
    exact wC HO.out _ _ _ _
   ·rw[hok] at hnum
    have HN:=jI hnum
    have HO:=jI (hy hok)
    clear hcx hdx hpre hnum hno hy hok hed hex hdig hone hl hd hn hlen hesz hq
    go_enter func148,ntmps148
    go_wp2_with fail
    rw[←hW]
    clear hW
    refine HC.out.mono ?_
    rintro e w' ⟨rfl,rfl⟩
    go_wp2_with fail
    refine HD.out.mono ?_
    rintro e w' ⟨rfl,rfl⟩
    go_wp2_with fail
    refine HP.out.mono ?_
    rintro e w' ⟨rfl,rfl⟩
    go_wp2_with fail
    refine HN.out.mono ?_
    rintro e w' ⟨rfl,rfl⟩
    go_wp2
    obtain⟨e1,e2⟩:=sF HB.out HNEW.out rfl
    refine sJ rfl rfl rfl rfl e1 ⟨_,_,_,_,_,rfl,e2,?_⟩
    exact HO.out
 ·rw[hl] at hcx hone
  rw[if_pos rfl] at hone
  have hpre:=oK s 191 (enters_of func191 (by kernel_rfl) rfl) iJ (fun c w _=>rU c w) W hs
  have hple:=Cn iJ s.data.toList
  have hlen:s.data.toList.length=s.size:=by simp
  generalize hn:pre iJ s.data.toList=n at hpre hone hple
  rw[hlen] at hple
  have HC:=jI hcx
  have HP:=jI hpre
  have hnI:(n:Int)≤(s.size:Int):=by omega
  by_cases h24:24<n
  ·rw[if_pos h24] at hone
   have HO:=jI hone
   clear hcx hdx hpre hone hl hn hlen hq
   go_enter func148,ntmps148
   go_wp2_with fail
   rw[←hW]
   clear hW
   refine HC.out.mono ?_
   rintro e w' ⟨rfl,rfl⟩
   go_wp2_with fail
   refine HP.out.mono ?_
   rintro e w' ⟨rfl,rfl⟩
   go_wp2
   obtain⟨e1,e2⟩:=sF HB.out HNEW.out rfl
   refine sJ rfl rfl rfl rfl e1 ⟨_,_,_,_,_,rfl,e2,?_⟩
   exact wC HO.out _ _ _ _
  ·rw[if_neg h24] at hone
   have HO:=jI hone
   clear hcx hdx hpre hone hl hn hlen hq
   go_enter func148,ntmps148
   go_wp2_with fail
   rw[←hW]
   clear hW
   refine HC.out.mono ?_
   rintro e w' ⟨rfl,rfl⟩
   go_wp2_with fail
   refine HP.out.mono ?_
   rintro e w' ⟨rfl,rfl⟩
   go_wp2
   obtain⟨e1,e2⟩:=sF HB.out HNEW.out rfl
   refine sJ rfl rfl rfl rfl e1 ⟨_,_,_,_,_,rfl,e2,?_⟩
   rw[sV]
   exact wB HO.out
theorem tokens_q(s:ByteArray)(w:World)(hcl:Cl s.data.toList):Calls prog 105 #[.string s] w (KPost s w):=by
 have HCL:=jI hcl
 clear hcl
 by_cases hs:65536<s.size
 ·go_enter func105,ntmps105
  go_wp2
  (try simp only[Exit.inBlock,Exit.then])
  refine bodyPost_ret (results_tmp3 rfl _ _ _) rfl ?_
  refine⟨jQ _ _,?_⟩
  rw[if_pos hs];rfl
 ·go_enter func105,ntmps105
  go_wp2
  go_loopw [0,5,6] (fun x0 x5 x6 wr=>∃(rest:ByteArray)(line:Nat)(acc:cB),x0=.string rest∧x6=.int .i64 line∧Hid (Cl rest.data.toList)∧KInv s w rest x5 line acc wr) (fun x0 _ _ _=>match x0 with | .string r=>r.size|_=>0)
  case atStart=>exact⟨s,1,[],rfl,rfl,HCL,rfl,World.ownsRow_nil _ _ _ _,jQ _ _,by simp,by omega⟩
  case round=>
   obtain⟨rest,line,acc,rfl,rfl,hch,hi⟩:=hrel
   have hlen:=hi.len
   have hlin:=hi.lin
   have hsz:=hi.blw.size
   by_cases h0:rest.size=0
   ·obtain rfl:rest=⟨#[]⟩:=by
     have:rest.data.toList=[]:=List.length_eq_zero_iff.1 (by simpa using h0)
     rw[←gN rest,this];rfl
    obtain⟨A,c,rfl,hc⟩:=aD hi.own
    have HI:=jI hi
    clear hi
    go_wp2
    refine bodyPost_ret (results_tmp3 rfl _ _ _) rfl ?_
    exact kpost_ok hs HI.out.blw (by rw[HI.out.lx];rfl) hc (ak.own HI.out.own) (by omega)
   ·have hp:0<rest.size:=by omega
    have hne2:=gP hp
    have hne:=dK hp
    have I8:rest.data.toList=rest[0]::rest.data.toList.drop 1:=jo rest 0 hp
    have hsp:=BV rest[0].toNat rest[0].toNat_lt wr
    have HI:=jI hi
    clear hi h0
    cases hw:gG rest[0].toNat
    ·rw[hw] at hsp
     have hpf:=Tryz.strings_HasPrefix rest ⟨#[47,47]⟩ wr
     have hci:=FN rest hp
     rw[show (⟨#[47,47]⟩:ByteArray).data.toList=[47,47] from rfl] at hpf
     have hc0:=hch.out rest[0] (by rw[I8];exact fO)
     have hcm:¬(rest[0]=47∧(rest.data.toList.drop 1).head?=some 47):=fun e=>hc0.2 e.1
     rw[hci,decide_eq_false hcm] at hpf
     have hnx:=next_q rest wr (by omega) hp (fun e=>hc0.1 (UInt8.toNat_inj.1 e))
     have HQ:=jI (show rest.data.toList.head?≠some 34 from by rw[I8];intro e;exact hc0.1 (Option.some.inj e))
     have HSP:=jI hsp
     have HPF:=jI hpf
     have HNX:=jI hnx
     have HCM:=jI hcm
     have HW:=jI hw
     have HCONS:=jI I8
     clear hnx hsp hpf hci hcm hw I8 hc0
     go_wp2_with fail
     refine HSP.out.mono ?_
     rintro e w' ⟨rfl,rfl⟩
     go_wp2_with fail
     refine HPF.out.mono ?_
     rintro e w' ⟨rfl,hw'⟩
     subst hw'
     go_wp2_with fail
     refine HNX.out.mono ?_
     rintro e W2 ⟨tk,tx,tv,ty,n,rfl,hb2,hok⟩
     have hs2:=hb2.size
     by_cases hz:n=0
     ·subst hz
      have HOK:=jI (next_zero hok)
      clear hok
      go_wp2
      refine bodyPost_ret (results_tmp3 rfl _ _ _) rfl ?_
      have h9:=lex_none rest[0] (rest.data.toList.drop 1) line acc HW.out HCM.out (by rw[←HCONS.out];exact HOK.out)
      rw[←HCONS.out] at h9
      exact kpost_err hs ((HI.out.blw.trans (hb2.mono hsz)).trans (((jQ _ _).alloc (aP _) _).mono (by omega))) (HI.out.lx.trans h9)
     ·obtain⟨t,ht,rfl,rfl,rfl,rfl⟩:=next_pos hok hz
      have hle:=IA HQ.out ht
      rw[show rest.data.toList.length=rest.size by simp] at hle
      have hzI:((n:Int)==0)=false:=lM hz
      have hnI:(n:Int)≤(rest.size:Int):=by omega
      have HT:=jI ht
      have hown2:=own_below HI.out.own hb2 (aP _)
      obtain⟨Av,cv,rfl,hcv⟩:=aD hown2
      clear hok ht
      have hown3:=own_below hown2 ((jQ _ _).alloc (aP _) (.cells #[.int .i64 t.kind,.string t.text,.int .i64 t.int,.string t.str,.int .i64 line] 179)) (aP _)
      go_wp2_with (at_builtin;refine push_tok (W2.alloc (.cells #[.int .i64 t.kind,.string t.text,.int .i64 t.int,.string t.str,.int .i64 line] 179)) rfl (.tmp 26) (.tmp 28) rfl w.heap.size _ _ _ hown3 rfl (t.kind:Int) t.text (t.int:Int) t.str (line:Int) (by rw[o7];rfl) (by omega) (by rw[o7];omega) ?_;intro v' W3 jX hg4 hv4;have HG4:=jI hg4;have HO3:=jI hown3;clear hown3 hv4 hg4)
      go_roundw
      case rel=>
       refine⟨_,line,acc++[(t,line)],rfl,rfl,by rw[uV];exact fun c hc=>hch.out c (List.mem_of_mem_drop hc),⟨?_,?_,?_,?_,?_⟩⟩
       ·have h9:=lex_token rest[0] (rest.data.toList.drop 1) line acc t n HW.out HCM.out (by rw[←HCONS.out];exact HT.out)
        rw[←HCONS.out] at h9
        rw[HI.out.lx,h9,uV]
       ·rw[BN,bD];exact jX
       ·exact (HI.out.blw.trans (hb2.mono hsz)).trans ((((jQ _ _).alloc (aP _) _).mono (by omega)).trans (aN HO3.out HG4.out (by simp;omega)))
       ·simp;omega
       ·simp;omega
      case measure=>simp;omega
    ·rw[hw] at hsp
     have hpre:=oK rest 143 (enters_of func143 (by kernel_rfl) rfl) gG (fun c w h=>BV c h w) wr (by omega)
     have hple:=Cn gG rest.data.toList
     have hpp:0<pre gG rest.data.toList:=by
      rw[I8];exact Ap _ _ _ hw
     have hlx:=Iz rest.data.toList line acc
     generalize hn:pre gG rest.data.toList=n at hpre hple hpp hlx
     rw[show rest.data.toList.length=rest.size by simp] at hple
     have hcnt:=Tryz.strings_Count_one (rest.extract 0 n) 10 wr
     have hed:(rest.extract 0 n).data.toList=rest.data.toList.take n:=by simp
     rw[hed] at hcnt
     have hfe:Lib.countByte (rest.data.toList.take n) 10=feeds (rest.data.toList.take n):=rfl
     rw[hfe] at hcnt
     have hfl:feeds (rest.data.toList.take n)≤n:=by
      have h1:feeds (rest.data.toList.take n)≤(rest.data.toList.take n).length:=List.count_le_length
      rw[fH] at h1;omega
     generalize hf:feeds (rest.data.toList.take n)=k at hcnt hlx hfl
     have HSP:=jI hsp
     have HP:=jI hpre
     have HC:=jI hcnt
     have HLX:=jI hlx
     have hnI:(n:Int)≤(rest.size:Int):=by omega
     clear hsp hpre hcnt hlx hn hf hfe hed hw I8
     go_wp2_with fail
     refine HSP.out.mono ?_
     rintro e w' ⟨rfl,rfl⟩
     go_wp2_with fail
     refine HP.out.mono ?_
     rintro e w' ⟨rfl,rfl⟩
     go_wp2_with fail
     refine HC.out.mono ?_
     rintro e w' ⟨rfl,hw'⟩
     subst hw'
     go_wp2
     go_roundw
     case rel=>
      refine⟨_,line+k,acc,rfl,?_,by rw[uV];exact fun c hc=>hch.out c (List.mem_of_mem_drop hc),⟨?_,HI.out.own,HI.out.blw,?_,?_⟩⟩
      ·congr 1
      ·rw[HI.out.lx,HLX.out,uV]
      ·simp;omega
      ·simp;omega
     case measure=>simp;omega
theorem wD(s:ByteArray)(w:World)(hcl:Cl s.data.toList):Calls prog 82 #[.string s] w (tC s.data.toList w):=by
 have HT:=jI (tokens_q s w hcl)
 have hsz:s.data.toList.length=s.size:=by simp
 go_enter func82,ntmps82
 go_wp2_with fail
 refine HT.out.mono ?_
 rintro e W ⟨hb,hk⟩
 have hs:=hb.size
 obtain⟨T,hT⟩:=kE (lex s.data.toList 1 [])
 have e1:psL s.data.toList=if 65536<s.size then [] else if T.2.2≠0 then [] else T.1:=by unfold psL;rw[hsz,←hT]
 have e2:psE s.data.toList=if 65536<s.size then 3 else if T.2.2≠0 then T.2.2 else if 3000<T.1.length then 3 else 0:=by unfold psE;rw[hsz,←hT]
 have e3:Ic s.data.toList=if 65536<s.size then fun _=>0 else if T.2.2≠0 then fun _=>T.2.1 else if 3000<T.1.length then fun _=>0 else lS T.1:=by unfold Ic;rw[hsz,←hT]
 rw[←hT] at hk
 clear hsz hT
 obtain⟨L,li,er⟩:=T
 simp only at hk e1 e2 e3
 by_cases h1:65536<s.size
 ·rw[if_pos h1] at hk e1 e2 e3
  subst hk
  have E1:=jI e1
  have E2:=jI e2
  have E3:=jI e3
  clear h1 e1 e2 e3
  go_wp2
  go_ret
  unfold tC
  rw[E1.out,E2.out,E3.out]
  exact⟨W.heap.size,none,0,0,rfl,hs,⟨⟨0,jR W _,fun _=>rfl⟩,rfl,aP _,fun h=>absurd h (by simp),.empty _ _ _ _,by simp⟩,hb.alloc hs _⟩
 ·rw[if_neg h1] at hk e1 e2 e3
  by_cases h2:er≠0
  ·rw[if_pos h2] at hk e1 e2 e3
   subst hk
   have hz:((er:Int)==0)=false:=lM h2
   have H2:=jI h2
   have E1:=jI e1
   have E2:=jI e2
   have E3:=jI e3
   clear h1 h2 e1 e2 e3
   go_wp2
   go_ret
   unfold tC
   rw[E1.out,E2.out,E3.out]
   exact⟨W.heap.size,none,0,0,rfl,hs,⟨⟨li,jR W _,fun _=>rfl⟩,rfl,aP _,fun h=>absurd h H2.out,.empty _ _ _ _,by simp⟩,hb.alloc hs _⟩
  ·rw[if_neg h2] at hk e1 e2 e3
   obtain⟨A,c,rfl,hc,J3,hlen⟩:=hk
   have HS:=jI J3
   by_cases h3:3000<L.length
   ·rw[if_pos h3] at e2 e3
    have E1:=jI e1
    have E2:=jI e2
    have E3:=jI e3
    clear J3 h2 e1 e2 e3
    go_wp2
    go_ret
    unfold tC
    rw[E1.out,E2.out,E3.out]
    refine⟨W.heap.size,A,L.length,c,rfl,hs,⟨⟨0,jR W _,fun _=>rfl⟩,rfl,cu _,fun h=>absurd h (by simp),?_,by omega⟩,hb.alloc hs _⟩
    exact (HS.out.mono (fun g _ h=>h) (by decide)).keep (aA ((jQ _ _).alloc (aP _) _))
   ·rw[if_neg h3] at e2 e3
    have E1:=jI e1
    have E2:=jI e2
    have E3:=jI e3
    clear J3 h2 e1 e2 e3
    go_wp2
    go_ret
    unfold tC
    rw[E1.out,E2.out,E3.out]
    refine⟨W.heap.size,A,L.length,c,rfl,hs,⟨⟨0,jR W _,fun h=>absurd rfl h⟩,rfl,cu _,fun _=>rfl,?_,by omega⟩,hb.alloc hs _⟩
    exact (HS.out.mono (fun g _ h=>h) (by decide)).keep (aA ((jQ _ _).alloc (aP _) _))
end
section
open Go.RowKit Go.Shelf
open _root_.Go.Proofs.Tryz
theorem GY(B b:Nat)(l:List UInt8)(s:ByteArray)(w:World)(h:Lib.IsBuilder 192 5 B b (Lib.byteCells l) w)(hlen:l.length+s.size≤140737488355328)(hBw:B≤w.heap.size):
  Calls prog 118 #[.pointer (some ⟨b,0,none⟩),.string s] w fun e w'=>e=.returned (.tuple #[.int .i64 s.size,.nilIface])∧(Lib.IsBuilder 192 5 B b (Lib.byteCells (l++s.data.toList)) w'∧Below B w w'):=by
 refine (Any.Builder_WriteString (ρ:=Tryz.lays156_ren) { Tryz.lays156 with } Tryz.Builder_Extra_156 B b (Lib.byteCells l) s w h (by simpa [Lib.byteCells] using hlen) hBw).mono fun e w' hh=>⟨hh.1,?_,hh.2.2⟩
 have e:Lib.byteCells (l++s.data.toList)=Lib.byteCells l++Lib.strCells s:=by simp[Lib.byteCells,Lib.strCells]
 rw[e]
 exact Or.inr hh.2.1
theorem pQ{T e B b:Nat}{xs:List Value}{w w':World}(h:Lib.IsBuilder T e B b xs w)(hb:Below w.heap.size w w'):Lib.IsBuilder T e B b xs w':=by
 have key:∀p,Lib.BuilderAt T e B b p xs w→Lib.BuilderAt T e B b p xs w':=by
  intro p hp
  obtain⟨h1,v,h2,h3,h4⟩:=hp
  exact⟨h1,v,by rw[hb.block b (jS h2)];exact h2,own_below h3 hb (aP _),h4⟩
 rcases h with h|h
 ·exact Or.inl (key _ h)
 ·exact Or.inr (key _ h)
theorem sized_ps(l:List UInt8):vK l=decide (psE l=0):=by
 unfold vK psE
 by_cases h1:65536<l.length
 ·rw[if_pos h1]
  have:decide (l.length≤65536)=false:=decide_eq_false (by omega)
  rw[this];rfl
 ·rw[if_neg h1,decide_eq_true (show l.length≤65536 by omega)]
  by_cases h2:(lex l 1 []).2.2≠0
  ·rw[if_pos h2,decide_eq_false h2];rfl
  ·have h2':(lex l 1 []).2.2=0:=by simpa using h2
   rw[if_neg h2,decide_eq_true h2']
   by_cases h3:3000<(lex l 1 []).1.length
   ·rw[if_pos h3,decide_eq_false (by omega)];rfl
   ·rw[if_neg h3,decide_eq_true (by omega)];rfl
theorem BZ(s:ByteArray)(w:World)(hcl:Cl s.data.toList):Calls prog 94 #[.string s] w fun e w'=>e=.returned (.tuple #[.string (bs (kL s.data.toList).1),.int .i64 (kL s.data.toList).2])∧Below w.heap.size w w':=by
 have HP:=jI (wD s w hcl)
 clear hcl
 have E:=jI (sized_ps s.data.toList)
 go_enter func94,ntmps94
 go_wp2_with fail
 refine HP.out.mono ?_
 rintro e W ⟨b,A,n,c,rfl,hbb,hp,hb⟩
 obtain⟨l0,hl0,-⟩:=hp.blk
 obtain⟨c0,c1,c2,c3,-⟩:=Ez hl0
 clear hl0 hp
 simp only at c0 c1 c2 c3
 by_cases he:psE s.data.toList=0
 ·have e1:kL s.data.toList=(s.data.toList,0):=by unfold kL;rw[E.out,decide_eq_true he];rfl
  have hz:(((psE s.data.toList:Nat):Int) != 0)=false:=by rw[he];rfl
  have E1:=jI e1
  clear e1 he
  go_wp2
  go_ret2
  rw[E1.out]
  exact⟨by simp only[gN];rfl,hb⟩
 ·have e1:kL s.data.toList=([],3):=by unfold kL;rw[E.out,decide_eq_false he];rfl
  have hz:(((psE s.data.toList:Nat):Int) != 0)=true:=j6 he
  have E1:=jI e1
  clear e1 he
  go_wp2
  go_ret2
  rw[E1.out]
  exact⟨rfl,hb⟩
theorem yw(t:Tm)(v:Value)(w:World)(S:Nat→Prop)(ht:dX w S t v)(hS:∀g,S g→g<w.heap.size)(hsz:ax t≤1000000000)(hpw:Pow w):
  Calls prog 63 #[v] w fun e w'=>e=.returned (.tuple #[.string (bs (eF t).1),.int .i64 (eF t).2])∧Below w.heap.size w w':=by
 have hbA:∀o,Below w.heap.size w (w.alloc o):=fun o=>(jQ _ _).alloc (aP _) o
 have ht2:=ht
 obtain⟨op,nm,nd,wA,wn,wc,kA,kn,kc,rfl⟩:=ht2.form
 have HV:=jI (fun o=>kr t _ (w.alloc o) S (ht.keep (aA (hbA o))) (fun g hg=>by have:=hS g hg;simp;omega) (by omega))
 have HT:=jI (fun(hok:lT t=true)(W:World)(hb:Below w.heap.size w W)=>lm t _ W S (ht.keep (aj hb hS)) (fun g hg=>by have:=hS g hg;have:=hb.size;omega) hok hsz (hpw.below hb))
 clear ht ht2 hpw
 go_enter func63,ntmps63
 go_wp2_with fail
 refine (HV.out _).mono ?_
 rintro e W1 ⟨rfl,hb1⟩
 have hs1:=hb1.size
 rw[show (w.alloc (.cells #[.int .i64 op,.string nm,.int .i64 nd,.slice wA wn wc,.slice kA kn kc] 26)).heap.size=w.heap.size+1 by simp] at hs1 hb1
 have iC:Below w.heap.size w W1:=(hbA _).trans (hb1.mono (by omega))
 have hr1:W1.heap[w.heap.size]?=some (.cells #[.int .i64 op,.string nm,.int .i64 nd,.slice wA wn wc,.slice kA kn kc] 26 (0,0)):=(hb1.block _ (by omega)).trans (jR w _)
 obtain⟨c0,c1,c2,c3,c4,-⟩:=uL hr1
 clear hr1
 cases hok:lT t
 ·have e1:eF t=([],1):=by unfold eF;rw[hok];rfl
  have E1:=jI e1
  clear e1 hok
  go_wp2
  go_ret2
  rw[E1.out]
  exact⟨rfl,iC⟩
 ·have e1:eF t=kL (aS t):=by unfold eF;rw[hok];rfl
  have E1:=jI e1
  have HT1:=jI (HT.out hok W1 iC)
  have HCT:=jI (Cl.tm hok)
  clear e1 hok
  go_wp2_with fail
  refine HT1.out.mono ?_
  rintro e W2 ⟨rfl,hb2⟩
  go_wp2_with fail
  refine (BZ (bs (aS t)) W2 (by rw[jH];exact HCT.out)).mono ?_
  rintro e W3 ⟨rfl,hb3⟩
  go_wp2
  go_ret2
  rw[E1.out,jH]
  exact⟨rfl,(iC.trans (hb2.mono iC.size)).trans (hb3.mono (cK iC.size hb2.size))⟩
theorem TLim.lim{d:Dc}(h:TLim d):DcLim d:=by
 obtain⟨h1,h2,h3,h4,h5,h6⟩:=h
 exact⟨by omega,by omega,fun f hf=>by have:=h3 f hf;omega,by omega,by omega,by omega⟩
theorem decl_test(w:World)(S:Nat→Prop)(l:List Dc)(hS:∀g,S g→g<w.heap.size)(hz:∀d∈l,DcLim d):Tests (fun W x v=>dS W S x v) w 116 l (fun d=>!vZ d):=by
 intro x hx v W htm hb
 obtain⟨nA,nc,fA,fc,o1,m1,d1,wA1,wn1,wc1,kA1,kn1,kc1,o2,m2,d2,wA2,wn2,wc2,kA2,kn2,kc2,o3,m3,d3,wA3,wn3,wc3,kA3,kn3,kc3,rfl⟩:=qo htm
 have hsz:=hb.size
 have hbA:∀o,Below W.heap.size W (W.alloc o):=fun o=>(jQ _ _).alloc (aP _) o
 have HV:=jI (fun o=>zV x _ (W.alloc o) S (htm.keep (aA (hbA o))) (fun g hg=>by have:=hS g hg;simp;omega) (hz x hx))
 clear htm
 go_enter func116,ntmps116
 go_wp2_with (with_reducible refine gy _ rfl (.tmp 1) rfl W.heap.size rfl _ (jR W _) rfl ?_)
 refine (HV.out _).mono ?_
 rintro e w' ⟨rfl,hb2⟩
 go_wp2
 go_ret
 exact⟨rfl,(hbA _).trans (hb2.mono (by simp))⟩
theorem DI(l:List Dc)(k:Nat)(h:k<l.length):dM (l.take (k+1))=dM (l.take k)++(gB l[k]++[10]):=by
 unfold dM
 rw[cO h,List.flatMap_append];simp
theorem DF(l:List Dc)(k:Nat):(dM (l.take k)).length≤(dM l).length:=by
 have e:dM l=dM (l.take k)++dM (l.drop k):=by
  unfold dM
  rw[←List.flatMap_append,List.take_append_drop]
 rw[e,bD];omega
theorem Jc(l:List Dc)(A:Option Addr)(c:Nat)(w:World)(S:Nat→Prop)(hl:aO (dS w S) w S 22 A l)(hS:∀g,S g→g<w.heap.size)(hlim:l.length≤1000000000)(hz:∀d∈l,TLim d)(hlen:l.all vZ=true→(dM l).length≤100000000000000)(hpw:Pow w):
  Calls prog 85 #[.slice A l.length c] w fun e w'=>e=.returned (.tuple #[.string (bs (eP l).1),.int .i64 (eP l).2])∧Below w.heap.size w w':=by
 have HC:=jI (Bv l S A c w hl hS (by omega) 116 (enters_of func116 (by kernel_rfl) rfl) _ (decl_test w S l hS (fun d hd=>(hz d hd).lim)))
 have HLS:=jI hl
 have HZ:=jI hz
 have HLE:=jI hlen
 have HP:=jI hpw
 clear hl hz hlen hpw
 go_enter func85,ntmps85
 go_wp2_with fail
 refine HC.out.mono ?_
 rintro e W1 ⟨rfl,hb1⟩
 have hs1:=hb1.size
 have eany:l.any (fun d=>!vZ d)=!l.all vZ:=by rw[List.not_all_eq_any_not]
 cases hok:l.all vZ
 ·rw[eany,hok]
  have e1:eP l=([],1):=by unfold eP;rw[hok];rfl
  have E1:=jI e1
  clear e1 hok eany
  go_wp2
  go_ret2
  rw[E1.out]
  exact⟨rfl,hb1⟩
 ·rw[eany,hok]
  have e1:eP l=kL (dM l):=by unfold eP;rw[hok];rfl
  have E1:=jI e1
  have HLN:=jI (HLE.out hok)
  have HCT:=jI (Cl.dcs hok)
  have HOK:=jI (List.all_eq_true.1 hok)
  clear e1 hok eany
  go_wp2
  go_loopw [11] (fun x wr=>∃k:Nat,k≤l.length∧x=.int .i64 k∧Lib.IsBuilder 192 5 W1.heap.size W1.heap.size (Lib.byteCells (dM (l.take k))) wr∧Below W1.heap.size W1 wr) (fun x _=>l.length-(intOf x).toNat)
  case atStart=>exact⟨0,cu _,rfl,Lib.fresh_isBuilder _ _ _,(jQ _ _).alloc (aP _) _⟩
  case round=>
   obtain⟨k,hk,rfl,hbd,hb2⟩:=hrel
   have hsz2:=hb2.size
   have hbw:Below w.heap.size w wr:=hb1.trans (hb2.mono hs1)
   by_cases hlt:k<l.length
   ·have hlr:=HLS.out.keep (P':=dS wr S) (aj hbw hS) (fun _ _ h=>h.keep (aj hbw hS))
    obtain⟨g,o,v,rfl,hSg,htm,hcs⟩:=dB (fun _ _ h=>lD h) hlr hlt
    have hgs:g<wr.heap.size:=by have:=hS g hSg;have:=hbw.size;omega
    obtain⟨d,hd⟩:=kE (l[k])
    have hmem:d∈l:=by rw[hd];exact bQ hlt
    rw[←hd] at htm
    have hsn:=DI l k hlt
    have htk:=DF l (k+1)
    have hln:=HLN.out
    rw[hsn,bD,bD] at htk
    rw[←hd] at hsn htk
    obtain⟨cs,hcl,hone,rfl⟩:∃cs:List Value,cs.length=22∧(∀u∈cs,u.oneCell'=true)∧v=.agg cs.toArray:=by
     obtain⟨nA,nc,fA,fc,o1,m1,d1,wA1,wn1,wc1,kA1,kn1,kc1,o2,m2,d2,wA2,wn2,wc2,kA2,kn2,kc2,o3,m3,d3,wA3,wn3,wc3,kA3,kn3,kc3,hv⟩:=qo htm
     refine⟨_,rfl,?_,hv⟩
     intro u hu
     simp only[List.mem_cons,List.not_mem_nil,or_false] at hu
     rcases hu with rfl|rfl|rfl|rfl|rfl|rfl|rfl|rfl|rfl|rfl|rfl|rfl|rfl|rfl|rfl|rfl|rfl|rfl|rfl|rfl|rfl|rfl<;>rfl
    have hrange:wr.rangeAt g (o+k * 22) cs:=fun j u hu=>hcs j u (by simpa [cellsOf,Value.cells] using hu)
    have mW:(prog.info? 35).map (·.size)=some cs.length:=by rw[hcl];exact cZ
    have hone2:cs.toArray.all (·.oneCell')=true:=all_oneCell_toArray hone
    have hcs2:cs.toArray.size=22:=by simpa using hcl
    clear hcs
    have HTM:=jI htm
    have HSN:=jI hsn
    have nD:=jI hone2
    have HCS:=jI hcs2
    have hkI:(k:Int)<(l.length:Int):=by omega
    have hk0:(0:Int)≤(k:Int):=by omega
    obtain⟨T,hT⟩:∃T:ByteArray,T=bs (gB d):=⟨_,rfl⟩
    have hTs:T.size≤100000000000000:=by rw[hT,fD];omega
    have HTE:=jI hT
    have hbA:∀o,Below wr.heap.size wr (wr.alloc o):=fun o=>(jQ _ _).alloc (aP _) o
    clear htm hd hlr hone hone2 hcs2 hT hsn
    go_wp2_with (first|(with_reducible refine wpList_load_mid rfl 35 (.tmp 13) rfl g (o+k * 22) rfl cs _ hrange underlying35 rfl mW ?_)|(with_reducible refine bO _ rfl rfl (.tmp 6) (.tmp 14) rfl wr.heap.size cs.toArray rfl rfl _ (jR wr _) rfl HCS.out nD.out ?_;intro W5 hr5 hg5)|(with_reducible refine gy _ rfl (.tmp 6) rfl wr.heap.size rfl _ hr5 HCS.out ?_))
    have hb5:Below wr.heap.size wr W5:=(hbA _).trans (below_grown hg5 (aP _) (by simp))
    have hs5:=hb5.size
    have tV:Below w.heap.size w W5:=hbw.trans (hb5.mono hbw.size)
    have hbd5:=pQ hbd hb5
    clear hg5 hr5 hbd hrange
    refine (Dy d _ W5 S (HTM.out.keep (aA hb5)) (fun g hg=>by have:=hS g hg;have:=tV.size;omega) (HOK.out d hmem) (HZ.out d hmem) (HP.out.below tV)).mono ?_
    rintro e W6 ⟨rfl,hb6⟩
    rw[←HTE.out]
    have hs6:=hb6.size
    have hbd6:=pQ hbd5 hb6
    have hTl:(T++(⟨#[10]⟩:ByteArray)).size=T.size+1:=by rw[ByteArray.size_append];rfl
    have hTd:T.size=(gB d).length:=by rw[HTE.out,fD]
    have hw8:(dM (l.take k)).length+(T++(⟨#[10]⟩:ByteArray)).size≤140737488355328:=by rw[hTl,hTd];simp only[fM,List.length_nil] at htk;omega
    have HW:=jI (GY W1.heap.size W1.heap.size (dM (l.take k)) (T++(⟨#[10]⟩:ByteArray)) W6 hbd6 hw8 (by omega))
    clear hbd5 hbd6 hTl hTd hw8 htk
    go_wp2_with fail
    refine HW.out.mono ?_
    rintro e W7 ⟨rfl,hbd7,hb7⟩
    have hx7:Below W1.heap.size W1 W7:=((hb2.trans (hb5.mono hsz2)).trans (hb6.mono (by omega))).trans hb7
    go_wp2
    go_roundw
    case rel=>
     refine⟨k+1,by omega,by go_num,?_,hx7⟩
     rw[HSN.out]
     have e:(T++(⟨#[10]⟩:ByteArray)).data.toList=gB d++[10]:=by
      rw[HTE.out]
      show (bs _++bs [10]).data.toList=_
      rw[iL,jH]
     rw[←e];exact hbd7
    case measure=>simp[intOf];omega
   ·obtain rfl:k=l.length:=by omega
    have hkI:¬(l.length:Int)<(l.length:Int):=by omega
    rw[List.take_length] at hbd
    have HS:=jI (Tryz.Builder_String_any W1.heap.size W1.heap.size (dM l) wr hbd hsz2)
    clear hbd
    go_wp2_with fail
    refine HS.out.mono ?_
    rintro e w5 ⟨rfl,hb5⟩
    go_wp2_with fail
    refine (BZ (bs (dM l)) w5 (by rw[jH];exact HCT.out)).mono ?_
    rintro e w6 ⟨rfl,hb6⟩
    go_wp2
    go_ret2
    rw[E1.out,jH]
    exact⟨rfl,(hbw.trans (hb5.mono (by omega))).trans (hb6.mono (by have:=hb5.size;have:=hbw.size;omega))⟩
theorem valid_any(l:List Dc)(A:Option Addr)(c:Nat)(w:World)(S:Nat→Prop)(hl:aO (dS w S) w S 22 A l)(hS:∀g,S g→g<w.heap.size)(hlim:l.length≤1000000000)(hz:∀d∈l,TLim d)(hlen:l.all vZ=true→(dM l).length≤100000000000000)(hpw:Pow w):
  Calls prog 59 #[.slice A l.length c] w fun e w'=>e=.returned (.int .i64 (eP l).2)∧Below w.heap.size w w':=by
 have HF:=jI (Jc l A c w S hl hS hlim hz hlen hpw)
 clear hl hz hlen hpw
 go_enter func59,ntmps59
 go_wp2_with fail
 refine HF.out.mono ?_
 rintro e w' ⟨rfl,hb⟩
 go_wp2
 go_ret
 exact⟨rfl,hb⟩
end
end Go.Proofs.YtmohibkomlhlaaaGreatDoor
