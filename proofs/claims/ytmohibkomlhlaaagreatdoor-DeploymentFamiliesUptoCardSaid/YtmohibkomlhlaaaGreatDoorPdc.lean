/- The contracts of weight, servers and holds: what a set satisfies. iX that are valid. A round of a loop over an iterator that appends to a row in a box. No condition. The contract of expr.Family: the minimal sets that satisfy an expression, in order. Valid expressions. Condition: the table of math/bits lies in the world. The contracts of the library's functions at this seat's program, as the kit's tool lays them (lay-shelf, lay-plain); each by one application. -/
import Derived.Test.YtmohibkomlhlaaaGreatDoorPdb
import Derived.RangeFuncBox
import Derived.RangeFuncFrom
set_option maxRecDepth 100000
set_option maxHeartbeats 4000000
namespace Go.Proofs.YtmohibkomlhlaaaGreatDoor
open Go.RowKit
open _root_.Go.Proofs.Tryz
structure ExV(x:Ex):Prop where
 len:x.nodes.length≤60
 root:0≤x.root∧x.root<x.nodes.length
 kind:∀n∈x.nodes,n.kind=1∨n.kind=2
 server:∀n∈x.nodes,0≤n.server∧n.server<12
 ws:∀n∈x.nodes,n.ws.length=0∨n.ws.length=n.kids.length
 need:∀n∈x.nodes,0≤n.need∧n.need≤100000
 wt:∀n∈x.nodes,∀v∈n.ws,1≤v∧v≤1000
 kids:∀(i:Nat)(n:Nd),x.nodes[i]?=some n→∀k∈n.kids,0≤k∧k<i
theorem Gq{i:Nat}{n:Nd}(h:ndE i n=0):(n.kind=1∨n.kind=2)∧(0≤n.server∧n.server<12)∧(n.ws.length=0∨n.ws.length=n.kids.length)∧(0≤n.need∧n.need≤100000)∧(∀v∈n.ws,1≤v∧v≤1000)∧∀k∈n.kids,0≤k∧k<i:=by
 have key:ndE.ndE2 i n=0→(0≤n.server∧n.server<12)∧(n.ws.length=0∨n.ws.length=n.kids.length)∧(0≤n.need∧n.need≤100000)∧(∀v∈n.ws,1≤v∧v≤1000)∧∀k∈n.kids,0≤k∧k<i:=by
  intro h
  unfold ndE.ndE2 at h
  split at h
  ·cases h
  ·rename_i h1
   split at h
   ·cases h
   ·rename_i h2
    split at h
    ·cases h
    ·rename_i h3
     simp only[not_or,List.any_eq_true,Bool.or_eq_true,decide_eq_true_eq,not_exists,not_and] at h1 h3
     refine⟨by omega,by omega,by omega,fun v hv=>?_,fun k hk=>?_⟩
     ·have:=h1.2.2.2.2 v hv;omega
     ·have:=h3 k hk;omega
 unfold ndE at h
 split at h
 ·rename_i h1
  split at h
  ·cases h
  ·exact⟨Or.inl h1,key h⟩
 ·split at h
  ·rename_i h2
   split at h
   ·cases h
   ·exact⟨Or.inr h2,key h⟩
  ·cases h
theorem ndsE_zero:∀{l:List Nd}{i:Nat},Ir i l=0→∀(j:Nat)(n:Nd),l[j]?=some n→ndE (i+j) n=0:=by
 intro l
 induction l with
 |nil=>intro i _ j n h;simp at h
 |cons m r ih=>
  intro i h j n hj
  rw[Ir] at h
  split at h
  ·rename_i h9;exact absurd h h9
  ·rename_i h9
   cases j with
   |zero=>simp at hj;subst hj;exact Decidable.not_not.1 h9
   |succ j=>
    have:=ih h j n (by simpa using hj)
    rw[show i+(j+1)=i+1+j by omega];exact this
theorem GH{x:Ex}(h:exE x=0):ExV x:=by
 unfold exE at h
 split at h
 ·cases h
 rename_i h0
 split at h
 ·cases h
 rename_i h60
 split at h
 ·rename_i h9;exact absurd h h9
 rename_i hn
 split at h
 ·cases h
 rename_i hr
 have hz:=ndsE_zero (Decidable.not_not.1 hn)
 have hall:∀n∈x.nodes,(n.kind=1∨n.kind=2)∧(0≤n.server∧n.server<12)∧(n.ws.length=0∨n.ws.length=n.kids.length)∧(0≤n.need∧n.need≤100000)∧(∀v∈n.ws,1≤v∧v≤1000):=fun n hn=>by
  obtain⟨j,hj,e⟩:=List.getElem_of_mem hn
  have:=Gq (hz j n (by rw[dD hj,e]))
  exact⟨this.1,this.2.1,this.2.2.1,this.2.2.2.1,this.2.2.2.2.1⟩
 exact⟨by omega,by omega,fun n hn=>(hall n hn).1,fun n hn=>(hall n hn).2.1,fun n hn=>(hall n hn).2.2.1,fun n hn=>(hall n hn).2.2.2.1,fun n hn=>(hall n hn).2.2.2.2,fun i n hi k hk=>by
  have:=(Gq (hz i n hi)).2.2.2.2.2 k hk
  omega⟩
theorem yE(n:Nd)(v:Value)(k:Nat)(w:World)(S:Nat→Prop)(hv:qB w S n v)(hS:∀g,S g→g<w.heap.size)(hk:n.ws.length=0∨k<n.ws.length)(hl:n.ws.length≤1000000000):
  Calls prog 100 #[v,.int .i64 k] w fun e w'=>e=.returned (.int .i64 (wgt n k))∧Below w.heap.size w w':=by
 obtain⟨wA,wc,kA,kc,rfl,h1,h2,h3,h4⟩:=hv
 have hbA:∀(W:World)(o:Obj),Below W.heap.size W (W.alloc o):=fun W o=>(jQ _ _).alloc (aP _) o
 obtain⟨r,hr⟩:=kE (wgt n k)
 rw[←hr]
 unfold wgt at hr
 obtain⟨N,hN⟩:=kE n.ws.length
 rw[←hN] at hr h1 h2 hk hl ⊢
 by_cases h0:N=0
 ·have h0I:((N:Int)==0)=true:=by rw[h0];rfl
  rw[if_pos h0] at hr
  have HR:=jI hr
  clear hr h0 hN h1 h3
  go_enter func100,ntmps100
  go_wp2
  go_ret
  exact⟨by rw[HR.out];rfl,hbA _ _⟩
 ·have h0I:((N:Int)==0)=false:=lM h0
  rw[if_neg h0] at hr
  have hkN:k<N:=by omega
  obtain⟨g,o,rfl,hSg,hc⟩:=h1.cells (by omega)
  have hgs:=hS g hSg
  have c0:=hc k (.int .i64 (n.ws.getD k 0)) (by rw[mV _ k (by omega),List.getD_eq_getElem?_getD,dD (by omega)];try rfl)
  have c1:=(World.cell?_alloc_lt w (.cells #[.int .i64 n.kind,.int .i64 n.server,.int .i64 n.need,.slice (some ⟨g,o,none⟩) N wc,.slice kA n.kids.length kc] 79) ⟨g,o+k,none⟩ hgs).trans c0
  have HR:=jI hr
  have hkI:(k:Int)<(N:Int):=by omega
  have hk0:(0:Int)≤(k:Int):=by omega
  rw[←hr] at c1
  clear hr h0 hN h1 h3 c0 hc hk
  go_enter func100,ntmps100
  go_wp2
  go_ret
  exact⟨rfl,hbA _ _⟩
def o8(l:List Nd):Nat:=l.foldl (fun a n=>if n.kind=1 then a|||2^n.server.toNat else a) 0
theorem yI(l:List Nd)(n:Nd):o8 (l++[n])=if n.kind=1 then o8 l|||2^n.server.toNat else o8 l:=by
 unfold o8
 rw[List.foldl_append,List.foldl_cons,List.foldl_nil]
theorem uK{l:List Nd}(h:∀n∈l,0≤n.server∧n.server<12):o8 l<4096:=by
 have key:∀(l:List Nd)(a:Nat),(∀n∈l,0≤n.server∧n.server<12)→a<4096→l.foldl (fun a n=>if n.kind=1 then a|||2^n.server.toNat else a) a<4096:=by
  intro l
  induction l with
  |nil=>intro a _ h;exact h
  |cons n r ih=>
   intro a hn ha
   rw[List.foldl_cons]
   refine ih _ (fun m hm=>hn m (List.mem_cons_of_mem _ hm)) ?_
   split
   ·have:=hn n fO
    exact Nat.or_lt_two_pow (n:=12) ha (Nat.pow_lt_pow_right (by decide) (by omega))
   ·exact ha
 exact key l 0 h (by decide)
theorem Bn(x:Ex)(v:Value)(w:World)(S:Nat→Prop)(hv:nu w S x v)(hS:∀g,S g→g<w.heap.size)(hx:ExV x):
  Calls prog 137 #[v] w fun e w'=>e=.returned (.int .u16 (o8 x.nodes:Nat))∧Below w.heap.size w w':=by
 obtain⟨A,c,rfl,hn,hc⟩:=hv
 have hbA:∀(W:World)(o:Obj),Below W.heap.size W (W.alloc o):=fun W o=>(jQ _ _).alloc (aP _) o
 obtain⟨l,rt⟩:=x
 simp only at hn hc ⊢
 obtain⟨N,hN⟩:=kE l.length
 have hN60:N≤60:=by rw[hN];exact hx.len
 have HN:=jI hn
 have HLN:=jI hN
 have HX:=jI hx
 obtain⟨W0,hW0⟩:=kE (w.alloc (.cells #[.slice A N c,.int .i64 rt] 38))
 have hb0:Below w.heap.size w W0:=by rw[hW0];exact hbA _ _
 have hs0:w.heap.size<W0.heap.size:=by rw[hW0];simp
 have hr0:W0.heap[w.heap.size]?=some (.cells #[.slice A N c,.int .i64 rt] 38 (0,0)):=by rw[hW0];exact jR w _
 have H0:=jI hW0
 rw[←hN] at hc ⊢
 clear hn hN hW0 hx
 go_enter func137,ntmps137
 go_wp2
 rw[←H0.out]
 go_loopw [3,9] (fun y x wr=>∃k:Nat,k≤N∧x=.int .i64 k∧y=.int .u16 (o8 (l.take k):Nat)∧Below W0.heap.size W0 wr) (fun _ x _=>N-(intOf x).toNat)
 case atStart=>exact⟨0,cu _,rfl,rfl,jQ _ _⟩
 case round=>
  obtain⟨k,hk,rfl,rfl,hb⟩:=hrel
  have hbw:Below w.heap.size w wr:=hb0.trans (hb.mono hb0.size)
  obtain⟨q,hq⟩:=kE (o8 (l.take k))
  have hqlt:q<4096:=by rw[hq];exact uK (fun n hn=>HX.out.server n (fF hn))
  by_cases hlt:k<N
  ·have hlt2:k<l.length:=by rw[←HLN.out];exact hlt
   obtain⟨g,o,wA,wc,kA,kc,rfl,hSg,k0,k1,k2,k3,k4,-,-,-,-⟩:=ru (HN.out.keep (P':=qB wr S) (aj hbw hS) (fun _ _ h=>h.keep (aj hbw hS))) hlt2
   have hgs:g<wr.heap.size:=by have:=hS g hSg;have:=hbw.size;omega
   obtain⟨n,hn⟩:=kE (l[k])
   obtain⟨sv,hsv⟩:∃sv:Nat,sv=n.server.toNat:=⟨_,rfl⟩
   have hmem:n∈l:=by rw[hn];exact bQ hlt2
   have hsn:=HX.out.server n hmem
   have hsv12:sv<12:=by omega
   have e1:n.server=(sv:Nat):=by omega
   have Fj:=yI (l.take k) l[k]
   rw[←nI l k hlt2,←hn,←hq,←hsv] at Fj
   rw[←hn] at k0 k1 k2 k3 k4
   rw[e1] at k1
   rw[←hq]
   have HSN:=jI Fj
   have hkI:(k:Int)<(N:Int):=by omega
   have hk0:(0:Int)≤(k:Int):=by omega
   clear hq hn hsv e1 hsn Fj hlt2
   by_cases h1:n.kind=1
   ·have h9:=HSN.out
    rw[if_pos h1] at h9
    have HS9:=jI h9
    have hob:=or_bit q sv (by omega) (by omega)
    obtain⟨kd,hkd⟩:=kE n.kind
    rw[←hkd] at k0 h1
    clear h9 HSN hkd
    subst h1
    go_wp2
    go_roundw
    case rel=>exact⟨k+1,by omega,by go_num,congrArg (Value.int .u16) (by rw[HS9.out];exact hob),hb.trans ((hbA wr _).mono hb.size)⟩
    case measure=>simp[intOf];omega
   ·have h1b:(n.kind==1)=false:=by rw[bP];exact h1
    have h9:=HSN.out
    rw[if_neg h1] at h9
    have HS9:=jI h9
    clear h9 HSN
    go_wp2
    go_roundw
    case rel=>exact⟨k+1,by omega,by go_num,congrArg (Value.int .u16) (by rw[HS9.out]),hb.trans ((hbA wr _).mono hb.size)⟩
    case measure=>simp[intOf];omega
  ·obtain rfl:k=N:=by omega
   have hkI:¬(k:Int)<(k:Int):=by omega
   have e2:l.take k=l:=by rw[HLN.out,List.take_length]
   rw[e2] at hq
   rw[e2,←hq]
   have HQ:=jI hq
   clear hq e2
   go_wp2
   go_ret
   exact⟨by rw[←HQ.out];rfl,hbw⟩
theorem bitS(s k:Nat)(h:s<65536):(bits .and .u16 ((s:Int) / 2^k) 1==1)=s.testBit k:=by
 have hd:s / 2^k<65536:=fG (Nat.div_le_self _ _) h
 have e:((s:Int) / 2^k)=((s / 2^k:Nat):Int):=by simp
 rw[←mK,e,show (1:Int)=((1:Nat):Int) from rfl,u16_and_nat (s / 2^k) 1 hd (by decide)]
 rw[Bool.eq_iff_iff];simp only[beq_iff_eq];omega
def boolRow(l:List Bool):Array Value:=(l.map Value.bool++List.replicate (60-l.length) (Value.bool false)).toArray
abbrev bools60:Array Value:=#[.bool false,.bool false,.bool false,.bool false,.bool false,.bool false,.bool false,.bool false,.bool false,.bool false,.bool false,.bool false,.bool false,.bool false,.bool false,.bool false,.bool false,.bool false,.bool false,.bool false,.bool false,.bool false,.bool false,.bool false,.bool false,.bool false,.bool false,.bool false,.bool false,.bool false,.bool false,.bool false,.bool false,.bool false,.bool false,.bool false,.bool false,.bool false,.bool false,.bool false,.bool false,.bool false,.bool false,.bool false,.bool false,.bool false,.bool false,.bool false,.bool false,.bool false,.bool false,.bool false,.bool false,.bool false,.bool false,.bool false,.bool false,.bool false,.bool false,.bool false]
theorem FT:boolRow []=bools60:=rfl
theorem xL(l:List Bool)(i:Nat)(h:i<l.length):(boolRow l)[i]?=some (.bool (l.getD i false)):=by
 unfold boolRow
 rw[List.getElem?_toArray,gL (by simpa using h),List.getElem?_map,List.getD_eq_getElem?_getD,dD h]
 rfl
theorem zM(l:List Bool)(h:l.length<60):(boolRow l)[l.length]?=some (.bool false):=by
 unfold boolRow
 rw[List.getElem?_toArray,gM (by simp),List.length_map,Nat.sub_self,List.getElem?_replicate,if_pos (by omega)]
theorem FR(l:List Bool)(b:Bool)(h:l.length<60):(boolRow l).setIfInBounds l.length (.bool b)=boolRow (l++[b]):=by
 unfold boolRow
 rw[List.setIfInBounds_toArray,List.set_append_right _ _ (by simp),List.length_map,Nat.sub_self,show 60-l.length=(60-(l++[b]).length)+1 by simp;omega,List.replicate_succ,List.set_cons_zero,List.map_append,List.append_assoc]
 rfl
def sumTo(n:Nd)(l:List Bool)(k:Nat):Int:=((List.range k).map fun k=>if l.getD (n.kids.getD k 0).toNat false then wgt n k else 0).sum
theorem yH(n:Nd)(l:List Bool)(k:Nat):sumTo n l (k+1)=sumTo n l k+if l.getD (n.kids.getD k 0).toNat false then wgt n k else 0:=by
 unfold sumTo
 rw[List.range_succ,List.map_append,List.sum_append]
 simp
theorem F4{n:Nd}(h:∀v∈n.ws,1≤v∧v≤1000){k:Nat}(hk:n.ws.length=0∨k<n.ws.length):1≤wgt n k∧wgt n k≤1000:=by
 unfold wgt
 split
 ·decide
 ·have h2:k<n.ws.length:=by omega
  rw[List.getD_eq_getElem?_getD,dD h2]
  exact h _ (bQ h2)
theorem sumTo_in{n:Nd}(l:List Bool)(h:∀v∈n.ws,1≤v∧v≤1000)(hw:n.ws.length=0∨n.ws.length=n.kids.length):∀k,k≤n.kids.length→0≤sumTo n l k∧sumTo n l k≤1000 * k:=by
 intro k
 induction k with
 |zero=>intro _;simp[sumTo]
 |succ k ih=>
  intro hk
  have:=ih (by omega)
  have:=F4 h (k:=k) (by omega)
  rw[yH]
  split<;>omega
theorem holds_any(x:Ex)(s:Nat)(hs:s<65536)(v:Value)(w:World)(S:Nat→Prop)(hv:nu w S x v)(hS:∀g,S g→g<w.heap.size)(hx:ExV x)(hl:NdLim x.nodes):
  Calls prog 138 #[v,.int .u16 s] w fun e w'=>e=.returned (.bool (bW x s))∧Below w.heap.size w w':=by
 obtain⟨A,c,rfl,hn,hc⟩:=hv
 have hbA:∀(W:World)(o:Obj),Below W.heap.size W (W.alloc o):=fun W o=>(jQ _ _).alloc (aP _) o
 obtain⟨l,rt⟩:=x
 have hroot:=hx.root
 have hlen:=hx.len
 simp only at hn hc hl hroot hlen ⊢
 obtain⟨R,rfl⟩:∃R:Nat,rt=(R:Nat):=⟨rt.toNat,by omega⟩
 obtain⟨N,hN⟩:=kE l.length
 have HR:=jI (show bW ⟨l,(R:Nat)⟩ s=(holdsGo s (l.take (R+1))).getD R false by simp[bW])
 have HN:=jI hn
 have HLN:=jI hN
 have HX:=jI hx
 have HL:=jI hl
 have hRN:R<N:=by omega
 have hRI:(R:Int)<(N:Int):=by omega
 have hRc:(R:Int)+1≤(c:Int):=by omega
 have hR0:(0:Int)≤(R:Int):=by omega
 rw[←hN] at hc hlen ⊢
 obtain⟨W0,hW0⟩:=kE ((w.alloc (.cells #[.slice A N c,.int .i64 R] 38)).alloc (.cells bools60 239))
 have hb0:Below w.heap.size w W0:=by rw[hW0];exact (hbA _ _).alloc (by simp) _
 have hs0:w.heap.size+1<W0.heap.size:=by rw[hW0];simp
 have hr0:W0.heap[w.heap.size]?=some (.cells #[.slice A N c,.int .i64 R] 38 (0,0)):=by rw[hW0];exact heap_alloc2_old _ _ _
 have hr1:W0.heap[w.heap.size+1]?=some (.cells (boolRow []) 239 (0,0)):=by rw[hW0,FT];exact heap_alloc2_new _ _ _
 obtain⟨d0,d1⟩:=aG hr0
 have HR0:=jI hr0
 have HR1:=jI hr1
 have H0:=jI hW0
 have hRs:R+1≤60:=by omega
 clear hn hN hW0 hx hl hroot hr0 hr1 hs0
 go_enter func138,ntmps138
 go_upto_region 2 with fail
 rw[←H0.out]
 go_wp2
 go_loopw [18] (fun x wr=>∃k:Nat,k≤R+1∧x=.int .i64 k∧Below w.heap.size w wr∧Hid (wr.heap[w.heap.size]?=some (.cells #[.slice A N c,.int .i64 R] 38 (0,0)))∧Hid (wr.heap[w.heap.size+1]?=some (.cells (boolRow (holdsGo s (l.take k))) 239 (0,0)))) (fun x _=>R+1-(intOf x).toNat)
 case atStart=>exact⟨0,cu _,rfl,hb0,HR0,HR1⟩
 case round=>
  rename World=>w1
  obtain⟨k,hk,rfl,hbw,hq0,hq1⟩:=hrel
  obtain⟨L,hL⟩:=kE (holdsGo s (l.take k))
  have hLk:L.length=k:=by rw[hL,di,fH];have:=HLN.out;omega
  rw[←hL] at hq1
  have hlt1:=jS hq1.out
  by_cases hlt:k<R+1
  ·have hlt2:k<l.length:=by have:=HLN.out;omega
   obtain⟨g,o,wA,wc,kA,kc,rfl,hSg,k0,k1,k2,k3,k4,q1,q2,q3,q4⟩:=ru (HN.out.keep (P':=qB w1 S) (aj hbw hS) (fun _ _ h=>h.keep (aj hbw hS))) hlt2
   have hgs:g<w1.heap.size:=by have:=hS g hSg;have:=hbw.size;omega
   obtain⟨n,hn⟩:=kE (l[k])
   obtain⟨sv,hsv⟩:∃sv:Nat,sv=n.server.toNat:=⟨_,rfl⟩
   have hmem:n∈l:=by rw[hn];exact bQ hlt2
   have hsn:=HX.out.server n hmem
   have hsv12:sv<12:=by omega
   have e1:n.server=(sv:Nat):=by omega
   have Fj:=eD s (l.take k) l[k]
   rw[←nI l k hlt2,←hn,←hL] at Fj
   rw[←hn] at k0 k1 k2 k3 k4 q1 q2 q3 q4
   rw[e1] at k1
   have HSN:=jI Fj
   have HSV:=jI hsv
   have HKD:=jI (HX.out.kids k n (by rw[dD hlt2,hn]))
   have HMEM:=jI hmem
   have HLK:=jI hLk
   have hkI:(k:Int)<(R:Int)+1:=by omega
   have hk0:(0:Int)≤(k:Int):=by omega
   have hk60:(k:Int)<60:=by omega
   have hks:=HX.out.kind n hmem
   have hf1:=jT _ _ k _ _ hq1.out
   obtain⟨kd,hkd⟩:=kE n.kind
   rw[←hkd] at k0 hks
   have HKK:=jI hkd
   clear hn hsv e1 hsn Fj hlt2 hmem hL hLk hkd
   have hcl:w1.cell? ⟨w.heap.size+1,k,none⟩=some (.bool false):=by
    rw[j5 _ _ k _ _ _ hq1.out,←HLK.out]
    exact zM L (by have:=HLK.out;omega)
   have hq0':=fun(X:World)(hX:Below w1.heap.size w1 X)(u:Value)=>jI (show (X.setCell ⟨w.heap.size+1,k,none⟩ u).heap[w.heap.size]?=_ from (kC X ⟨w.heap.size+1,k,none⟩ u w.heap.size (show w.heap.size≠w.heap.size+1 by omega)).trans ((hX.block _ (jS hq0.out)).trans hq0.out))
   have hq1':=fun(X:World)(hX:Below w1.heap.size w1 X)(b:Bool)=>jI (show (X.setCell ⟨w.heap.size+1,k,none⟩ (.bool b)).heap[w.heap.size+1]?=some (.cells (boolRow (L++[b])) 239 (0,0)) by
    have h9:=aF ((hX.block _ hlt1).trans hq1.out) (i:=k) (.bool b)
    rw[h9]
    have h8:=FR L b (by have:=HLK.out;omega)
    rw[HLK.out] at h8
    rw[h8])
   have HQ0:=jI hq0'
   have HQ1:=jI hq1'
   clear hq0' hq1'
   obtain⟨M,hM⟩:=kE n.kids.length
   have hlim:=HL.out n HMEM.out
   have hwt:=HX.out.wt n HMEM.out
   have hwl:=HX.out.ws n HMEM.out
   have hnd:=HX.out.need n HMEM.out
   rw[←hM] at k4 q3 q4 hwl
   have hM9:M≤1000000000:=by omega
   have HMM:=jI hM
   have HSUM:=jI (sumTo_in L hwt (HX.out.ws n HMEM.out))
   have HWT:=jI hwt
   obtain⟨nd,hnd1⟩:=kE n.need
   rw[←hnd1] at k2 hnd
   have HND:=jI hnd1
   obtain⟨w5,hw5⟩:=kE (w1.alloc (.cells #[.int .i64 kd,.int .i64 (sv:Nat),.int .i64 nd,.slice wA n.ws.length wc,.slice kA M kc] 79))
   have hb5:Below w1.heap.size w1 w5:=by rw[hw5];exact hbA _ _
   have hr5:w5.heap[w1.heap.size]?=some (.cells #[.int .i64 kd,.int .i64 (sv:Nat),.int .i64 nd,.slice wA n.ws.length wc,.slice kA M kc] 79 (0,0)):=by rw[hw5];exact jR _ _
   have hr51:w5.heap[w.heap.size+1]?=some (.cells (boolRow L) 239 (0,0)):=(hb5.block _ hlt1).trans hq1.out
   have HR5:=jI hr5
   have HR51:=jI hr51
   have HQ3:=jI q3
   have HND5:=jI (show qB w1 S n (.agg #[.int .i64 kd,.int .i64 (sv:Nat),.int .i64 nd,.slice wA n.ws.length wc,.slice kA M kc]) from
    ⟨wA,wc,kA,kc,by rw[HKK.out,HND.out,HMM.out,HSV.out,Int.toNat_of_nonneg (HX.out.server n HMEM.out).1],q1,q2,by rw[←HMM.out];exact q3,by rw[←HMM.out];exact q4⟩)
   have H5:=jI hw5
   obtain⟨z0,z1,z2,z3,z4⟩:=aV hr5
   have z5:=(hb5.cell (p:=⟨w.heap.size+1,k,none⟩) hlt1).trans hcl
   have z6:=jT _ _ k _ _ hr51
   have hk5:w1.heap.size<w5.heap.size:=jS hr5
   have HN60:=jI hM9
   clear hw5 hr5 hr51 hM hnd1 hwt q3 q1 hcl
   rcases hks with rfl|rfl
   ·have hbt:=bitS s sv hs
    go_upto_region 6 with fail
    rw[←H5.out]
    go_wp2
    go_roundw
    case rel=>
     have e9:holdsGo s (l.take (k+1))=L++[s.testBit sv]:=by rw[HSN.out,iT,if_pos HKK.out.symm,←HSV.out]
     exact⟨k+1,by omega,by go_num,(hbw.trans (hb5.mono hbw.size)).setCell (p:=⟨w.heap.size+1,k,none⟩) (Nat.le_succ _) _,HQ0.out _ hb5 _,by rw[e9];exact HQ1.out _ hb5 _⟩
    case measure=>simp[intOf];omega
   ·go_upto_region 7 with fail
    rw[←H5.out]
    go_wp2
    go_loopw [8,37] (fun y x wn=>∃j:Nat,j≤M∧x=.int .i64 j∧y=.int .i64 (sumTo n L j)∧Below w5.heap.size w5 wn) (fun _ x _=>M-(intOf x).toNat)
    case atStart=>exact⟨0,cu _,rfl,rfl,jQ _ _⟩
    case round=>
     obtain⟨j,hj,rfl,rfl,hbn⟩:=hrel
     have hbwn:Below w1.heap.size w1 wr:=hb5.trans (hbn.mono hb5.size)
     have hsum:=HSUM.out j (by rw[←HMM.out];exact hj)
     obtain⟨sm,hsm⟩:=kE (sumTo n L j)
     have hs1:=yH n L j
     rw[←hsm] at hs1 hsum ⊢
     have HSS:=jI hs1
     have HSM:=jI hsm
     clear hs1 hsm
     obtain⟨y0,y1,y2,y3,y4⟩:=aV ((hbn.block _ hk5).trans HR5.out)
     have hr9:=(hbn.block _ (jS HR51.out)).trans HR51.out
     by_cases hjM:j<M
     ·have hj2:j<n.kids.length:=by rw[←HMM.out];exact hjM
      obtain⟨gk,ok,rfl,hSk,hck⟩:=(HQ3.out.keep (aj hbwn (fun g hg=>by have:=hS g hg;have:=hbw.size;omega))).cells (by omega)
      obtain⟨zN,hzN⟩:∃zN:Nat,zN=n.kids[j].toNat:=⟨_,rfl⟩
      have hz:=HKD.out n.kids[j] (bQ hj2)
      have hzk:zN<k:=by omega
      have hzi:n.kids[j]=(zN:Nat):=by omega
      have x0:=hck j _ (show (bY n.kids)[j]?=some (.int .i64 n.kids[j]) by rw[mV _ j hj2,List.getD_eq_getElem?_getD,dD hj2];rfl)
      rw[hzi] at x0
      have x1:wr.cell? ⟨w.heap.size+1,zN,none⟩=some (.bool (L.getD zN false)):=by
       rw[j5 _ _ zN _ _ _ hr9]
       exact xL L zN (by have:=HLK.out;omega)
      have hgd:(n.kids.getD j 0).toNat=zN:=by rw[List.getD_eq_getElem?_getD,dD hj2];exact hzN.symm
      have h9:=HSS.out
      rw[hgd] at h9
      have hgks:gk<wr.heap.size:=by have:=hS gk hSk;have:=hbw.size;have:=hbwn.size;omega
      have hjI:(j:Int)<(M:Int):=by omega
      have hj0:(0:Int)≤(j:Int):=by omega
      have hzI:(zN:Int)<60:=by omega
      have hz0:(0:Int)≤(zN:Int):=by omega
      obtain⟨bb,hbb⟩:=kE (L.getD zN false)
      rw[←hbb] at h9 x1
      have HS9:=jI h9
      clear h9 hgd hzN hz hzi hbb hck hj2 HSS
      cases bb
      ·go_wp2
       go_roundw
       case rel=>exact⟨j+1,by omega,by go_num,by rw[HS9.out];simp,hbn⟩
       case measure=>simp[intOf];omega
      ·have hwi:=F4 HWT.out (k:=j) (by omega)
       have HWC:=jI (yE n _ j wr S (HND5.out.keep (aj hbwn (fun g hg=>by have:=hS g hg;have:=hbw.size;omega))) (fun g hg=>by have:=hS g hg;have:=hbw.size;have:=hbwn.size;omega) (by omega) hlim.1)
       obtain⟨wg,hwg⟩:=kE (wgt n j)
       rw[←hwg] at HWC HS9 hwi
       have hwrap:IntKind.i64.wrap (sm+wg)=sm+wg:=IntWalk.i64_in _ (by omega)
       clear hwg
       go_wp2_with fail
       refine HWC.out.mono ?_
       rintro e w8 ⟨rfl,hb8⟩
       go_wp2
       go_roundw
       case rel=>exact⟨j+1,by omega,by go_num,by rw[HS9.out];simp,hbn.trans (hb8.mono hbn.size)⟩
       case measure=>simp[intOf];omega
     ·obtain rfl:j=M:=by omega
      have hjI:¬(j:Int)<(j:Int):=by omega
      have x0:=(hbwn.cell (p:=⟨w.heap.size+1,k,none⟩) hlt1)
      have x2:wr.cell? ⟨w.heap.size+1,k,none⟩=some (.bool false):=by
       rw[j5 _ _ k _ _ _ hr9,←HLK.out]
       exact zM L (by have:=HLK.out;omega)
      have x3:=jT _ _ k _ _ hr9
      clear x0
      go_wp2
      go_roundw
      case rel=>
       have e9:holdsGo s (l.take (k+1))=L++[decide (nd≤sm)]:=by
        rw[HSN.out,iT,if_neg (by rw[←HKK.out];decide),HSM.out,HND.out,HMM.out];rfl
       exact⟨k+1,by omega,by go_num,(hbw.trans (hbwn.mono hbw.size)).setCell (p:=⟨w.heap.size+1,k,none⟩) (Nat.le_succ _) _,HQ0.out _ hbwn _,by rw[e9];exact HQ1.out _ hbwn _⟩
      case measure=>simp[intOf];omega
  ·obtain rfl:k=R+1:=by omega
   have hkI:¬(R:Int)+1<(R:Int)+1:=by omega
   obtain⟨y0,y1⟩:=aG hq0.out
   have x2:w1.cell? ⟨w.heap.size+1,R,none⟩=some (.bool (L.getD R false)):=by
    rw[j5 _ _ R _ _ _ hq1.out]
    exact xL L R (by omega)
   have HE:=jI (HR.out.trans (show _=L.getD R false by rw[hL]))
   have hR60:(R:Int)<60:=by omega
   clear hL hLk
   go_wp2
   go_ret
   exact⟨by rw[HE.out];rfl,hbw⟩
theorem bI{β:Type}(B b:Nat)(cs:Array Value)(t:TypeId)(fr:Nat × Nat):OwnFrom B (fun(_:β) W=>W.heap[b]?=some (Obj.cells cs t fr)):=fun s W W' row hs hg hr=>
 (hg.block b (jS hs) (fun e=>by obtain⟨-,o,ho,hc⟩:=hr b e.symm;rw[hs] at ho;cases ho;cases hc)).trans hs
theorem ig{W W':World}(h:Below W.heap.size W W'):KeepsOthers W W':=⟨h.size,fun k _ hk _=>(h.block k (Array.getElem?_eq_some_iff.1 hk).1).trans hk⟩
structure RowStep(W w1 w9:World)(N3 B:Nat)(T:TypeId)(v v':Value)(S:Nat→Prop)(n0:Nat):Prop where
 box:w1.heap[B]?=some (.cells #[v] T (0,0))
 box9:w9.heap[B]?=some (.cells #[v'] T (0,0))
 mid:∀g,g<N3→w1.heap[g]?=W.heap[g]?
 old:∀g,g<N3→g≠B→w9.heap[g]?=W.heap[g]?
 old2:∀g,g<W.heap.size→g≠B→v.ownBlock≠some g→w9.heap[g]?=W.heap[g]?
 others:KeepsOthers W w9
 keep:gm S W w9
 below:Below n0 W w9
theorem Ey{W W2 w1:World}{N3 B e size n n0:Nat}{T:TypeId}{v:Value}(v':Value){xs:List Value}{tmp:Obj}{S:Nat→Prop}(hbW:Below W.heap.size W W2)(hN:N3≤W.heap.size)(hB:W.heap[B]?=some (.cells #[v] T (0,0)))(hBN:B<N3)(hrow:W2.ownsRow N3 e size v n xs)
  (hg:(W2.alloc tmp).grownBy w1 v.ownBlock) (hT:T≠3) (he:e≠3) (hS:∀g,S g→g≠B∧v.ownBlock≠some g) (h0:n0≤B):RowStep W w1 (w1.setCell ⟨B,0,none⟩ v') N3 B T v v' S n0:=by
 have hlo:∀g,v.ownBlock=some g→N3≤g:=fun g e=>(hrow.lt g e).1
 have hs2:=hbW.size
 have hold:∀g,g<W.heap.size→v.ownBlock≠some g→w1.heap[g]?=W.heap[g]?:=fun g hl hne=>by
  rw[hg.block g (by simp;omega) (fun e=>hne e.symm),Below.heap_alloc _ _ g (by omega),hbW.block g hl]
 have hold3:∀g,g<N3→w1.heap[g]?=W.heap[g]?:=fun g hl=>hold g (by omega) (fun e=>by have:=hlo g e;omega)
 have hset:∀g,g≠B→(w1.setCell ⟨B,0,none⟩ v').heap[g]?=w1.heap[g]?:=fun g hne=>kC w1 _ v' g hne
 have hbox:=(hold3 B hBN).trans hB
 refine⟨hbox,aF hbox v',hold3,fun g h1 h2=>(hset g h2).trans (hold3 g h1),fun g h1 h2 h3=>(hset g h2).trans (hold g h1 h3),?_,⟨fun g o hSg hgo=>?_,fun g cs fr hgo=>?_⟩,?_⟩
 ·refine ((ig hbW).trans ((KeepsOthers.alloc W2 tmp).trans (KeepsOthers.of_grownBy hg fun j o ej hj=>?_))).trans (KeepsOthers.setCell _ _ _)
  rcases hrow.2 with ⟨rfl,_⟩|⟨g,cap,cur,rfl,_,hgb,_⟩
  ·simp[Value.ownBlock] at ej
  ·obtain rfl:g=j:=by simpa [Value.ownBlock] using ej
   rw[Below.heap_alloc _ _ g (Array.getElem?_eq_some_iff.1 hgb).1,hgb] at hj;cases hj;rfl
 ·obtain⟨h1,h2⟩:=hS g hSg
  exact ((hset g h1).trans (hold g (Array.getElem?_eq_some_iff.1 hgo).1 h2)).trans hgo
 ·have hl:=(Array.getElem?_eq_some_iff.1 hgo).1
  have hgB:g≠B:=fun e9=>by rw[e9,hB] at hgo;simp only[Option.some.injEq,Obj.cells.injEq] at hgo;exact hT hgo.2.1
  have hgr:v.ownBlock≠some g:=fun e9=>by
   rcases hrow.2 with ⟨rfl,-⟩|⟨g1,c1,cur1,rfl,-,h1,-⟩
   ·cases e9
   ·simp only[Value.ownBlock,Option.some.injEq] at e9
    rw[e9,hbW.block g hl,hgo] at h1
    simp only[Option.some.injEq,Obj.cells.injEq] at h1
    exact he h1.2.1.symm
  exact ((hset g hgB).trans (hold g hl hgr)).trans hgo
 ·have hn0:n0≤W.heap.size:=by omega
  exact (((hbW.mono hn0).alloc (by omega) tmp).grown hg (by simp;omega) (fun j ej=>by have:=hlo j ej;omega)).setCell (p:=⟨B,0,none⟩) h0 v'
theorem ownBlock_ne{W:World}{base e s n b:Nat}{v:Value}{xs:List Value}(h:W.ownsRow base e s v n xs){cs:Array Value}{T:TypeId}{fr:Nat × Nat}(hb:W.heap[b]?=some (.cells cs T fr))(hne:e≠T):v.ownBlock≠some b:=by
 intro hv
 rcases h.2 with ⟨rfl,-⟩|⟨g1,c1,cur1,rfl,-,h1,-⟩
 ·cases hv
 ·simp only[Value.ownBlock,Option.some.injEq] at hv
  rw[hv,hb] at h1
  simp only[Option.some.injEq,Obj.cells.injEq] at h1
  exact hne h1.2.1.symm
theorem gm.less{S S':Nat→Prop}{A B:World}(h:gm S A B)(hS:∀g,S' g→S g):gm S' A B:=⟨fun g o hg ho=>h.1 g o (hS g hg) ho,h.2⟩
theorem gq{W:World}{l g:Nat}(o':Obj)(h:g≠l):(W.putObj l o').heap[g]?=W.heap[g]?:=by
 simp only[World.putObj,Array.getElem?_setIfInBounds,if_neg (fun e:l=g=>h e.symm)]
theorem wN{S:Nat→Prop}{N:Nat}(hS:∀g,S g→g<N):∀(W:World)(l:Nat)(o o':Obj),N≤l→W.heap[l]?=some o→o.isCells=false→o.isWalk=false→gm S W (W.putObj l o'):=by
 intro W l o o' hl ho hc _
 refine⟨fun g o9 hg h9=>(gq o' (fun e=>by have:=hS g hg;omega)).trans h9,fun g cs fr h9=>(gq o' (fun e=>?_)).trans h9⟩
 rw[e,ho] at h9
 cases h9
 cases hc
theorem results_two{fn:Func}{p u:Tmp}{t t':TypeId}(h:fn.results=#[.cell p t,.cell u t'])(tmps:Array Value)(P:Program)(w:World):
  (results fn tmps).run P w=
   ((asAddr (tmps.getD p undef)).run P w).andThen fun a w₁=>((loadVar t a).run P w₁).andThen fun v w₂=>((asAddr (tmps.getD u undef)).run P w₂).andThen fun a' w₃=>((loadVar t' a').run P w₃).andThen fun v' w₄=>.ok (.tuple #[v,v']) w₄:=by
 simp only[results,h]
 simp[Sem.run_bind,Result.andThen]
theorem Ag{fn:Func}{p u:Tmp}{tmps:Array Value}{W:World}{r r':Nat}{A:Option Addr}{n c:Nat}{er:Int}(h:fn.results=#[.cell p 51,.cell u 39])(hp:tmps.getD p undef=.pointer (some ⟨r,0,none⟩))(hu:tmps.getD u undef=.pointer (some ⟨r',0,none⟩))
  {T T':TypeId} (h1:W.heap[r]?=some (.cells #[.slice A n c] T (0,0))) (h2:W.heap[r']?=some (.cells #[.int .i64 er] T' (0,0))):(results fn tmps).run prog W=.ok (.tuple #[.slice A n c,.int .i64 er]) W:=by
 have c1:=j5 W _ 0 _ _ _ h1
 have c2:=j5 W _ 0 _ _ _ h2
 rw[results_two h,hp,hu]
 simp[go_sem,c1,c2]
theorem Gy{fn:Func}{p u:Tmp}{tmps:Array Value}{W:World}{r r':Nat}{A:Option Addr}{n c:Nat}{er:Int}(h:fn.results=#[.cell p 52,.cell u 39])(hp:tmps.getD p undef=.pointer (some ⟨r,0,none⟩))(hu:tmps.getD u undef=.pointer (some ⟨r',0,none⟩))
  {T T':TypeId} (h1:W.heap[r]?=some (.cells #[.slice A n c] T (0,0))) (h2:W.heap[r']?=some (.cells #[.int .i64 er] T' (0,0))):(results fn tmps).run prog W=.ok (.tuple #[.slice A n c,.int .i64 er]) W:=by
 have c1:=j5 W _ 0 _ _ _ h1
 have c2:=j5 W _ 0 _ _ _ h2
 rw[results_two h,hp,hu]
 simp[go_sem,c1,c2]
end Go.Proofs.YtmohibkomlhlaaaGreatDoor
namespace Go.Proofs.YtmohibkomlhlaaaGreatDoor
open Go.RowKit
open _root_.Go.Proofs.Tryz
attribute [local go_sem] Oper.semAt_some
def lQ(x:Ex)(out:List Nat)(s:Nat):List Nat:=if bW x s&&!accepts out s then out++[s] else out
def jY(x:Ex)(l:List Nat):List Nat:=l.foldl (lQ x) []
def pu(x:Ex):List Nat × Nat:=
 if exE x≠0 then ([],exE x)
 else if 400<(jY x (ku (o8 x.nodes))).length then ([],3) else (jY x (ku (o8 x.nodes)),0)
theorem oW(x:Ex)(l:List Nat)(s:Nat):jY x (l++[s])=lQ x (jY x l) s:=by
 unfold jY
 rw[List.foldl_append,List.foldl_cons,List.foldl_nil]
theorem famTo_len(x:Ex){pre l:List Nat}(h:pre <+: l):(jY x pre).length≤(jY x l).length:=by
 obtain⟨r,rfl⟩:=h
 unfold jY
 rw[List.foldl_append]
 generalize pre.foldl (lQ x) []=a
 induction r generalizing a with
 |nil=>exact aP _
 |cons s r ih=>
  rw[List.foldl_cons]
  refine cK ?_ (ih _)
  unfold lQ
  split
  ·simp
  ·exact aP _
theorem Dq(x:Ex)(l:List Nat):∀s∈jY x l,s∈l:=by
 have key:∀(l a:List Nat),∀s∈l.foldl (lQ x) a,s∈a∨s∈l:=by
  intro l
  induction l with
  |nil=>intro a s h;exact Or.inl h
  |cons y r ih=>
   intro a s h
   rw[List.foldl_cons] at h
   rcases ih _ s h with h|h
   ·unfold lQ at h
    split at h
    ·rcases List.mem_append.1 h with h|h
     ·exact Or.inl h
     ·exact Or.inr (List.mem_cons.2 (Or.inl (List.mem_singleton.1 h)))
    ·exact Or.inl h
   ·exact Or.inr (List.mem_cons_of_mem _ h)
 intro s h
 rcases key l [] s h with h|h
 ·cases h
 ·exact h
def Bz(l:List Nat)(er:Nat)(w:World)(e:Ending)(w':World):Prop:=∃A c,e=.returned (.tuple #[.slice A l.length c,.int .i64 (er:Nat)])∧ak w' (w.heap.size≤·) 1 A l.length (dH l)∧l.length≤c∧Below w.heap.size w w'
theorem CU:(prog.info? 28).map (fun i=>(i.zero,i.size,i.bytes))=some (some (.int .u16 0),1,2):=by kernel_rfl
theorem Ia{F:Fence}{m:Nat}(w:World){ops:Array Oper}{rest:List Oper}{o:Oper}{a:Act}{Q:Exit→Act→World→Prop}(hgd:o.guard=none)(s x:Operand)
  (ho:o.op=.call { callee:=.builtin .append,args:=#[s,x],argTypes:=#[51,51] })
  (base:Nat) (v:Value) (n:Nat) (xs:List Value) (hown:w.ownsRow base 28 1 v n xs) (hs:a.eval s=v)
  (y:Nat) (hx:a.eval x=.slice (some ⟨w.heap.size,0,none⟩) 1 1) (hlim:n≤100000000000) (hbase:base≤w.heap.size)
  (h:∀v' w',w'.ownsRow base 28 1 v' (n+1) (xs++[.int .u16 (y:Nat)])→(w.alloc (.cells #[.int .u16 (y:Nat)] 28)).grownBy w' v.ownBlock→wpListIn F m prog ops Q rest (a.put o.dst v') w'):
  wpListIn F m prog ops Q (o::rest) a (w.alloc (.cells #[.int .u16 (y:Nat)] 28)):=by
 obtain⟨i0,hi,hz0,hz1,hz2⟩:=info_parts CU
 exact wpListIn_append_own _ hgd s x 51 ho base 28 i0 (.int .u16 0) 1 2 underlying51 hi hz0 hz1 hz2 rfl (by decide) v n xs hs (hown.alloc _) ⟨w.heap.size,0,none⟩ 1 1 [.int .u16 (y:Nat)] hx rfl (cell_one_new _ _ _) (by simp[Value.oneCell']) (cK (show n+1≤100000000001 by omega) (by decide)) (by omega) (by simp;omega) (fun v' w' h1 h2 _=>h v' w' h1 h2)
def FamI(x:Ex)(w:World)(B N3:Nat)(A:Option Addr)(c:Nat)(pre:List Nat)(W:World):Prop:=
 ((W.heap[w.heap.size]?=some (.cells #[.slice A x.nodes.length c,.int .i64 x.root] 38 (0,0))∧W.heap[w.heap.size+1]?=some (.cells #[.slice none 0 0] 51 (0,0))∧W.heap[w.heap.size+1+1]?=some (.cells #[.int .i64 0] 39 (0,0)))∧
  ∃v,Boxed W B 51 v∧W.ownsRow N3 28 1 v (jY x pre).length (dH (jY x pre))∧(jY x pre).length≤400)∧Below w.heap.size w W∧N3≤W.heap.size
theorem famI_own(x:Ex)(w:World)(B N3 N:Nat)(A:Option Addr)(c:Nat)(hN:w.heap.size≤N):OwnFrom N (FamI x w B N3 A c):=
 (((bI N _ _ _ _).and ((bI N _ _ _ _).and (bI N _ _ _ _))).and
  (Own.from (holdsRow_own N3 B 51 28 1 (fun pre=>(jY x pre).length) (fun pre=>dH (jY x pre)) (fun pre _=>(jY x pre).length≤400)) N)).and ((ownFrom_below (aP _) hN).and (fun _ _ _ _ hs hg _=>cK hs hg.size))
theorem Jj(x:Ex)(v:Value)(w:World)(S:Nat→Prop)(hv:nu w S x v)(hS:∀g,S g→g<w.heap.size)(hl:NdLim x.nodes)(hz:Tz w):
  Calls prog 102 #[v] w (Bz (pu x).1 (pu x).2 w):=by
 have hbA:∀(W:World)(o:Obj),Below W.heap.size W (W.alloc o):=fun W o=>(jQ _ _).alloc (aP _) o
 have HEX:=jI hv
 obtain⟨A,c,rfl,hn,hc⟩:=hv
 obtain⟨W0,hW0⟩:=kE (((w.alloc (.cells #[.slice A x.nodes.length c,.int .i64 x.root] 38)).alloc (.cells #[.slice none 0 0] 51)).alloc (.cells #[.int .i64 0] 39))
 have hs0:W0.heap.size=w.heap.size+3:=by rw[hW0];simp
 have hb0:Below w.heap.size w W0:=by rw[hW0];exact ((hbA _ _).alloc (by simp) _).alloc (by simp;omega) _
 have hr0:W0.heap[w.heap.size]?=some (.cells #[.slice A x.nodes.length c,.int .i64 x.root] 38 (0,0)):=by rw[hW0];exact (kD _ _ (by simp;omega)).trans (heap_alloc2_old _ _ _)
 have hr1:W0.heap[w.heap.size+1]?=some (.cells #[.slice none 0 0] 51 (0,0)):=by rw[hW0];exact (kD _ _ (by simp)).trans (heap_alloc2_new _ _ _)
 have hr2:W0.heap[w.heap.size+1+1]?=some (.cells #[.int .i64 0] 39 (0,0)):=by rw[hW0];exact (heap_alloc2_new (w.alloc _) _ _ |> fun h=>by simpa using h)
 obtain⟨d0,d1⟩:=aG hr0
 have HV:=jI (fun(W:World)(hW:Below w.heap.size w W)=>xq x (.agg #[.slice A x.nodes.length c,.int .i64 x.root]) W S (HEX.out.keep (aj hW hS)) (fun g hg=>by have:=hS g hg;have:=hW.size;omega) hl)
 have HR0:=jI hr0
 have HR1:=jI hr1
 have HR2:=jI hr2
 have H0:=jI hW0
 have HL:=jI hl
 have HZ:=jI hz
 obtain⟨fo,hfo⟩:=kE (pu x)
 rw[←hfo]
 unfold pu at hfo
 have HFO:=jI hfo
 obtain⟨er,her⟩:=kE (exE x)
 simp only[←her] at HV
 rw[←her] at HFO
 have HER:=jI her
 clear hfo hW0 hl hr0 hr1 hr2 hn her hz
 refine (callsIn_wide (n:=6)).1 ?_
 refine callsIn_of_wp_marks func102 rfl trivial ?_ rfl
 simp only[ntmps102,List.size_toArray,fM,List.length_nil,Nat.reduceAdd,Nat.reduceSub,Array.replicate_succ,Array.replicate_zero,List.push_toArray,List.append_toArray,List.nil_append,List.cons_append]
 gi_wp2_with fail
 rw[←H0.out]
 refine⟨trivial,(callsIn_wide.2 (HV.out W0 hb0)).mono ?_⟩
 rintro e w1 ⟨rfl,hb1⟩
 have hs1:=hb1.size
 have iC:=hb0.trans (hb1.mono hb0.size)
 have r0:=(hb1.block _ (jS HR0.out)).trans HR0.out
 have r1:=(hb1.block _ (jS HR1.out)).trans HR1.out
 have r2:=(hb1.block _ (jS HR2.out)).trans HR2.out
 obtain⟨y0,y1⟩:=aG r0
 have y2:=j5 w1 _ 0 _ _ _ r1
 have y3:=jT w1 _ 0 _ _ r1
 have y4:=j5 w1 _ 0 _ _ _ r2
 have y5:=jT w1 _ 0 _ _ r2
 have l0:=jS r0
 have l1:=jS r1
 have l2:=jS r2
 have R0:=jI r0
 have R1:=jI r1
 have R2:=jI r2
 clear r0 r1 r2
 by_cases he0:er=0
 ·subst he0
  have hx:=GH HER.out.symm
  obtain⟨wa,hwa⟩:=kE (w1.alloc (.cells #[.slice none 0 0] 51))
  have hba:Below w1.heap.size w1 wa:=by rw[hwa];exact hbA _ _
  have hbwa:=iC.trans (hba.mono iC.size)
  have hra:wa.heap[w1.heap.size]?=some (.cells #[.slice none 0 0] 51 (0,0)):=by rw[hwa];exact jR _ _
  have HSV:=jI (Bn x (.agg #[.slice A x.nodes.length c,.int .i64 x.root]) wa S (HEX.out.keep (aj hbwa hS)) (fun g hg=>by have:=hS g hg;have:=hbwa.size;omega) hx)
  have HRA:=jI hra
  have HWA:=jI hwa
  have HX:=jI hx
  have hla:=jS hra
  obtain⟨sv,hsv⟩:=kE (o8 x.nodes)
  have hsv12:sv<4096:=by rw[hsv];exact uK hx.server
  rw[←hsv] at HSV HFO
  clear hwa hra hx hsv
  gi_wp2_with fail
  rw[←HWA.out]
  refine⟨trivial,(callsIn_wide.2 HSV.out).mono ?_⟩
  rintro e w2 ⟨rfl,hb2⟩
  gi_wp2_with fail
  refine⟨trivial,(callsIn_wide.2 (subsF_any sv w2)).mono ?_⟩
  rintro e w3 ⟨rfl,hw3⟩
  have hb3:Below w2.heap.size w2 w3:=by rw[hw3];exact hbA _ _
  have hr3:w3.heap[w2.heap.size]?=some (.cells #[.int .u16 sv] 28 (0,0)):=by rw[hw3];exact jR _ _
  clear hw3
  gi_wp2_with fail
  have hl3:=jS hr3
  have hb23:Below w2.heap.size w2 w3:=hb3
  have hlow:Below wa.heap.size wa w3:=hb2.trans (hb3.mono hb2.size)
  have jC:Below w.heap.size w w3:=hbwa.trans (hlow.mono hbwa.size)
  have hKS:∀g,(g=2∨g=w2.heap.size)→g<w3.heap.size∧g≠w1.heap.size:=by
   rintro g (rfl|rfl)
   ·exact⟨by have:=HZ.out.1;have:=jC.size;omega,by have:=HZ.out.1;have:=iC.size;omega⟩
   ·exact⟨hl3,by have:=hb2.size;omega⟩
  have q0:=(hlow.block _ (by omega)).trans ((hba.block _ l0).trans R0.out)
  have q1:=(hlow.block _ (by omega)).trans ((hba.block _ l1).trans R1.out)
  have q2:=(hlow.block _ (by omega)).trans ((hba.block _ l2).trans R2.out)
  have q3:=(hlow.block _ hla).trans HRA.out
  refine wpIn_rangeFunc_ownF rfl (by decide) (gf:=171) (lb:=#[.pointer (some ⟨w2.heap.size,0,none⟩)]) rfl trivial (enters_of func171 (by kernel_rfl) rfl)
   (Ad 5 w2.heap.size 28 (fun g=>g=2∨g=w2.heap.size) (Or.inl rfl) (Or.inr rfl) sv hsv12 w3 (HZ.out.below jC (aP _)) hr3)
   gm.trans (wN (fun g hg=>(hKS g hg).1)) (jQ _ _) (fun _=>rfl)
   (fun pre W=>FamI x w w1.heap.size w3.heap.size A c (pre.map Subtype.val) W)
   (fun c' pre W=>c'=.ret∧(W.heap[w.heap.size+1]?=some (.cells #[.slice none 0 0] 51 (0,0))∧W.heap[w.heap.size+1+1]?=some (.cells #[.int .i64 3] 39 (0,0))∧Below w.heap.size w W)∧400<(jY x (pre.map Subtype.val)).length)
   (fun s W W' row hs hg hr=>famI_own x w w1.heap.size w3.heap.size w3.heap.size A c jC.size (s.map Subtype.val) W W' row hs hg hr)
   ?_ ?_
   (fun s=>{ tmps:=#[.agg #[.slice A x.nodes.length c,.int .i64 x.root],.pointer (some ⟨w.heap.size,0,none⟩),.pointer (some ⟨w.heap.size+1,0,none⟩),.pointer (some ⟨w.heap.size+1+1,0,none⟩),.int .i64 0,.pointer (some ⟨w1.heap.size,0,none⟩),.int .u16 (s.1:Nat),.agg #[.slice A x.nodes.length c,.int .i64 x.root],.int .i64 0,.int .i64 0,.bool false,undef,.agg #[.slice A x.nodes.length c,.int .i64 x.root],.int .u16 sv,.func (.func 171) #[] #[.pointer (some ⟨w2.heap.size,0,none⟩)],.int .u16 (s.1:Nat),undef,undef,undef,undef,undef,undef,undef,undef,undef,undef,undef,undef,undef,undef,undef,undef,undef],defers:=[] }) ?assign ?body ?done ?stop
  ·exact fun c' s W W' row hs hg hr=>⟨hs.1,⟨bI w3.heap.size _ _ _ _ s W W' row hs.2.1.1 hg hr,bI w3.heap.size _ _ _ _ s W W' row hs.2.1.2.1 hg hr,ownFrom_below (aP _) jC.size s W W' row hs.2.1.2.2 hg hr⟩,hs.2.2⟩
  ·exact⟨⟨⟨q0,q1,q2⟩,_,q3,World.ownsRow_nil _ _ _ _,cu _⟩,jC,aP _⟩
  case assign=>
   intro l s W K hK
   gi_wp2
   exact hK
  case body=>
   rintro l pre s W ⟨⟨⟨c0,c1,c2⟩,v,hv,hrow,h400⟩,hB,hW3⟩ hlt
   obtain⟨x0,x1⟩:=aG c0
   have x2:=j5 W _ 0 _ _ _ c1
   have x3:=jT W _ 0 _ _ c1
   have x4:=j5 W _ 0 _ _ _ c2
   have x5:=jT W _ 0 _ _ c2
   have hwl0:=jS c0
   have hwl1:=jS c1
   have hwl2:=jS c2
   have hwl3:=jS hv
   have HH:=jI (holds_any x s.1 s.2 (.agg #[.slice A x.nodes.length c,.int .i64 x.root]) W S (HEX.out.keep (aj hB hS)) (fun g hg=>by have:=hS g hg;have:=hB.size;omega) HX.out HL.out)
   have C0:=jI c0
   have C1:=jI c1
   have C2:=jI c2
   have HVB:=jI hv
   have uG:=jI hrow
   obtain⟨A5,c5,rfl,hc5⟩:=aD hrow
   obtain⟨L,hL⟩:=kE (jY x (pre.map Subtype.val))
   have hL6:∀y∈L,y<65536:=fun y hy=>by
    rw[hL] at hy
    have:=Dq x _ y hy
    obtain⟨z,-,rfl⟩:=List.mem_map.1 this
    exact z.2
   have hsn:=oW x (pre.map Subtype.val) s.1
   rw[show pre.map Subtype.val++[s.1]=(pre++[s]).map Subtype.val by simp] at hsn
   rw[←hL] at hsn uG h400 HVB hc5
   unfold lQ at hsn
   obtain⟨hh,hhd⟩:=kE (bW x s.1)
   rw[←hhd] at hsn HH
   have HSN:=jI hsn
   have HL:=jI hL
   clear c0 c1 c2 hv hrow hsn hL hhd
   gi_wp2_with fail
   refine⟨trivial,(CallsIn.inRound l (callsIn_wide.2 HH.out)).mono ?_⟩
   rintro e w6 ⟨rfl,hb6⟩
   have hs6:=hb6.size
   have hB6:=hB.trans (hb6.mono hB.size)
   obtain⟨x0,x1⟩:=aG ((hb6.block _ hwl0).trans C0.out)
   have x2:=j5 w6 _ 0 _ _ _ ((hb6.block _ hwl1).trans C1.out)
   have x3:=jT w6 _ 0 _ _ ((hb6.block _ hwl1).trans C1.out)
   have x4:=j5 w6 _ 0 _ _ _ ((hb6.block _ hwl2).trans C2.out)
   have x5:=jT w6 _ 0 _ _ ((hb6.block _ hwl2).trans C2.out)
   have y2:=j5 w6 _ 0 _ _ _ ((hb6.block _ hwl3).trans HVB.out)
   have yj:=own_below uG.out hb6 (aP _)
   have HAC:=jI (acc_any L s.1 hL6 s.2 A5 c5 w6 (·<w6.heap.size) ((ak.own yj).mono (fun g _ hl=>hl) (by decide)) (fun g hg=>hg) (by omega))
   have HR6:=jI yj
   clear yj
   have hgo:∀(X:World),Below w6.heap.size w6 X→jY x ((pre++[s]).map Subtype.val)=L→KeepsOthers W X∧gm (fun g=>g=2∨g=w2.heap.size) W X∧FamI x w w1.heap.size w3.heap.size A c ((pre++[s]).map Subtype.val) X:=fun X hX hq=>by
    have hWX:Below W.heap.size W X:=hb6.trans (hX.mono hs6)
    refine⟨ig hWX,gm.of_below hWX,⟨⟨(hWX.block _ hwl0).trans C0.out,(hWX.block _ hwl1).trans C1.out,(hWX.block _ hwl2).trans C2.out⟩,.slice A5 L.length c5,(hWX.block _ hwl3).trans HVB.out,?_,?_⟩,hB.trans (hWX.mono hB.size),cK hW3 hWX.size⟩
    ·rw[hq];exact own_below uG.out hWX (aP _)
    ·rw[hq];exact h400
   have HGO:=jI hgo
   have hBN:w1.heap.size<w3.heap.size:=by have:=hlow.size;omega
   clear hgo
   cases hh
   ·gi_wp2_with fail
    refine⟨trivial,?_⟩
    gi_wp2
    exact HGO.out w6 (jQ _ _) (by rw[HSN.out];simp)
   ·obtain⟨ac,hac⟩:=kE (accepts L s.1)
    rw[←hac] at HAC
    have hsn2:=HSN.out
    rw[←hac] at hsn2
    have HSN2:=jI hsn2
    clear hac hsn2 HSN
    gi_wp2_with fail
    refine⟨trivial,(CallsIn.inRound l (callsIn_wide.2 HAC.out)).mono ?_⟩
    rintro e w7 ⟨rfl,hb7⟩
    have hs7:=hb7.size
    have hb67:Below W.heap.size W w7:=hb6.trans (hb7.mono hs6)
    have x2:=j5 w7 _ 0 _ _ _ ((hb67.block _ hwl1).trans C1.out)
    have x3:=jT w7 _ 0 _ _ ((hb67.block _ hwl1).trans C1.out)
    have x4:=j5 w7 _ 0 _ _ _ ((hb67.block _ hwl2).trans C2.out)
    have x5:=jT w7 _ 0 _ _ ((hb67.block _ hwl2).trans C2.out)
    have y2:=j5 w7 _ 0 _ _ _ ((hb67.block _ hwl3).trans HVB.out)
    have hrow7:=own_below uG.out hb67 (aP _)
    cases ac
    ·have h9:=HSN2.out
     rw[if_pos (by decide)] at h9
     have H9:=jI h9
     clear h9
     by_cases hfull:L.length=400
     ·have hfI:((L.length:Int)==400)=true:=by rw[hfull];rfl
      gi_wp2_with fail
      refine⟨(ig hb67).trans ((KeepsOthers.setCell _ _ _).trans (KeepsOthers.setCell _ _ _)),rfl,⟨?_,?_,?_⟩,by rw[H9.out];simp;omega⟩
      ·rw[kC _ _ _ _ (show w.heap.size+1≠w.heap.size+1+1 by omega)]
       exact aF ((hb67.block _ hwl1).trans C1.out) _
      ·exact aF ((kC w7 ⟨w.heap.size+1,0,none⟩ (.slice none 0 0) _ (show w.heap.size+1+1≠w.heap.size+1 by omega)).trans ((hb67.block _ hwl2).trans C2.out)) (.int .i64 3)
      ·exact ((hB.trans (hb67.mono hB.size)).setCell (p:=⟨w.heap.size+1,0,none⟩) (Nat.le_succ _) _).setCell (p:=⟨w.heap.size+1+1,0,none⟩) (by show w.heap.size≤w.heap.size+1+1;omega) _
     ·have hfI:((L.length:Int)==400)=false:=by rw[bP];omega
      gi_wp2_with (gi_at_builtin;refine Ia w7 rfl (.tmp 28) (.tmp 30) rfl w3.heap.size (.slice A5 L.length c5) L.length _ hrow7 rfl s.1 rfl (by omega) (by omega) ?_;intro v' w8 hown' hgrow;have hst:=Ey v' hb67 hW3 HVB.out hBN hrow7 hgrow (by decide) (by decide) (fun g h=>⟨(hKS g h).2,fun e=>by have:=(hrow7.lt g e).1;have:=(hKS g h).1;omega⟩) iC.size;obtain⟨g',cap',rfl⟩:=ownsRow_succ hown';have k1:=j5 w8 _ 0 _ _ _ hst.box;have k2:=jT w8 _ 0 _ _ hst.box)
      have hne:∀g,g<w1.heap.size→g<w3.heap.size∧g≠w1.heap.size:=fun g hg=>⟨by omega,by omega⟩
      have hl01:w.heap.size+1+1<w1.heap.size:=l2
      refine⟨hst.others,hst.keep,⟨⟨(hst.old _ (hne _ (by omega)).1 (hne _ (by omega)).2).trans C0.out,(hst.old _ (hne _ (by omega)).1 (hne _ (by omega)).2).trans C1.out,(hst.old _ (hne _ (by omega)).1 (hne _ (by omega)).2).trans C2.out⟩,_,hst.box9,?_,?_⟩,hB.trans hst.below,cK hW3 hst.others.size⟩
      ·have e9:jY x ((pre++[s]).map Subtype.val)=L++[s.1]:=H9.out
       rw[e9,bD,dH,List.map_append]
       exact jl hown' (fun g e=>kC _ _ _ g (by have:=(hown'.lt g e).1;show g≠w1.heap.size;omega))
      ·have e9:jY x ((pre++[s]).map Subtype.val)=L++[s.1]:=H9.out
       rw[e9,bD,List.length_singleton];omega
    ·have h9:=HSN2.out
     rw[if_neg (by decide)] at h9
     have H9:=jI h9
     clear h9
     gi_wp2
     exact HGO.out w7 hb7 H9.out
  case done=>
   rintro D ys W hD hys ⟨⟨⟨c0,c1,c2⟩,v,hv,hrow,h400⟩,hB,hW3⟩ hK
   rw[hys] at hrow h400
   obtain⟨A5,c5,rfl,hc5⟩:=aD hrow
   obtain⟨L,hL⟩:=kE (jY x (ku sv))
   rw[←hL] at hrow h400 hv hc5
   have h9:=HFO.out
   rw[if_neg (by decide),←hL,if_neg (by omega)] at h9
   have H9:=jI h9
   have x2:=j5 W _ 0 _ _ _ c1
   have x3:=jT W _ 0 _ _ c1
   have x4:=j5 W _ 0 _ _ _ c2
   have x5:=jT W _ 0 _ _ c2
   have y2:=j5 W _ 0 _ _ _ hv
   have uG:=jI hrow
   have HC1:=jI c1
   have HC2:=jI c2
   have HK:=jI hK
   clear hrow hL h9 hys c0 c1 c2 hv hK
   gi_wp2
   have hK9:=(((KeepsOthers.setCell W ⟨w.heap.size+1,0,none⟩ (.slice A5 L.length c5)).trans (KeepsOthers.setCell _ ⟨w.heap.size+1+1,0,none⟩ (.int .i64 0))).same D _ HK.out rfl)
   refine⟨by simp,.inl ⟨_,_,rfl,run_takeDeferred hK9,?_⟩⟩
   have hne2:w.heap.size+1≠w.heap.size+1+1:=by omega
   have hb9:Below w.heap.size w ((W.setCell ⟨w.heap.size+1,0,none⟩ (.slice A5 L.length c5)).setCell ⟨w.heap.size+1+1,0,none⟩ (.int .i64 0)):=(hB.setCell (p:=⟨w.heap.size+1,0,none⟩) (Nat.le_succ _) _).setCell (p:=⟨w.heap.size+1+1,0,none⟩) (by show w.heap.size≤w.heap.size+1+1;omega) _
   have hD1:w.heap.size+1+1<D:=by have:=iC.size;have:=hlow.size;omega
   refine⟨_,Ag rfl rfl rfl (A:=A5) (n:=L.length) (c:=c5) (er:=0) (T:=51) (T':=39) ?_ ?_,?_⟩
   ·rw[gq _ (by omega),kC _ _ _ _ (show w.heap.size+1≠w.heap.size+1+1 from hne2)]
    exact aF HC1.out (.slice A5 L.length c5)
   ·rw[gq _ (by omega)]
    exact aF ((kC W ⟨w.heap.size+1,0,none⟩ (.slice A5 L.length c5) _ (show w.heap.size+1+1≠w.heap.size+1 from hne2.symm)).trans HC2.out) (.int .i64 0)
   ·rw[H9.out]
    refine⟨A5,c5,rfl,?_,hc5,hb9.trans (belowK_b (w:=w) (aP _) _ D _ _ (by omega) hK9 rfl rfl)⟩
    refine (ak.own (jl uG.out (fun g e=>?_))).mono (fun g hg _=>by have:=jC.size;omega) (by decide)
    have hg:=uG.out.lt g e
    have hgD:g≠D:=fun e9=>by
     have h1:=HK.out
     rw[←e9] at h1
     rcases uG.out.2 with ⟨h2,-⟩|⟨g1,c1,cur1,h2,-,h3,-⟩
     ·rw[h2] at e;cases e
     ·rw[h2] at e
      simp only[Value.ownBlock,Option.some.injEq] at e
      rw[e,h1] at h3
      cases h3
    have hs3:=jC.size
    have hl2':=jS HC2.out
    have:=hlow.size
    rw[gq _ hgD,kC _ _ _ g (show g≠w.heap.size+1+1 by omega),kC _ _ _ g (show g≠w.heap.size+1 by omega)]
  case stop=>
   rintro D c' pre W hD hpre ⟨rfl,⟨c1,c2,hB⟩,hlen⟩ hK
   have h9:=HFO.out
   rw[if_neg (by decide),if_pos (by have:=famTo_len x hpre;omega)] at h9
   have H9:=jI h9
   have HC1:=jI c1
   have HC2:=jI c2
   have HK:=jI hK
   clear h9 hpre c1 c2 hK hlen
   gi_wp2
   refine⟨by simp,.inl ⟨_,_,rfl,run_takeDeferred HK.out,?_⟩⟩
   have hD1:w.heap.size+1+1<D:=by have:=iC.size;have:=hlow.size;omega
   refine⟨_,Ag rfl rfl rfl (A:=none) (n:=0) (c:=0) (er:=3) ((gq _ (by omega)).trans HC1.out) ((gq _ (by omega)).trans HC2.out),?_⟩
   rw[H9.out]
   exact⟨none,0,rfl,.empty _ _ _ _,aP _,hB.trans (belowK_b (w:=w) (aP _) _ D _ _ (by omega) HK.out rfl rfl)⟩
 ·have hqI:((er:Int) != 0)=true:=j6 he0
  gi_wp2
  have hne2:w.heap.size+1≠w.heap.size+1+1:=by omega
  have h9:=HFO.out
  rw[if_pos he0] at h9
  refine⟨_,Ag rfl rfl rfl (A:=none) (n:=0) (c:=0) (er:=er) (T:=51) (T':=39) ?_ ?_,?_⟩
  ·rw[kC _ _ _ _ (show w.heap.size+1≠w.heap.size+1+1 from hne2)]
   exact aF R1.out (.slice none 0 0)
  ·exact aF ((kC w1 ⟨w.heap.size+1,0,none⟩ (.slice none 0 0) _ (show w.heap.size+1+1≠w.heap.size+1 from hne2.symm)).trans R2.out) (.int .i64 er)
  ·rw[h9]
   exact⟨none,0,rfl,.empty _ _ _ _,aP _,(iC.setCell (p:=⟨w.heap.size+1,0,none⟩) (Nat.le_succ _) _).setCell (p:=⟨w.heap.size+1+1,0,none⟩) (by show w.heap.size≤w.heap.size+1+1;omega) _⟩
end Go.Proofs.YtmohibkomlhlaaaGreatDoor
namespace Go.Proofs
open Go.Shelf
open _root_.Go.Proofs.Tryz
def Tryz.laysNm215_ren:Go.Shelf.Ren:=⟨fun|15=>99|n=>n,fun|22=>23|3=>3|4=>4|n=>n,fun|n=>n⟩
theorem Tryz.laysNm215:Go.Proofs.Lays2.n15 prog Tryz.laysNm215_ren:={
 mixed:=by kernel_rfl
 f15:=func99.trans (congrArg some (by kernel_rfl))
 t3:=underlying3
 a3:=Tryz.isAgg3
 z3:=Tryz.sizeOf3
 v3:=Tryz.zeroValue3
 t4:=underlying4
 a4:=Tryz.isAgg4
 z4:=Tryz.sizeOf4
 v4:=Tryz.zeroValue4
 t22:=underlying23
 a22:=Tryz.isAgg23
 z22:=Tryz.sizeOf23
 v22:=Tryz.zeroValue23
 i3:=by kernel_rfl }
open Go.RowKit Go.Lib in
theorem Tryz.slices_Clone_int(b off n c:Nat)(zs:List Int)(w:World)(hz:n≤zs.length)(hbig:n * 8≤140737488355328)(hc:∀j,j<zs.length→w.cell? ⟨b,off+j,none⟩=some (.int .i64 (zs.getD j 0))):
  Calls prog 99 #[.slice (some ⟨b,off,none⟩) n c] w fun e w'=>∃v',e=.returned v'∧w'.ownsRow w.heap.size 3 1 v' n ((zs.take n).map (Value.int .i64))∧v'≠.slice none 0 0∧Below w.heap.size w w':=Any.slices_Clone_int Tryz.laysNm215 b off n c zs w hz hbig hc
open Go.RowKit Go.Lib in
theorem Tryz.slices_Clone_int_nil(n c:Nat)(w:World):
  Calls prog 99 #[.slice none n c] w fun e w'=>e=.returned (.slice none 0 0)∧w'=w:=Any.slices_Clone_int_nil Tryz.laysNm215 n c w
def Tryz.laysNm216_ren:Go.Shelf.Ren:=⟨fun|16=>37|n=>n,fun|24=>32|9=>9|4=>4|n=>n,fun|n=>n⟩
theorem Tryz.laysNm216:Go.Proofs.Lays2.n16 prog Tryz.laysNm216_ren:={
 mixed:=by kernel_rfl
 f16:=func37.trans (congrArg some (by kernel_rfl))
 t4:=underlying4
 a4:=Tryz.isAgg4
 z4:=Tryz.sizeOf4
 v4:=Tryz.zeroValue4
 t9:=underlying9
 a9:=Tryz.isAgg9
 z9:=Tryz.sizeOf9
 v9:=Tryz.zeroValue9
 t24:=underlying32
 a24:=Tryz.isAgg32
 z24:=Tryz.sizeOf32
 v24:=Tryz.zeroValue32
 i9:=by kernel_rfl }
open Go.RowKit Go.Lib in
theorem Tryz.slices_Clone_string(b off n c:Nat)(zs:List ByteArray)(w:World)(hz:n≤zs.length)(hbig:n * 16≤140737488355328)(hc:∀j,j<zs.length→w.cell? ⟨b,off+j,none⟩=some (.string (zs.getD j ByteArray.empty))):
  Calls prog 37 #[.slice (some ⟨b,off,none⟩) n c] w fun e w'=>∃v',e=.returned v'∧w'.ownsRow w.heap.size 9 1 v' n ((zs.take n).map (Value.string))∧v'≠.slice none 0 0∧Below w.heap.size w w':=Any.slices_Clone_string Tryz.laysNm216 b off n c zs w hz hbig hc
open Go.RowKit Go.Lib in
theorem Tryz.slices_Clone_string_nil(n c:Nat)(w:World):
  Calls prog 37 #[.slice none n c] w fun e w'=>e=.returned (.slice none 0 0)∧w'=w:=Any.slices_Clone_string_nil Tryz.laysNm216 n c w
open Go.RowKit Go.Lib in
theorem Tryz.slices_Clone_int_zero(a:Addr)(c:Nat)(w:World):
  Calls prog 99 #[.slice (some a) 0 c] w fun e w'=>∃v',e=.returned v'∧w'.ownsRow w.heap.size 3 1 v' 0 []∧v'≠.slice none 0 0∧Below w.heap.size w w':=Any.slices_Clone_int_zero Tryz.laysNm215 a c w
open Go.RowKit Go.Lib in
theorem Tryz.slices_Clone_string_zero(a:Addr)(c:Nat)(w:World):
  Calls prog 37 #[.slice (some a) 0 c] w fun e w'=>∃v',e=.returned v'∧w'.ownsRow w.heap.size 9 1 v' 0 []∧v'≠.slice none 0 0∧Below w.heap.size w w':=Any.slices_Clone_string_zero Tryz.laysNm216 a c w
end Go.Proofs
