/- The contract of Of at declarations of a site, of faults and of one configuration. Where the configuration has no error. Conditions: the tables of powers and of math/bits lie in the world. The example of the chapter: its text, its declarations, what Load returns of it. Conditions: the tables of powers and of math/bits lie in the world. The contract of the law's awake: the examples of the chapter hold. Conditions: the tables of powers and of math/bits lie in the world. -/
import Derived.Test.YtmohibkomlhlaaaGreatDoorPdh
import Derived.Test.YtmohibkomlhlaaaGreatDoorPkDq
set_option maxRecDepth 10000
set_option maxHeartbeats 4000000
namespace Go.Proofs.YtmohibkomlhlaaaGreatDoor
open Go.RowKit
open _root_.Go.Proofs.Tryz
theorem info_site:(prog.info? 90).map (fun i=>(i.zero,i.size,i.bytes))=some (some (.agg #[.string ByteArray.empty,.int .u16 0]),2,24):=by kernel_rfl
theorem Fa:(prog.info? 54).map (fun i=>(i.zero,i.size,i.bytes))=some (some (.agg #[.string ByteArray.empty,.int .i64 0,.int .u16 0,.slice none 0 0,.slice none 0 0,.slice none 0 0]),6,104):=by kernel_rfl
theorem size_depl:(prog.info? 48).map (·.size)=some 6:=by kernel_rfl
theorem EJ(w:World){ops:Array Oper}{rest:List Oper}{o:Oper}{a:Act}{Q:Exit→Act→World→Prop}(hgd:o.guard=none)(s x:Operand)
  (ho:o.op=.call { callee:=.builtin .append,args:=#[s,x],argTypes:=#[45,45] })
  (base:Nat) (v:Value) (n:Nat) (xs:List Value) (hown:w.ownsRow base 54 6 v n xs) (hs:a.eval s=v)
  (nm:ByteArray) (kd:Int) (mem:Int) (rA:Option Addr) (rn rc:Nat) (wA:Option Addr) (wn wc:Nat) (fA:Option Addr) (fn fc:Nat) (hx:a.eval x=.slice (some ⟨w.heap.size,0,none⟩) 1 1)
  (hlim:n≤100000000000) (hbase:base≤w.heap.size)
  (h:∀v' w',w'.ownsRow base 54 6 v' (n+1) (xs++[.string nm,.int .i64 kd,.int .u16 mem,.slice rA rn rc,.slice wA wn wc,.slice fA fn fc])→w.grownBy w' v.ownBlock→(v'.ownBlock=v.ownBlock∨v'.ownBlock=some (w.heap.size+1))→wpList prog ops Q rest (a.put o.dst v') w'):
  wpList prog ops Q (o::rest) a (w.alloc (.cells #[.string nm,.int .i64 kd,.int .u16 mem,.slice rA rn rc,.slice wA wn wc,.slice fA fn fc] 54)):=by
 obtain⟨i0,hi,hz0,hz1,hz2⟩:=info_parts Fa
 exact eB w hgd s x _ ho base 54 i0 _ 6 104 underlying45 hi hz0 hz1 hz2 rfl (by decide) v n xs hown hs [.string nm,.int .i64 kd,.int .u16 mem,.slice rA rn rc,.slice wA wn wc,.slice fA fn fc] hx rfl (by simp[Value.oneCell']) (by omega) (by omega) hbase h
theorem oJ{fn:Func}{slot u z:Nat}{R:Ending→World→Prop}{a:Act}{W:World}{r:Nat}{cells:Array Value}{q y:Value}(hres:fn.results=#[.cell slot 48,.tmp u,.tmp z])(hp:a.tmps.getD slot undef=.pointer (some ⟨r,0,none⟩))(hq:a.tmps.getD u undef=q)(hy:a.tmps.getD z undef=y)(hd:a.defers=[])
  (hblk:W.heap[r]?=some (.cells cells 48 (0,0))) (hc:cells.size=6) (hR:R (.returned (.tuple #[.agg cells,q,y])) W):bodyPost prog fn R .ret a W:=by
 refine bodyPost_ret (v:=.tuple #[.agg cells,q,y]) ?_ hd hR
 have hl:=run_loadVar_row W r 48 48 cells (0,0) _ hblk underlying48 rfl (by rw[hc];exact size_depl)
 have hp':a.tmps[slot]?.getD undef=.pointer (some ⟨r,0,none⟩):=by simpa using hp
 have hq':a.tmps[u]?.getD undef=q:=by simpa using hq
 have hy':a.tmps[z]?.getD undef=y:=by simpa using hy
 simp[results,hres,hp',hq',hy',asAddr,hl,Result.andThen]
abbrev Eb:Array Value:=#[.slice none 0 0,.slice none 0 0,.int .u16 0,.slice none 0 0,.slice none 0 0,.slice none 0 0]
structure OSt(w W:World)(b8 n:Nat)(svA:Option Addr)(svc:Nat)(vs vc:Value):Prop where
 b:Below w.heap.size w W
 lo:w.heap.size<b8
 r2:W.heap[w.heap.size]?=some (.cells Eb 48 (0,0))
 r8:W.heap[b8]?=some (.cells #[.slice svA n svc,vs,.int .u16 0,vc,.slice none 0 0,.slice none 0 0] 48 (0,0))
theorem OSt.later{w W W':World}{b8 n:Nat}{svA:Option Addr}{svc:Nat}{vs vc:Value}(h:OSt w W b8 n svA svc vs vc)(hb:Below W.heap.size W W'):OSt w W' b8 n svA svc vs vc:=
 ⟨h.b.trans (hb.mono h.b.size),h.lo,(hb.block _ (jS h.r2)).trans h.r2,(hb.block _ (jS h.r8)).trans h.r8⟩
theorem dz{w:World}{b:Nat}{v0 v1 v2 v3 v4 v5:Value}{t:TypeId}(h:w.heap[b]?=some (.cells #[v0,v1,v2,v3,v4,v5] t (0,0))):w.cell? ⟨b,0,none⟩=some v0∧w.cell? ⟨b,1,none⟩=some v1∧w.cell? ⟨b,2,none⟩=some v2∧w.cell? ⟨b,3,none⟩=some v3∧w.cell? ⟨b,4,none⟩=some v4∧w.cell? ⟨b,5,none⟩=some v5:=by
 refine⟨?_,?_,?_,?_,?_,?_⟩<;>rw[j5 w _ _ _ _ _ h]<;>rfl
theorem JG(l:List ByteArray)(A:Option Addr)(c:Nat)(w:World)(S:Nat→Prop)(h:ak w S 1 A l.length (aC l))(hl:l.length≤1000000000):
  Calls prog 37 #[.slice A l.length c] w fun e w'=>∃v,e=.returned v∧w'.ownsRow w.heap.size 9 1 v l.length (aC l)∧Below w.heap.size w w':=by
 by_cases h0:l.length=0
 ·obtain rfl:l=[]:=List.length_eq_zero_iff.1 h0
  cases A with
  |none=>exact (Tryz.slices_Clone_string_nil 0 c w).mono fun e w' ⟨he,hw⟩=>⟨_,he,World.ownsRow_nil _ _ _ _,by rw[hw];exact jQ _ _⟩
  |some a=>exact (Tryz.slices_Clone_string_zero a c w).mono fun e w' ⟨v,he,ho,_,hb⟩=>⟨v,he,ho,hb⟩
 ·obtain⟨g,o,rfl,-,hc⟩:=h.cells (by omega)
  refine (Tryz.slices_Clone_string g o l.length c l w (aP _) (by omega) (fun j hj=>hc j _ (dV l j hj))).mono fun e w' ⟨v,he,ho,_,hb⟩=>⟨v,he,?_,hb⟩
  rw[List.take_length] at ho
  exact ho
theorem dp_check:bf [dp1,dp2,dp3]=(0,0):=by kernel_rfl
theorem dp_size:([dp1,dp2,dp3].map aW).sum≤1100000:=of_decide_eq_true (by kernel_rfl)
theorem zA:(ai [dp1,dp2,dp3]).length=3:=by kernel_rfl
theorem dp_read:(bS [dp1,dp2,dp3] dp3.read).2=0:=by kernel_rfl
theorem dp_write:(bS [dp1,dp2,dp3] dp3.write).2=0:=by kernel_rfl
theorem dp_famR:pu (bS [dp1,dp2,dp3] dp3.read).1=([3,5,6],0):=by kernel_rfl
theorem dp_famW:pu (bS [dp1,dp2,dp3] dp3.write).1=([7],0):=by kernel_rfl
theorem dp_find:nY [dp1,dp2,dp3] 2 dp3.use=some dp2:=by kernel_rfl
theorem dp_thr:fq 3 0 1=([(0,1),(0,2),(0,4)],0):=by kernel_rfl
theorem name1_any(x:ByteArray)(w:World):Calls prog 24 #[.string x] w fun e w'=>e=.returned (.agg #[.int .i64 1,.string x,.int .i64 0,.slice none 0 0,.slice none 0 0])∧Below w.heap.size w w':=by
 obtain⟨W0,hW0⟩:=kE (w.alloc (.cells #[.int .i64 0,.string ⟨#[]⟩,.int .i64 0,.slice none 0 0,.slice none 0 0] 26))
 have hb0:Below w.heap.size w W0:=by rw[hW0];exact (jQ _ _).alloc (aP _) _
 have hr0:W0.heap[w.heap.size]?=some (.cells #[.int .i64 0,.string ⟨#[]⟩,.int .i64 0,.slice none 0 0,.slice none 0 0] 26 (0,0)):=by rw[hW0];exact jR _ _
 have H0:=jI hW0
 have HR0:=jI hr0
 obtain⟨y0,y1,y2,y3,y4⟩:=aV hr0
 have g0:=jT _ _ 0 _ _ hr0
 have g1:=jT _ _ 1 _ _ hr0
 have g2:=jT _ _ 2 _ _ hr0
 have g3:=jT _ _ 3 _ _ hr0
 have g4:=jT _ _ 4 _ _ hr0
 clear hW0 hr0
 go_enter func24,ntmps24
 go_upto_region 1 with fail
 rw[←H0.out]
 go_wp2
 have hrow:=aF (aF (aF (aF (aF HR0.out (i:=0) (.int .i64 1)) (i:=1) (.string x)) (i:=2) (.int .i64 0)) (i:=3) (.slice none 0 0)) (i:=4) (.slice none 0 0)
 refine bodyPost_ret (v:=.agg #[.int .i64 1,.string x,.int .i64 0,.slice none 0 0,.slice none 0 0]) (results_cell_row rfl _ _ w.heap.size 26 _ (0,0) _ rfl hrow underlying26 rfl (by kernel_rfl)) rfl ⟨rfl,?_⟩
 exact ((((hb0.setCell (p:=⟨w.heap.size,0,none⟩) (aP _) _).setCell (p:=⟨w.heap.size,1,none⟩) (aP _) _).setCell (p:=⟨w.heap.size,2,none⟩) (aP _) _).setCell (p:=⟨w.heap.size,3,none⟩) (aP _) _).setCell (p:=⟨w.heap.size,4,none⟩) (aP _) _
theorem yP(a b:List Nat)(A B:Option Addr)(c d:Nat)(w:World)(S T:Nat→Prop)(ha:ak w S 1 A a.length (dH a))(hb:ak w T 1 B b.length (dH b))(he:a=b)(hal:a.length≤1000000000):
  Calls prog 25 #[.slice A a.length c,.slice B b.length d] w fun e w'=>e=.returned (.bool true)∧Below w.heap.size w w':=by
 subst he
 have HA:=jI ha
 have HB:=jI hb
 obtain⟨n,hn⟩:=kE a.length
 have HN:=jI hn
 rw[←hn] at hal ⊢
 clear ha hb hn
 go_enter func25,ntmps25
 go_wp2
 go_loopw [5] (fun x wr=>∃k:Nat,k≤n∧x=.int .i64 k∧Below w.heap.size w wr) (fun x _=>n-(intOf x).toNat)
 case atStart=>exact⟨0,cu _,rfl,jQ _ _⟩
 case round=>
  obtain⟨k,hk,rfl,hbr⟩:=hrel
  by_cases hlt:k<n
  ·have hlt2:k<a.length:=by rw[←HN.out];exact hlt
   obtain⟨g1,o1,rfl,-,h1⟩:=HA.out.cells (by omega)
   obtain⟨g2,o2,rfl,-,h2⟩:=HB.out.cells (by omega)
   have hv:(dH a)[k]?=some (.int .u16 (a[k]:Nat)):=by simp[dH,hlt2]
   have e1':=h1 k _ hv
   have e2':=h2 k _ hv
   have e1:=(hbr.cell (p:=⟨g1,o1+k,none⟩) (World.block_lt_of_cell? w _ e1')).trans e1'
   have e2:=(hbr.cell (p:=⟨g2,o2+k,none⟩) (World.block_lt_of_cell? w _ e2')).trans e2'
   obtain⟨z,hz⟩:∃z:Nat,z=a[k]:=⟨_,rfl⟩
   rw[←hz] at e1 e2
   have hkI:(k:Int)<(n:Int):=by omega
   have hk0:(0:Int)≤(k:Int):=by omega
   clear h1 h2 hv e1' e2' hz
   go_wp2_with go_quiet (fail)
   go_wp2
   go_roundw
   case rel=>exact⟨k+1,by omega,by go_num,by first|exact hbr|exact below_drewN hbr _⟩
   case measure=>simp[intOf];omega
  ·obtain rfl:k=n:=by omega
   have hkI:¬(k:Int)<(k:Int):=by omega
   go_wp2
   go_ret
   exact⟨rfl,hbr⟩
def aw1:Dc:=⟨1,0,bs [115],[bs [97],bs [98],bs [99]],[],.zero,bs [],.zero,.zero,bs []⟩
def aw2:Dc:=⟨2,0,bs [102],[],[⟨1,bs [],0,0,[],[]⟩],.zero,bs [],.zero,.zero,bs []⟩
def aw3:Dc:=⟨4,0,bs [120],[],[],.zero,bs [99,114,97,115,104],.mk 1 (bs [97]) 0 [] [],.mk 1 (bs [97]) 0 [] [],bs [102]⟩
def awT:Tm:=.mk 2 (bs []) 2 [] [.mk 1 (bs [97]) 0 [] [],.mk 4 (bs []) 0 [] [.mk 1 (bs [98]) 0 [] [],.mk 1 (bs [99]) 0 [] []]]
theorem DZ:(ql [aw1,aw2,aw3] awT).2=0∧(ql [aw1,aw2,aw3] awT).1.nodes.length=5:=⟨by kernel_rfl,by kernel_rfl⟩
theorem aw_size:([aw1,aw2,aw3].map aW).sum≤1100000∧ax awT≤1550000:=⟨of_decide_eq_true (by kernel_rfl),of_decide_eq_true (by kernel_rfl)⟩
theorem qO{W:World}{b:Nat}{cs:List Value}{T:TypeId}{size n:Nat}(S:Nat→Prop)(h:W.heap[b]?=some (.cells cs.toArray T (0,0)))(hl:cs.length=n * size)(hS:S b):ak W S size (some ⟨b,0,none⟩) n cs:=
 ⟨hl,fun _=>⟨b,0,rfl,hS,fun j u hu=>by rw[j5 _ _ (0+j) _ _ _ h];simpa using hu⟩⟩
def awRow(bA:Nat):List Value:=.int .i64 1::.int .i64 0::.string ⟨#[115]⟩::.slice (some ⟨bA,0,none⟩) 3 3::.slice none 0 0::.int .i64 0::.string ⟨#[]⟩::.int .i64 0::.slice none 0 0::.slice none 0 0::.string ⟨#[]⟩::.int .i64 0::.string ⟨#[]⟩::.int .i64 0::.slice none 0 0::.slice none 0 0::.int .i64 0::.string ⟨#[]⟩::.int .i64 0::.slice none 0 0::.slice none 0 0::.string ⟨#[]⟩::.int .i64 2::.int .i64 0::.string ⟨#[102]⟩::.slice none 0 0::.slice (some ⟨bA+1,0,none⟩) 1 1::.int .i64 0::.string ⟨#[]⟩::.int .i64 0::.slice none 0 0::.slice none 0 0::.string ⟨#[]⟩::.int .i64 0::.string ⟨#[]⟩::.int .i64 0::.slice none 0 0::.slice none 0 0::.int .i64 0::.string ⟨#[]⟩::.int .i64 0::.slice none 0 0::.slice none 0 0::.string ⟨#[]⟩::[]
def awRow3:List Value:=[.int .i64 4,.int .i64 0,.string ⟨#[120]⟩,.slice none 0 0,.slice none 0 0,.int .i64 0,.string ⟨#[]⟩,.int .i64 0,.slice none 0 0,.slice none 0 0,.string ⟨#[99,114,97,115,104]⟩,.int .i64 1,.string ⟨#[97]⟩,.int .i64 0,.slice none 0 0,.slice none 0 0,.int .i64 1,.string ⟨#[97]⟩,.int .i64 0,.slice none 0 0,.slice none 0 0,.string ⟨#[102]⟩]
theorem aw_list{W:World}{bA:Nat}{S:Nat→Prop}{A:Option Addr}(hn:W.heap[bA]?=some (.cells #[.string ⟨#[97]⟩,.string ⟨#[98]⟩,.string ⟨#[99]⟩] 9 (0,0)))(hf:W.heap[bA+1]?=some (.cells #[.int .i64 1,.string ⟨#[]⟩,.int .i64 0,.int .i64 0,.slice none 0 0,.slice none 0 0] 68 (0,0)))
  (hs:ak W S 22 A 3 (awRow bA++awRow3)) (h0:S bA) (h1:S (bA+1)):aO (dS W S) W S 22 A [aw1,aw2,aw3]:=by
 refine⟨[.agg #[.int .i64 1,.int .i64 0,.string ⟨#[115]⟩,.slice (some ⟨bA,0,none⟩) 3 3,.slice none 0 0,.int .i64 0,.string ⟨#[]⟩,.int .i64 0,.slice none 0 0,.slice none 0 0,.string ⟨#[]⟩,.int .i64 0,.string ⟨#[]⟩,.int .i64 0,.slice none 0 0,.slice none 0 0,.int .i64 0,.string ⟨#[]⟩,.int .i64 0,.slice none 0 0,.slice none 0 0,.string ⟨#[]⟩],.agg #[.int .i64 2,.int .i64 0,.string ⟨#[102]⟩,.slice none 0 0,.slice (some ⟨bA+1,0,none⟩) 1 1,.int .i64 0,.string ⟨#[]⟩,.int .i64 0,.slice none 0 0,.slice none 0 0,.string ⟨#[]⟩,.int .i64 0,.string ⟨#[]⟩,.int .i64 0,.slice none 0 0,.slice none 0 0,.int .i64 0,.string ⟨#[]⟩,.int .i64 0,.slice none 0 0,.slice none 0 0,.string ⟨#[]⟩],.agg #[.int .i64 4,.int .i64 0,.string ⟨#[120]⟩,.slice none 0 0,.slice none 0 0,.int .i64 0,.string ⟨#[]⟩,.int .i64 0,.slice none 0 0,.slice none 0 0,.string ⟨#[99,114,97,115,104]⟩,.int .i64 1,.string ⟨#[97]⟩,.int .i64 0,.slice none 0 0,.slice none 0 0,.int .i64 1,.string ⟨#[97]⟩,.int .i64 0,.slice none 0 0,.slice none 0 0,.string ⟨#[102]⟩]],rfl,hs,fun i d v hd hv=>?_⟩
 have hi:i=0∨i=1∨i=2:=by
  have:=(List.getElem?_eq_some_iff.1 hd).1
  simp at this
  omega
 rcases hi with rfl|rfl|rfl
 ·cases hd;cases hv
  exact⟨some ⟨bA,0,none⟩,3,none,0,_,_,_,rfl,qO S (cs:=[.string ⟨#[97]⟩,.string ⟨#[98]⟩,.string ⟨#[99]⟩]) hn rfl h0,aP _,.empty _ _ _ _ _,aP _,dX.named _ _ 0 (bs []),dX.named _ _ 0 (bs []),dX.named _ _ 0 (bs [])⟩
 ·cases hd;cases hv
  refine⟨none,0,some ⟨bA+1,0,none⟩,1,_,_,_,rfl,.empty _ _ _ _,aP _,⟨[.agg #[.int .i64 1,.string ⟨#[]⟩,.int .i64 0,.int .i64 0,.slice none 0 0,.slice none 0 0]],rfl,qO S (cs:=[.int .i64 1,.string ⟨#[]⟩,.int .i64 0,.int .i64 0,.slice none 0 0,.slice none 0 0]) hf rfl h1,fun j x u hx hu=>?_⟩,aP _,dX.named _ _ 0 (bs []),dX.named _ _ 0 (bs []),dX.named _ _ 0 (bs [])⟩
  have hj:j=0:=by
   have:=(List.getElem?_eq_some_iff.1 hx).1
   simp[aw2] at this
   omega
  subst hj
  cases hx;cases hu
  exact⟨none,0,none,0,rfl,.empty _ _ _ _,aP _,.empty _ _ _ _,aP _⟩
 ·cases hd;cases hv
  exact⟨none,0,none,0,_,_,_,rfl,.empty _ _ _ _,aP _,.empty _ _ _ _ _,aP _,dX.named _ _ 0 (bs []),dX.named _ _ 1 (bs [97]),dX.named _ _ 1 (bs [97])⟩
theorem tm_row{W:World}{S:Nat→Prop}{b:Nat}{T:TypeId}{k1 k2:Tm}{v1 v2:Value}{cs:List Value}(hb:W.heap[b]?=some (.cells cs.toArray T (0,0)))(hc:cs=cellsOf v1++cellsOf v2)(h1:dX W S k1 v1)(h2:dX W S k2 v2)(hl1:(cellsOf v1).length=5)(hl2:(cellsOf v2).length=5)(hS:S b)(op:Int)(name:ByteArray)(need:Int):
  dX W S (.mk op name need [] [k1,k2]) (.agg #[.int .i64 op,.string name,.int .i64 need,.slice none 0 0,.slice (some ⟨b,0,none⟩) 2 2]):=by
 refine .mk op name need [] [k1,k2] none (some ⟨b,0,none⟩) 0 2 [v1,v2] (.empty _ _ _ _) (aP _) ?_ (aP _) rfl (fun i t v ht hv=>?_)
 ·have e:([v1,v2]:List Value).flatMap cellsOf=cs:=by rw[hc];simp
  rw[e]
  exact qO S hb (by rw[hc,bD,hl1,hl2];rfl) hS
 ·have hi:i=0∨i=1:=by
   have:=(List.getElem?_eq_some_iff.1 ht).1
   simp at this
   omega
  rcases hi with rfl|rfl
  ·cases ht;cases hv;exact h1
  ·cases ht;cases hv;exact h2
theorem aw_term{W:World}{bT:Nat}(hrT:W.heap[bT]?=some (.cells #[.int .i64 1,.string ⟨#[98]⟩,.int .i64 0,.slice none 0 0,.slice none 0 0,.int .i64 1,.string ⟨#[99]⟩,.int .i64 0,.slice none 0 0,.slice none 0 0] 26 (0,0)))(hrU:W.heap[bT+1]?=some (.cells #[.int .i64 1,.string ⟨#[97]⟩,.int .i64 0,.slice none 0 0,.slice none 0 0,.int .i64 4,.string ⟨#[]⟩,.int .i64 0,.slice none 0 0,.slice (some ⟨bT,0,none⟩) 2 2] 26 (0,0))):
  dX W (·<W.heap.size) awT (.agg #[.int .i64 2,.string ⟨#[]⟩,.int .i64 2,.slice none 0 0,.slice (some ⟨bT+1,0,none⟩) 2 2]):=by
 have h4:=tm_row (cs:=[.int .i64 1,.string ⟨#[98]⟩,.int .i64 0,.slice none 0 0,.slice none 0 0,.int .i64 1,.string ⟨#[99]⟩,.int .i64 0,.slice none 0 0,.slice none 0 0]) hrT rfl (dX.named W (·<W.heap.size) 1 ⟨#[98]⟩) (dX.named W (·<W.heap.size) 1 ⟨#[99]⟩) rfl rfl (jS hrT) 4 ⟨#[]⟩ 0
 exact tm_row (cs:=[.int .i64 1,.string ⟨#[97]⟩,.int .i64 0,.slice none 0 0,.slice none 0 0,.int .i64 4,.string ⟨#[]⟩,.int .i64 0,.slice none 0 0,.slice (some ⟨bT,0,none⟩) 2 2]) hrU rfl (dX.named W (·<W.heap.size) 1 ⟨#[97]⟩) h4 rfl rfl (jS hrU) 2 ⟨#[]⟩ 2
end Go.Proofs.YtmohibkomlhlaaaGreatDoor
