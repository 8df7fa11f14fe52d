/- The contracts of slices.SortFunc and Compact at faults that stand in order. Up to twelve faults; sets of twelve servers. The contract of fault.Threshold: the faults of so many Byzantine servers and so many that iw. Numbers in range. Condition: the table of math/bits lies in the world. The contracts of slices.Clone at faults, of fault.normal and of Normalize. Faults in order, up to twelve; sets of twelve servers. The contract of expanded at a declaration of faults that is one threshold, and of model where it has not been asked yet. Numbers in range. Condition: the table of math/bits lies in the world. -/
import Derived.Test.YtmohibkomlhlaaaGreatDoorPde
set_option maxRecDepth 100000
set_option maxHeartbeats 4000000
namespace Go.Proofs.YtmohibkomlhlaaaGreatDoor
section
open Go.RowKit
def Flt12(l:List (Nat × Nat)):Prop:=∀x∈l,x.1<4096∧x.2<4096
end
section
open Go.RowKit
open _root_.Go.Proofs.Tryz
attribute [local go_sem] Oper.semAt_some
def GL(all c y:Nat):List (Nat × Nat):=(fZ (uw all y) c).map fun x=>(y,x)
def D9(all c:Nat)(l:List Nat):List (Nat × Nat):=l.flatMap (GL all c)
def fq(n b c:Nat):List (Nat × Nat) × Nat:=if 100<(D9 (2^n-1) c (fZ (2^n-1) b)).length then ([],3) else (D9 (2^n-1) c (fZ (2^n-1) b),0)
theorem BP(all c:Nat)(l:List Nat)(y:Nat):D9 all c (l++[y])=D9 all c l++GL all c y:=by
 unfold D9
 rw[List.flatMap_append,List.flatMap_cons,List.flatMap_nil,List.append_nil]
theorem thrL_len(all c:Nat){pre l:List Nat}(h:pre <+: l):(D9 all c pre).length≤(D9 all c l).length:=by
 obtain⟨r,rfl⟩:=h
 unfold D9
 rw[List.flatMap_append,bD]
 omega
theorem nV(l:List (Nat × Nat))(p:Nat × Nat):aL (l++[p])=aL l++[.int .u16 (p.1:Nat),.int .u16 (p.2:Nat)]:=by
 unfold aL
 rw[List.flatMap_append,List.flatMap_cons,List.flatMap_nil,List.append_nil]
def FltsPost(l:List (Nat × Nat))(er:Nat)(w:World)(e:Ending)(w':World):Prop:=∃A c,e=.returned (.tuple #[.slice A l.length c,.int .i64 (er:Nat)])∧ak w' (w.heap.size≤·) 2 A l.length (aL l)∧l.length≤c∧Below w.heap.size w w'
theorem AL{β:Type}{S:Nat→Prop}{B:Nat}(W:World)(hS:∀g,S g→g<B):OwnFrom B (fun(_:β) W'=>gm S W W'):=fun s X Y row hs hg hr=>by
 refine⟨fun g o hSg hgo=>?_,fun g cs fr hgo=>?_⟩
 ·have h1:=hs.1 g o hSg hgo
  exact (hg.block g (Array.getElem?_eq_some_iff.1 h1).1 (fun e=>by have:=(hr g e.symm).1;have:=hS g hSg;omega)).trans h1
 ·have h1:=hs.2 g cs fr hgo
  exact (hg.block g (Array.getElem?_eq_some_iff.1 h1).1 (fun e=>by obtain⟨-,o,ho,hc⟩:=hr g e.symm;rw[h1] at ho;cases ho;cases hc)).trans h1
def ThF(w:World)(N3:Nat)(all c:Nat)(L:List (Nat × Nat))(W:World):Prop:=
 ((W.heap[w.heap.size]?=some (.cells #[.int .i64 (c:Nat)] 3 (0,0))∧W.heap[w.heap.size+1]?=some (.cells #[.slice none 0 0] 52 (0,0))∧W.heap[w.heap.size+1+1]?=some (.cells #[.int .i64 0] 39 (0,0))∧W.heap[w.heap.size+1+1+1]?=some (.cells #[.int .u16 (all:Nat)] 28 (0,0)))∧
  ∃v,Boxed W (w.heap.size+1+1+1+1) 52 v∧W.ownsRow N3 148 2 v L.length (aL L)∧L.length≤100)∧Below w.heap.size w W∧N3≤W.heap.size
theorem alloc_at(W:World)(o:Obj){g:Nat}(h:g=W.heap.size):(W.alloc o).heap[g]?=some o:=by subst h;exact jR _ _
theorem ThF.later{w:World}{N3 all c:Nat}{L:List (Nat × Nat)}{W W':World}(h:ThF w N3 all c L W)(hb:Below W.heap.size W W'):ThF w N3 all c L W':=by
 obtain⟨⟨⟨c0,c1,c2,c3⟩,v,hv,hrow,xW⟩,hB,hW3⟩:=h
 have hk:=fun{g:Nat}{o:Obj}(h:W.heap[g]?=some o)=>(hb.block g (Array.getElem?_eq_some_iff.1 h).1).trans h
 exact⟨⟨⟨hk c0,hk c1,hk c2,hk c3⟩,v,hk hv,own_below hrow hb (aP _),xW⟩,hB.trans (hb.mono hB.size),cK hW3 hb.size⟩
theorem thF_own{β:Type}(w:World)(N3 N:Nat)(all c:Nat)(f:β→List (Nat × Nat))(hN:w.heap.size≤N):OwnFrom N (fun s W=>ThF w N3 all c (f s) W):=
 (((bI N _ _ _ _).and ((bI N _ _ _ _).and ((bI N _ _ _ _).and (bI N _ _ _ _)))).and
  (Own.from (holdsRow_own N3 (w.heap.size+1+1+1+1) 52 148 2 (fun s=>(f s).length) (fun s=>aL (f s)) (fun s _=>(f s).length≤100)) N)).and ((ownFrom_below (aP _) hN).and (fun _ _ _ _ hs hg _=>cK hs hg.size))
def ThX(w:World)(W:World):Prop:=W.heap[w.heap.size+1]?=some (.cells #[.slice none 0 0] 52 (0,0))∧W.heap[w.heap.size+1+1]?=some (.cells #[.int .i64 3] 39 (0,0))∧Below w.heap.size w W
theorem thX_own{β:Type}(w:World)(N:Nat)(hN:w.heap.size≤N):OwnFrom N (fun(_:β) W=>ThX w W):=(bI N _ _ _ _).and ((bI N _ _ _ _).and (ownFrom_below (aP _) hN))
theorem uP:(prog.info? 148).map (fun i=>(i.zero,i.size,i.bytes))=some (some (.agg #[.int .u16 0,.int .u16 0]),2,4):=by kernel_rfl
theorem yS{F:Fence}{m:Nat}(w:World){ops:Array Oper}{rest:List Oper}{o:Oper}{a:Act}{Q:Exit→Act→World→Prop}(hgd:o.guard=none)(s x:Operand)
  (ho:o.op=.call { callee:=.builtin .append,args:=#[s,x],argTypes:=#[52,52] })
  (base:Nat) (v:Value) (n:Nat) (xs:List Value) (hown:w.ownsRow base 148 2 v n xs) (hs:a.eval s=v)
  (y z:Nat) (hx:a.eval x=.slice (some ⟨w.heap.size,0,none⟩) 1 1) (hlim:n≤10000000000) (hbase:base≤w.heap.size)
  (h:∀v' w',w'.ownsRow base 148 2 v' (n+1) (xs++[.int .u16 (y:Nat),.int .u16 (z:Nat)])→(w.alloc (.cells #[.int .u16 (y:Nat),.int .u16 (z:Nat)] 148)).grownBy w' v.ownBlock→wpListIn F m prog ops Q rest (a.put o.dst v') w'):
  wpListIn F m prog ops Q (o::rest) a (w.alloc (.cells #[.int .u16 (y:Nat),.int .u16 (z:Nat)] 148)):=by
 obtain⟨i0,hi,hz0,hz1,hz2⟩:=info_parts uP
 exact wpListIn_append_own _ hgd s x 52 ho base 148 i0 _ 2 4 underlying52 hi hz0 hz1 hz2 rfl (by decide) v n xs hs (hown.alloc _) ⟨w.heap.size,0,none⟩ 1 1 [.int .u16 (y:Nat),.int .u16 (z:Nat)] hx rfl
  (fun j u hu=>by
   have hadd:(⟨w.heap.size,0,none⟩:Addr).add j=⟨w.heap.size,j,none⟩:=by unfold Addr.add;split<;>simp_all
   rw[hadd,j5 _ _ j _ _ _ (jR w _)]
   simpa using hu) (by simp[Value.oneCell']) (cK (show n+1≤10000000001 by omega) (by decide)) (by omega) (by simp;omega) (fun v' w' h1 h2 _=>h v' w' h1 h2)
theorem thrF_any(n b c:Nat)(hn:n≤12)(hbc:b+c≤n)(w:World)(hz:Tz w):
  Calls prog 103 #[.int .i64 n,.int .i64 b,.int .i64 c] w (FltsPost (fq n b c).1 (fq n b c).2 w):=by
 have hbA:∀(W:World)(o:Obj),Below W.heap.size W (W.alloc o):=fun W o=>(jQ _ _).alloc (aP _) o
 obtain⟨fo,hfo⟩:=kE (fq n b c)
 rw[←hfo]
 unfold fq at hfo
 obtain⟨all,hall⟩:=kE (2^n-1)
 rw[←hall] at hfo
 have hp1:1≤2^n:=Nat.one_le_two_pow
 have hp2:2^n≤4096:=Nat.pow_le_pow_right (by decide) hn
 have hall12:all<4096:=by omega
 have hallI:IntKind.u16.wrap (IntKind.u16.wrap (2^n)-1)=(all:Int):=by
  show ((2:Int)^n % 65536-1) % 65536=(all:Int)
  rw[show ((2:Int)^n)=((2^n:Nat):Int) by simp,hall]
  omega
 have HFO:=jI hfo
 have HZ:=jI hz
 have h1:¬(n:Int)<0:=by omega
 have h2:¬(12:Int)<(n:Int):=by omega
 have h3:¬(b:Int)<0:=by omega
 have h4:¬(c:Int)<0:=by omega
 have h5:¬(n:Int)<(b:Int):=by omega
 have h6:¬(n:Int)-(b:Int)<(c:Int):=by omega
 have h7:IntKind.i64.wrap ((n:Int)-(b:Int))=(n:Int)-(b:Int):=IntWalk.i64_in _ (by omega)
 have hn0:(0:Int)≤(n:Int):=by omega
 clear hfo hz hp1 hp2 hall
 refine (callsIn_wide (n:=9)).1 ?_
 refine callsIn_of_wp_marks func103 rfl trivial ?_ rfl
 simp only[ntmps103,List.size_toArray,fM,List.length_nil,Nat.reduceAdd,Nat.reduceSub,Array.replicate_succ,Array.replicate_zero,List.push_toArray,List.append_toArray,List.nil_append,List.cons_append]
 gi_wp2_with fail
 obtain⟨wq,hwq⟩:=kE (((((w.alloc (.cells #[.int .i64 c] 3)).alloc (.cells #[.slice none 0 0] 52)).alloc (.cells #[.int .i64 0] 39)).alloc (.cells #[.int .u16 all] 28)).alloc (.cells #[.slice none 0 0] 52))
 have hsq:wq.heap.size=w.heap.size+5:=by rw[hwq];simp
 have hbq:Below w.heap.size w wq:=by rw[hwq];exact ((((hbA _ _).alloc (by simp) _).alloc (by simp;omega) _).alloc (by simp;omega) _).alloc (by simp;omega) _
 have HSQ:=jI hsq
 have q0:wq.heap[w.heap.size]?=some (.cells #[.int .i64 (c:Nat)] 3 (0,0)):=by rw[hwq,kD _ _ (by simp<;>omega),kD _ _ (by simp<;>omega),kD _ _ (by simp<;>omega),kD _ _ (by simp<;>omega)];exact alloc_at _ _ (by simp)
 have q1:wq.heap[w.heap.size+1]?=some (.cells #[.slice none 0 0] 52 (0,0)):=by rw[hwq,kD _ _ (by simp<;>omega),kD _ _ (by simp<;>omega),kD _ _ (by simp<;>omega)];exact alloc_at _ _ (by simp)
 have q2:wq.heap[w.heap.size+1+1]?=some (.cells #[.int .i64 0] 39 (0,0)):=by rw[hwq,kD _ _ (by simp<;>omega),kD _ _ (by simp<;>omega)];exact alloc_at _ _ (by simp)
 have q3:wq.heap[w.heap.size+1+1+1]?=some (.cells #[.int .u16 all] 28 (0,0)):=by rw[hwq,kD _ _ (by simp<;>omega)];exact alloc_at _ _ (by simp)
 have q4:wq.heap[w.heap.size+1+1+1+1]?=some (.cells #[.slice none 0 0] 52 (0,0)):=by rw[hwq];exact alloc_at _ _ (by simp)
 have HQ0:=jI q0
 have HQ1:=jI q1
 have HQ2:=jI q2
 have HQ3:=jI q3
 have HQ4:=jI q4
 have HWQ:=jI hwq
 clear q0 q1 q2 q3 q4 hwq hsq
 rw[←HWQ.out]
 refine⟨trivial,(callsIn_wide.2 (xH all b wq)).mono ?_⟩
 rintro e w3 ⟨rfl,hw3⟩
 have hs3:wq.heap.size+1<w3.heap.size:=by rw[hw3];simp
 have hb3:Below wq.heap.size wq w3:=by rw[hw3];exact (hbA _ _).alloc (by simp) _
 have hr3:w3.heap[wq.heap.size]?=some (.cells #[.int .u16 all] 28 (0,0)):=by rw[hw3];exact heap_alloc2_old _ _ _
 have hr4:w3.heap[wq.heap.size+1]?=some (.cells #[.int .i64 b] 3 (0,0)):=by rw[hw3];exact heap_alloc2_new _ _ _
 clear hw3
 gi_wp2_with fail
 --LOOP
 have hKS:∀g,(g=2∨g=wq.heap.size∨g=wq.heap.size+1)→g<w3.heap.size∧g≠w.heap.size+1+1+1+1:=by
  have:=HSQ.out
  have:=HZ.out.1
  rintro g (rfl|rfl|rfl)<;>exact⟨by omega,by omega⟩
 have jC:Below w.heap.size w w3:=hbq.trans (hb3.mono hbq.size)
 have hl:=fun{g:Nat}{o:Obj}(h:wq.heap[g]?=some o)=>(hb3.block g (Array.getElem?_eq_some_iff.1 h).1).trans h
 refine wpIn_rangeFunc_ownH rfl (by decide) (gf:=177) (lb:=#[.pointer (some ⟨wq.heap.size,0,none⟩),.pointer (some ⟨wq.heap.size+1,0,none⟩)]) rfl trivial (enters_of func177 (by kernel_rfl) rfl)
  (uh 8 wq.heap.size (wq.heap.size+1) 28 3 (fun g=>g=2∨g=wq.heap.size∨g=wq.heap.size+1) (Or.inl rfl) all b hall12 (by omega) w3 (HZ.out.below jC (aP _)) hr3 hr4)
  gm.trans (wN (fun g hg=>(hKS g hg).1)) (jQ _ _) (fun _=>rfl)
  (fun pre W=>ThF w w3.heap.size all c (D9 all c (pre.map Subtype.val)) W)
  (fun c' pre W=>(c'=.ret∧100<(D9 all c (pre.map Subtype.val)).length)∧ThX w W)
  (thF_own w w3.heap.size w3.heap.size all c (fun pre:List U16=>D9 all c (pre.map Subtype.val)) jC.size)
  (fun c'=>(ownFrom_pure _ _).and (thX_own w w3.heap.size jC.size))
  ⟨⟨⟨hl HQ0.out,hl HQ1.out,hl HQ2.out,hl HQ3.out⟩,_,hl HQ4.out,World.ownsRow_nil _ _ _ _,cu _⟩,jC,aP _⟩
  (fun y a' W=>∃Bx,w3.heap.size≤Bx∧Boxed W Bx 28 (.int .u16 (y.1:Nat))∧a'={ tmps:=#[.int .i64 n,.int .i64 b,.int .i64 c,undef,undef,.pointer (some ⟨w.heap.size,0,none⟩),.pointer (some ⟨w.heap.size+1,0,none⟩),.pointer (some ⟨w.heap.size+1+1,0,none⟩),.pointer (some ⟨w.heap.size+1+1+1,0,none⟩),.pointer (some ⟨w.heap.size+1+1+1+1,0,none⟩),.pointer (some ⟨Bx,0,none⟩),undef,.int .i64 n,.bool false,.bool false,.int .i64 n,.bool false,.bool false,.bool false,.int .i64 b,.bool false,.bool false,.bool false,.int .i64 c,.bool false,.bool false,.bool false,.int .i64 b,.int .i64 n,.bool false,.bool false,.bool false,.int .i64 c,.int .i64 n,.int .i64 b,.int .i64 ((n:Int)-(b:Int)),.bool false,.bool false,.int .i64 n,.int .u16 (IntKind.u16.wrap (2^n)),.int .u16 all,.int .u16 all,.int .i64 b,.func (.func 177) #[] #[.pointer (some ⟨wq.heap.size,0,none⟩),.pointer (some ⟨wq.heap.size+1,0,none⟩)],.int .u16 (y.1:Nat),undef,undef,undef,undef,undef,undef,undef,undef,undef,undef,undef,undef,undef,undef,undef,undef],defers:=[] })
  (fun y a' _ X Y row hs hg hr=>by obtain⟨Bx,e1,e2,e3⟩:=hs;exact⟨Bx,e1,boxed_own Bx 28 (fun(_:Unit)=>Value.int .u16 (y.1:Nat)) () X Y row e2 hg (fun r e=>(hr r e).2),e3⟩)
  ?assign ?body ?done ?stop
 case assign=>
  rintro l pre y W K hI hK
  gi_wp2
  have hbW:=hbA W (.cells #[.int .u16 (y.1:Nat)] 28)
  exact hK _ _ ((KeepsOthers.alloc _ _).from _) (gm.of_below hbW) (hI.later hbW) ⟨W.heap.size,hI.2.2,Boxed.new W 28 _,rfl⟩
 case body=>
  rintro l pre y a' W hl2 ⟨r,hr⟩ hI ⟨Bx,hBx,bX,rfl⟩ hlt
  have hI0:=hI
  obtain⟨⟨⟨c0,c1,c2,c3⟩,v,hv,hrow,xW⟩,hB,hW3⟩:=hI0
  have x0:=j5 W _ 0 _ _ _ c0
  have x3:=j5 W _ 0 _ _ _ c3
  have xB:=bX.cell
  have hI:=jI hI
  clear c0 c1 c2 c3 hv hrow xW
  obtain⟨ls,hls⟩:=kE (uw all y.1)
  have hless:=oP all y.1 (by omega) y.2
  rw[←hls] at hless
  have hls12:ls<4096:=by rw[hls];exact fG Nat.and_le_left hall12
  have HLS:=jI hls
  clear hls
  gi_wp2_with fail
  refine⟨trivial,(CallsIn.inRound l (callsIn_wide.2 (xH ls c W))).mono ?_⟩
  rintro e w5 ⟨rfl,hw5⟩
  have hb5:Below W.heap.size W w5:=by rw[hw5];exact (hbA _ _).alloc (by simp) _
  have hr5:w5.heap[W.heap.size]?=some (.cells #[.int .u16 ls] 28 (0,0)):=by rw[hw5];exact heap_alloc2_old _ _ _
  have hr6:w5.heap[W.heap.size+1]?=some (.cells #[.int .i64 c] 3 (0,0)):=by rw[hw5];exact heap_alloc2_new _ _ _
  clear hw5
  gi_wp2_with fail
  obtain⟨Lo,hLo⟩:=kE (D9 all c (pre.map Subtype.val))
  rw[←hLo] at hI
  have HLO:=jI hLo
  clear hLo
  have hsW:=hb5.size
  have hl5:=jS hr6
  have hww5:w.heap.size≤w5.heap.size:=cK hB.size hsW
  have hB5:w.heap.size+1+1+1+1<w3.heap.size:=by have:=HSQ.out;omega
  have hSo:∀g,(g=2∨g=wq.heap.size∨g=wq.heap.size+1)→g<W.heap.size:=fun g hg=>by have:=(hKS g hg).1;omega
  have hSi:∀g,(g=2∨g=W.heap.size∨g=W.heap.size+1)→g<w5.heap.size:=by
   have:=HZ.out.1
   have:=jC.size
   rintro g (rfl|rfl|rfl)<;>omega
  have hr':w5.heap[l]?=some (.loop r):=(hb5.block _ (Array.getElem?_eq_some_iff.1 hr).1).trans hr
  refine wpIn_rangeFunc_ownN (l₀:=l) (r₀:=r) rfl hr' (by decide) (gf:=177) (lb:=#[.pointer (some ⟨W.heap.size,0,none⟩),.pointer (some ⟨W.heap.size+1,0,none⟩)]) rfl trivial (enters_of func177 (by kernel_rfl) rfl)
   ((uh _ W.heap.size (W.heap.size+1) 28 3 (fun g=>g=2∨g=W.heap.size∨g=W.heap.size+1) (Or.inl rfl) ls c hls12 (by omega) w5 (HZ.out.below (hB.trans (hb5.mono hB.size)) (aP _)) hr5 hr6).inRound l)
   gm.trans (wN hSi) (jQ _ _) (fun _=>rfl)
   (fun pre' W'=>(ThF w w3.heap.size all c (Lo++pre'.map fun z=>(y.1,z.1)) W'∧(W'.heap[Bx]?=some (.cells #[.int .u16 (y.1:Nat)] 28 (0,0))∧W'.heap[W.heap.size]?=some (.cells #[.int .u16 ls] 28 (0,0))∧W'.heap[W.heap.size+1]?=some (.cells #[.int .i64 c] 3 (0,0))))∧(gm (fun g=>g=2∨g=wq.heap.size∨g=wq.heap.size+1) W W'∧KeepsFrom w3.heap.size W W'))
   (fun c' pre' W'=>((c'=.ret∧100<(Lo++pre'.map fun z=>(y.1,z.1)).length)∧ThX w W')∧KeepsFrom w3.heap.size W W')
   (((thF_own w w3.heap.size w5.heap.size all c (fun pre':List U16=>Lo++pre'.map fun z=>(y.1,z.1)) (by omega)).and ((bI w5.heap.size Bx _ _ _).and ((bI w5.heap.size W.heap.size _ _ _).and (bI w5.heap.size (W.heap.size+1) _ _ _)))).and ((AL W (fun g hg=>by have:=hSo g hg;omega)).and (ownFrom_keepsFrom hsW)))
   (fun c'=>((ownFrom_pure _ _).and (thX_own w w5.heap.size (by omega))).and (ownFrom_keepsFrom hsW))
   ⟨⟨by rw[List.map_nil,List.append_nil];exact hI.out.later hb5,(hb5.block _ bX.lt).trans bX,hr5,hr6⟩,gm.of_below hb5,(ig hb5).from _⟩
   (fun z a'' _=>a''={ tmps:=#[.int .i64 n,.int .i64 b,.int .i64 c,undef,undef,.pointer (some ⟨w.heap.size,0,none⟩),.pointer (some ⟨w.heap.size+1,0,none⟩),.pointer (some ⟨w.heap.size+1+1,0,none⟩),.pointer (some ⟨w.heap.size+1+1+1,0,none⟩),.pointer (some ⟨w.heap.size+1+1+1+1,0,none⟩),.pointer (some ⟨Bx,0,none⟩),.int .u16 (z.1:Nat),.int .i64 n,.bool false,.bool false,.int .i64 n,.bool false,.bool false,.bool false,.int .i64 b,.bool false,.bool false,.bool false,.int .i64 c,.bool false,.bool false,.bool false,.int .i64 b,.int .i64 n,.bool false,.bool false,.bool false,.int .i64 c,.int .i64 n,.int .i64 b,.int .i64 ((n:Int)-(b:Int)),.bool false,.bool false,.int .i64 n,.int .u16 (IntKind.u16.wrap (2^n)),.int .u16 all,.int .u16 all,.int .i64 b,.func (.func 177) #[] #[.pointer (some ⟨wq.heap.size,0,none⟩),.pointer (some ⟨wq.heap.size+1,0,none⟩)],.int .u16 (y.1:Nat),.int .u16 all,.int .u16 (y.1:Nat),.int .u16 (ls:Nat),.int .i64 c,.func (.func 177) #[] #[.pointer (some ⟨W.heap.size,0,none⟩),.pointer (some ⟨W.heap.size+1,0,none⟩)],.int .u16 (z.1:Nat),undef,undef,undef,undef,undef,undef,undef,undef,undef,undef],defers:=[] })
   (fun _ _ _ _ _ _ hs _ _=>hs)
   ?assign2 ?body2 ?done2 ?stop2
  case assign2=>
   rintro l2 pre' z W' K hi hK
   gi_wp2
   exact hK _ _ (KeepsFrom.refl _ _) gm.refl hi rfl
  case body2=>
   rintro l2 pre' z a'' W' _ _ ⟨⟨⟨⟨⟨c0,c1,c2,c3⟩,v,hv,hrow,xW⟩,hB2,hW32⟩,hBx2,hi1,hi2⟩,hKN,hKF⟩ rfl hlt2
   obtain⟨L2,hL2⟩:=kE (Lo++pre'.map fun z=>(y.1,z.1))
   rw[←hL2] at hrow xW
   have hL3:(Lo++(pre'++[z]).map fun z=>(y.1,z.1))=L2++[(y.1,z.1)]:=by rw[hL2];simp
   obtain⟨A5,c5,rfl,hc5⟩:=aD hrow
   have y9:=j5 W' _ 0 _ _ _ hv
   have y10:=j5 W' _ 0 _ _ _ hBx2
   have hSoi:∀g,((g=2∨g=wq.heap.size∨g=wq.heap.size+1)∨g=2∨g=W.heap.size∨g=W.heap.size+1)→g≠w.heap.size+1+1+1+1∧(Value.slice A5 L2.length c5).ownBlock≠some g:=by
    have hlow:∀g,(g=2∨g=wq.heap.size∨g=wq.heap.size+1)→g≠w.heap.size+1+1+1+1∧(Value.slice A5 L2.length c5).ownBlock≠some g:=fun g hg=>⟨(hKS g hg).2,fun e=>by have:=(hrow.lt g e).1;have:=(hKS g hg).1;omega⟩
    rintro g (hg|rfl|rfl|rfl)
    ·exact hlow g hg
    ·exact hlow _ (Or.inl rfl)
    ·exact⟨by omega,ownBlock_ne hrow hi1 (by decide)⟩
    ·exact⟨by omega,ownBlock_ne hrow hi2 (by decide)⟩
   have hbx9:Bx≠w.heap.size+1+1+1+1∧(Value.slice A5 L2.length c5).ownBlock≠some Bx:=⟨by omega,ownBlock_ne hrow hBx2 (by decide)⟩
   have hlBx:=jS hBx2
   have hli2:=jS hi2
   have uG:=jI hrow
   have HV:=jI hv
   have C0:=jI c0
   have C1:=jI c1
   have C2:=jI c2
   have C3:=jI c3
   have HI1:=jI hi1
   have HI2:=jI hi2
   have HBX:=jI hBx2
   have HL3:=jI hL3
   clear c0 c1 c2 c3 hv hi1 hi2 hBx2 hrow hL2 hL3
   by_cases hfull:100<L2.length+1
   ·have hfI:(100:Int)<(L2.length:Int)+1:=by omega
    gi_wp2_with (gi_at_builtin;refine yS W' rfl (.tmp 51) (.tmp 55) rfl w3.heap.size (.slice A5 L2.length c5) L2.length _ uG.out rfl y.1 z.1 rfl (by omega) hW32 ?_;intro v' w8 hown' hgrow;have hst:=Ey v' (jQ _ _) hW32 HV.out hB5 uG.out hgrow (by decide) (by decide) hSoi (show w.heap.size≤w.heap.size+1+1+1+1 by omega);obtain⟨g',cap',rfl⟩:=ownsRow_succ hown';have k1:=j5 w8 _ 0 _ _ _ hst.box;have k2:=jT w8 _ 0 _ _ hst.box;have k3:=j5 w8 _ 0 _ _ _ ((hst.mid _ (by omega)).trans C1.out);have k4:=jT w8 _ 0 _ _ ((hst.mid _ (by omega)).trans C1.out);have k5:=j5 w8 _ 0 _ _ _ ((hst.mid _ (by omega)).trans C2.out);have k6:=jT w8 _ 0 _ _ ((hst.mid _ (by omega)).trans C2.out))
    have hN:∀g,g<w3.heap.size→g≠w.heap.size+1+1+1+1→(w8.setCell ⟨w.heap.size+1+1+1+1,0,none⟩ (.slice (some ⟨g',0,none⟩) (L2.length+1) cap')).heap[g]?=W'.heap[g]?:=hst.old
    have hne2:w.heap.size+1≠w.heap.size+1+1:=by omega
    have hlen:100<(Lo++(pre'++[z]).map fun z=>(y.1,z.1)).length:=by rw[HL3.out,bD,List.length_singleton];omega
    refine⟨(hst.others.trans ((KeepsOthers.setCell _ _ _).trans (KeepsOthers.setCell _ _ _))).from _,⟨⟨rfl,hlen⟩,?_,?_,?_⟩,hKF.trans ((hst.others.trans ((KeepsOthers.setCell _ _ _).trans (KeepsOthers.setCell _ _ _))).from _)⟩
    ·rw[kC _ _ _ _ (show w.heap.size+1≠w.heap.size+1+1 from hne2)]
     exact aF ((hN _ (by omega) (by omega)).trans C1.out) (.slice none 0 0)
    ·refine aF ((kC _ ⟨w.heap.size+1,0,none⟩ (.slice none 0 0) _ (show w.heap.size+1+1≠w.heap.size+1 from hne2.symm)).trans ((hN _ (by omega) (by omega)).trans C2.out)) (.int .i64 3)
    ·exact ((hB2.trans hst.below).setCell (p:=⟨w.heap.size+1,0,none⟩) (Nat.le_succ _) _).setCell (p:=⟨w.heap.size+1+1,0,none⟩) (by show w.heap.size≤w.heap.size+1+1;omega) _
   ·have hfI:¬(100:Int)<(L2.length:Int)+1:=by omega
    gi_wp2_with (gi_at_builtin;refine yS W' rfl (.tmp 51) (.tmp 55) rfl w3.heap.size (.slice A5 L2.length c5) L2.length _ uG.out rfl y.1 z.1 rfl (by omega) hW32 ?_;intro v' w8 hown' hgrow;have hst:=Ey v' (jQ _ _) hW32 HV.out hB5 uG.out hgrow (by decide) (by decide) hSoi (show w.heap.size≤w.heap.size+1+1+1+1 by omega);obtain⟨g',cap',rfl⟩:=ownsRow_succ hown';have k1:=j5 w8 _ 0 _ _ _ hst.box;have k2:=jT w8 _ 0 _ _ hst.box)
    have hN:∀g,g<w3.heap.size→g≠w.heap.size+1+1+1+1→(w8.setCell ⟨w.heap.size+1+1+1+1,0,none⟩ (.slice (some ⟨g',0,none⟩) (L2.length+1) cap')).heap[g]?=W'.heap[g]?:=hst.old
    refine⟨hst.others.from _,hst.keep.less (fun g hg=>Or.inr hg),⟨?_,?_⟩,(hKN.trans (hst.keep.less (fun g hg=>Or.inl hg))),hKF.trans (hst.others.from _)⟩
    ·have hfin:∀l,l=L2++[(y.1,z.1)]→ThF w w3.heap.size all c l (w8.setCell ⟨w.heap.size+1+1+1+1,0,none⟩ (.slice (some ⟨g',0,none⟩) (L2.length+1) cap')):=by
      rintro l rfl
      refine⟨⟨⟨(hN _ (by omega) (by omega)).trans C0.out,(hN _ (by omega) (by omega)).trans C1.out,(hN _ (by omega) (by omega)).trans C2.out,(hN _ (by omega) (by omega)).trans C3.out⟩,_,hst.box9,?_,by rw[bD,List.length_singleton];omega⟩,hB2.trans hst.below,cK hW32 hst.others.size⟩
      rw[bD,nV]
      exact jl hown' (fun g e=>kC _ _ _ g (by have:=(hown'.lt g e).1;show g≠w.heap.size+1+1+1+1;omega))
     exact hfin _ (by rw[←HL3.out];try simp)
    ·exact⟨(hst.old2 _ hlBx hbx9.1 hbx9.2).trans HBX.out,(hst.old2 _ (by omega) (hSoi _ (Or.inr (Or.inr (Or.inl rfl)))).1 (hSoi _ (Or.inr (Or.inr (Or.inl rfl)))).2).trans HI1.out,(hst.old2 _ hli2 (hSoi _ (Or.inr (Or.inr (Or.inr rfl)))).1 (hSoi _ (Or.inr (Or.inr (Or.inr rfl)))).2).trans HI2.out⟩
  case done2=>
   rintro ys W' hys ⟨⟨hTh,-⟩,hKN,hKF⟩
   have e9:D9 all c ((pre++[y]).map Subtype.val)=Lo++ys.map fun z=>(y.1,z.1):=by
    rw[List.map_append,List.map_cons,List.map_nil,BP,←HLO.out,GL,←HLS.out,←hys,List.map_map]
    rfl
   gi_wp2
   exact⟨hKF,hKN,by show ThF w w3.heap.size all c (D9 all c ((pre++[y]).map Subtype.val)) W';rw[e9];exact hTh⟩
  case stop2=>
   rintro c' pre' W' hpre ⟨⟨⟨rfl,hlen⟩,hX⟩,hKF⟩
   have e9:100<(D9 all c ((pre++[y]).map Subtype.val)).length:=by
    rw[List.map_append,List.map_cons,List.map_nil,BP,←HLO.out,GL,←HLS.out]
    have:=hpre.length_le
    rw[List.length_map] at this
    rw[bD,List.length_map] at hlen ⊢
    omega
   gi_wp2
   exact⟨hKF,⟨rfl,e9⟩,hX⟩
 case done=>
  rintro D ys W hD hys ⟨⟨⟨c0,c1,c2,c3⟩,v,hv,hrow,xW⟩,hB,hW3⟩ hK
  rw[hys] at hrow xW
  obtain⟨A5,c5,rfl,hc5⟩:=aD hrow
  obtain⟨L,hL⟩:=kE (D9 all c (fZ all b))
  rw[←hL] at hrow xW hv hc5
  have h9:=HFO.out
  rw[←hL,if_neg (by omega)] at h9
  have H9:=jI h9
  have x2:=j5 W _ 0 _ _ _ c1
  have x3:=jT W _ 0 _ _ c1
  have x4:=j5 W _ 0 _ _ _ c2
  have x5:=jT W _ 0 _ _ c2
  have y2:=j5 W _ 0 _ _ _ hv
  have uG:=jI hrow
  have HC1:=jI c1
  have HC2:=jI c2
  have HK:=jI hK
  clear hrow hL h9 hys c0 c1 c2 c3 hv hK
  gi_wp2
  have hK9:=(((KeepsOthers.setCell W ⟨w.heap.size+1,0,none⟩ (.slice A5 L.length c5)).trans (KeepsOthers.setCell _ ⟨w.heap.size+1+1,0,none⟩ (.int .i64 0))).same D _ HK.out rfl)
  refine⟨by simp,.inl ⟨_,_,rfl,run_takeDeferred hK9,?_⟩⟩
  have hne2:w.heap.size+1≠w.heap.size+1+1:=by omega
  have hb9:Below w.heap.size w ((W.setCell ⟨w.heap.size+1,0,none⟩ (.slice A5 L.length c5)).setCell ⟨w.heap.size+1+1,0,none⟩ (.int .i64 0)):=(hB.setCell (p:=⟨w.heap.size+1,0,none⟩) (Nat.le_succ _) _).setCell (p:=⟨w.heap.size+1+1,0,none⟩) (by show w.heap.size≤w.heap.size+1+1;omega) _
  have hD1:w.heap.size+1+1<D:=by have:=HSQ.out;omega
  refine⟨_,Gy rfl rfl rfl (A:=A5) (n:=L.length) (c:=c5) (er:=0) (T:=52) (T':=39) ?_ ?_,?_⟩
  ·rw[gq _ (by omega),kC _ _ _ _ (show w.heap.size+1≠w.heap.size+1+1 from hne2)]
   exact aF HC1.out (.slice A5 L.length c5)
  ·rw[gq _ (by omega)]
   exact aF ((kC W ⟨w.heap.size+1,0,none⟩ (.slice A5 L.length c5) _ (show w.heap.size+1+1≠w.heap.size+1 from hne2.symm)).trans HC2.out) (.int .i64 0)
  ·rw[H9.out]
   refine⟨A5,c5,rfl,?_,hc5,hb9.trans (belowK_b (w:=w) (aP _) _ D _ _ (by omega) hK9 rfl rfl)⟩
   refine (ak.own (jl uG.out (fun g e=>?_))).mono (fun g hg _=>by have:=jC.size;omega) (by decide)
   have hg:=uG.out.lt g e
   have hgD:g≠D:=fun e9=>by
    have h1:=HK.out
    rw[←e9] at h1
    rcases uG.out.2 with ⟨h2,-⟩|⟨g1,c1,cur1,h2,-,h3,-⟩
    ·rw[h2] at e;cases e
    ·rw[h2] at e
     simp only[Value.ownBlock,Option.some.injEq] at e
     rw[e,h1] at h3
     cases h3
   have:=HSQ.out
   rw[gq _ hgD,kC _ _ _ g (show g≠w.heap.size+1+1 by omega),kC _ _ _ g (show g≠w.heap.size+1 by omega)]
 case stop=>
  rintro D c' pre W hD hpre ⟨⟨rfl,hlen⟩,c1,c2,hB⟩ hK
  have h9:=HFO.out
  rw[if_pos (by have:=thrL_len all c hpre;omega)] at h9
  have H9:=jI h9
  have HC1:=jI c1
  have HC2:=jI c2
  have HK:=jI hK
  clear h9 hpre c1 c2 hK hlen
  gi_wp2
  refine⟨by simp,.inl ⟨_,_,rfl,run_takeDeferred HK.out,?_⟩⟩
  have hD1:w.heap.size+1+1<D:=by have:=HSQ.out;omega
  refine⟨_,Gy rfl rfl rfl (A:=none) (n:=0) (c:=0) (er:=3) ((gq _ (by omega)).trans HC1.out) ((gq _ (by omega)).trans HC2.out),?_⟩
  rw[H9.out]
  exact⟨none,0,rfl,.empty _ _ _ _,aP _,hB.trans (belowK_b (w:=w) (aP _) _ D _ _ (by omega) HK.out rfl rfl)⟩
end
section
open Go.RowKit
open _root_.Go.Proofs.Tryz
theorem fU(l:List (Nat × Nat)):(aL l).length=l.length * 2:=by
 induction l with
 |nil=>rfl
 |cons x r ih=>rw[show aL (x::r)=[.int .u16 (x.1:Nat),.int .u16 (x.2:Nat)]++aL r from rfl,bD,ih,fM];simp;omega
theorem wX(l:List (Nat × Nat)):∀u∈aL l,u.oneCell'=true:=by
 intro u hu
 obtain⟨x,-,hu⟩:=List.mem_flatMap.1 hu
 simp only[List.mem_cons,List.not_mem_nil,or_false] at hu
 rcases hu with rfl|rfl<;>rfl
theorem push_flt(w:World){ops:Array Oper}{rest:List Oper}{o:Oper}{a:Act}{Q:Exit→Act→World→Prop}(hgd:o.guard=none)(s x:Operand)
  (ho:o.op=.call { callee:=.builtin .append,args:=#[s,x],argTypes:=#[52,52] })
  (base:Nat) (v:Value) (n:Nat) (xs:List Value) (hown:w.ownsRow base 148 2 v n xs) (hs:a.eval s=v)
  (y z:Nat) (hx:a.eval x=.slice (some ⟨w.heap.size,0,none⟩) 1 1)
  (hlim:n≤100000000000) (hbase:base≤w.heap.size)
  (h:∀v' w',w'.ownsRow base 148 2 v' (n+1) (xs++[.int .u16 (y:Nat),.int .u16 (z:Nat)])→w.grownBy w' v.ownBlock→(v'.ownBlock=v.ownBlock∨v'.ownBlock=some (w.heap.size+1))→wpList prog ops Q rest (a.put o.dst v') w'):
  wpList prog ops Q (o::rest) a (w.alloc (.cells #[.int .u16 (y:Nat),.int .u16 (z:Nat)] 148)):=by
 obtain⟨i0,hi,hz0,hz1,hz2⟩:=info_parts uP
 exact eB w hgd s x _ ho base 148 i0 _ 2 4 underlying52 hi hz0 hz1 hz2 rfl (by decide) v n xs hown hs [.int .u16 (y:Nat),.int .u16 (z:Nat)] hx rfl (by simp[Value.oneCell']) (by omega) (by omega) hbase h
theorem dc_flts{w:World}{S:Nat→Prop}{d:Dc}{v:Value}(h:dS w S d v):∃(cs:List Value)(fA:Option Addr)(fc:Nat),cs.length=22∧cs.toArray.all (·.oneCell')=true∧v=.agg cs.toArray∧cs[4]?=some (.slice fA d.faults.length fc)∧aO (ng w S) w S 6 fA d.faults:=by
 obtain⟨nA,nc,fA,fc,vt,vr,vw,hv,h1,h2,h3,h4,h5,h6,h7⟩:=h
 obtain⟨o1,m1,d1,wA1,wn1,wc1,kA1,kn1,kc1,rfl⟩:=h5.form
 obtain⟨o2,m2,d2,wA2,wn2,wc2,kA2,kn2,kc2,rfl⟩:=h6.form
 obtain⟨o3,m3,d3,wA3,wn3,wc3,kA3,kn3,kc3,rfl⟩:=h7.form
 clear h5 h6 h7
 simp only[Value.cells,List.append_toArray,List.cons_append,List.nil_append] at hv
 refine⟨[.int .i64 d.kind,.int .i64 d.line,.string d.name,.slice nA d.names.length nc,.slice fA d.faults.length fc,.int .i64 o1,.string m1,.int .i64 d1,.slice wA1 wn1 wc1,.slice kA1 kn1 kc1,.string d.proto,.int .i64 o2,.string m2,.int .i64 d2,.slice wA2 wn2 wc2,.slice kA2 kn2 kc2,.int .i64 o3,.string m3,.int .i64 d3,.slice wA3 wn3 wc3,.slice kA3 kn3 kc3,.string d.use],fA,fc,rfl,all_oneCell_toArray ?_,hv,rfl,h3⟩
 intro u hu
 simp only[List.mem_cons,List.not_mem_nil,or_false] at hu
 rcases hu with rfl|rfl|rfl|rfl|rfl|rfl|rfl|rfl|rfl|rfl|rfl|rfl|rfl|rfl|rfl|rfl|rfl|rfl|rfl|rfl|rfl|rfl<;>rfl
end
end Go.Proofs.YtmohibkomlhlaaaGreatDoor
