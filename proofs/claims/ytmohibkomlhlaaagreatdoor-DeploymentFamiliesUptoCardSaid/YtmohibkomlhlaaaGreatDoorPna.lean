/- Deployments: their plain form and how they lie in memory. No condition. The contracts of slices.Clone at sets and at faults, and of copied. Condition: few elements. -/
import Derived.Test.YtmohibkomlhlaaaGreatDoorPdi
set_option maxRecDepth 100000
set_option maxHeartbeats 8000000
namespace Go.Proofs.YtmohibkomlhlaaaGreatDoor
open Go.RowKit
open _root_.Go.Proofs.Tryz
structure BF where
 name:ByteArray
 kind:Int
 mem:Nat
 read:List Nat
 write:List Nat
 faults:List (Nat × Nat)
structure DCli where
 name:ByteArray
 plain:Bool
 faults:List (Nat × Nat)
structure DDep where
 servers:List ByteArray
 sites:List (ByteArray × Nat)
 wit:Nat
 gI:List BF
 chain:List Int
 clients:List DCli
def mP(l:List (ByteArray × Nat)):List Value:=l.flatMap fun p=>[Value.string p.1,Value.int .u16 (p.2:Nat)]
theorem ba_ne{x y:ByteArray}(h:x≠y):(x.toList==y.toList)=false:=by
 rw[bP,ByteArray.toList_eq,ByteArray.toList_eq]
 intro e;exact h (ByteArray.ext (Array.toList_inj.1 e))
theorem ba_nee{x y:ByteArray}(h:x≠y):(x==y)=false:=by rw[Bool.eq_false_iff];intro e;exact h ((eT _ _).1 e)
theorem ba_self(x:ByteArray):(x==x)=true:=(eT _ _).2 rfl
def eH(w:World)(S:Nat→Prop)(x:BF)(v:Value):Prop:=∃rA rc wA wc fA fc,v=.agg #[.string x.name,.int .i64 x.kind,.int .u16 (x.mem:Nat),.slice rA x.read.length rc,.slice wA x.write.length wc,.slice fA x.faults.length fc]∧
 ak w S 1 rA x.read.length (dH x.read)∧ak w S 1 wA x.write.length (dH x.write)∧ak w S 2 fA x.faults.length (aL x.faults)
def oh(w:World)(S:Nat→Prop)(x:DCli)(v:Value):Prop:=∃fA fc,v=.agg #[.string x.name,.bool x.plain,.slice fA x.faults.length fc]∧ak w S 2 fA x.faults.length (aL x.faults)
def xV(w:World)(S:Nat→Prop)(x:DDep)(v:Value):Prop:=∃sA sc tA tc cA cc hA hc kA kc,v=.agg #[.slice sA x.servers.length sc,.slice tA x.sites.length tc,.int .u16 (x.wit:Nat),.slice cA x.gI.length cc,.slice hA x.chain.length hc,.slice kA x.clients.length kc]∧
 ak w S 1 sA x.servers.length (aC x.servers)∧ak w S 2 tA x.sites.length (mP x.sites)∧aO (eH w S) w S 6 cA x.gI∧ak w S 1 hA x.chain.length (bY x.chain)∧aO (oh w S) w S 3 kA x.clients
def kI(size n:Nat)(xs:List Value)(w:World)(e:Ending)(w':World):Prop:=∃A c,e=.returned (.slice A n c)∧ak w' (w.heap.size≤·) size A n xs∧Below w.heap.size w w'
theorem Ew(l:List Nat):∀u∈dH l,u.oneCell'=true:=by
 intro u hu
 obtain⟨x,-,rfl⟩:=List.mem_map.1 hu
 rfl
theorem Gj{w:World}{S:Nat→Prop}{size n:Nat}{xs:List Value}(h:ak w S size none n xs):n=0:=by
 rcases Nat.eq_zero_or_pos n with e|e
 ·exact e
 ·obtain⟨g,o,e,-⟩:=h.cells e;cases e
theorem zS(w:World){ops:Array Oper}{rest:List Oper}{o:Oper}{a:Act}{Q:Exit→Act→World→Prop}(hgd:o.guard=none)(s x:Operand)
  (ho:o.op=.call { callee:=.builtin .append,args:=#[s,x],argTypes:=#[51,51] })
  (base:Nat) (v:Value) (n:Nat) (xs:List Value) (hown:w.ownsRow base 28 1 v n xs) (hs:a.eval s=v)
  (p:Addr) (m c:Nat) (news:List Value) (hx:a.eval x=.slice (some p) m c) (hl:news.length=m * 1) (hcells:∀j u,news[j]?=some u→w.cell? (p.add j)=some u) (h1:∀u∈news,u.oneCell'=true)
  (hlim:n+m≤100000000) (hbase:base≤w.heap.size)
  (h:∀v' w',w'.ownsRow base 28 1 v' (n+m) (xs++news)→w.grownBy w' v.ownBlock→(v'.ownBlock=v.ownBlock∨v'.ownBlock=some w.heap.size)→wpList prog ops Q rest (a.put o.dst v') w'):
  wpList prog ops Q (o::rest) a w:=by
 obtain⟨i0,hi,hz0,hz1,hz2⟩:=info_parts CU
 refine wpList_plain hgd fun _ hK=>?_
 obtain⟨v',w',h1',h2,h3,_,h5⟩:=run_append_own_at (P:=prog) w base 51 o.type 28 i0 _ 1 2 underlying51 hi hz0 hz1 hz2 rfl (by decide) v n xs hown p m c news hl hcells h1 (by unfold maxLen;omega) (by omega) hbase
 unfold Oper.wp execOp
 simp only[ho,resolve,invoke,builtin,Sem.run_bind,Sem.run_pure,Result.andThen_ok,List.map_toArray,List.map_cons,List.map_nil,hs,hx,h1']
 exact hK _ _ (h v' w' h2 h3 h5)
theorem zK(l:List Nat)(A:Option Addr)(c:Nat)(w:World)(S:Nat→Prop)(hl:ak w S 1 A l.length (dH l))(hS:∀g,S g→g<w.heap.size)(hll:l.length≤10000000):
  Calls prog 79 #[.slice A l.length c] w (kI 1 l.length (dH l) w):=by
 cases A with
 |none=>
  have h0:=Gj hl
  have uH:=jI (show kI 1 l.length (dH l) w (.returned (.slice none l.length 0)) w from ⟨none,0,rfl,by rw[h0] at hl ⊢;exact⟨hl.1,fun h=>absurd h (by omega)⟩,jQ _ _⟩)
  obtain⟨n,hn⟩:=kE l.length
  rw[←hn] at h0 uH ⊢
  subst h0
  have heq:=fun(W:World)=>Lib.run_eql_slice_nil (P:=prog) W 51 28 none 0 c 0 0 underlying51
  clear hn hl hll
  go_enter func79,ntmps79
  go_wp2
  go_ret
  exact uH.out
 |some p=>
  obtain⟨flat,lg⟩:=kE (dH l)
  have hlen:flat.length=l.length * 1:=by rw[lg];exact by simp[dH]
  have hone:∀u∈flat,u.oneCell'=true:=by rw[lg];exact Ew l
  rw[←lg] at hl ⊢
  have hc:∀j u,flat[j]?=some u→w.cell? (p.add j)=some u∧(p.add j).block<w.heap.size:=by
   intro j u hu
   have hj:=(List.getElem?_eq_some_iff.1 hu).1
   obtain⟨g,o,e,hSg,h⟩:=hl.cells (by omega)
   cases e
   rw[Go.WideShapes.add_plain]
   exact⟨h j u hu,hS g hSg⟩
  obtain⟨X,hX⟩:=kE (w.alloc (.cells #[] 28 (0,0)))
  have hbX:Below w.heap.size w X:=by rw[hX];exact (jQ _ _).alloc (aP _) _
  have hzX:w.heap.size≤X.heap.size:=hbX.size
  have hoX:X.ownsRow w.heap.size 28 1 (.slice (some ⟨w.heap.size,0,none⟩) 0 0) 0 []:=by rw[hX];exact World.ownsRow_lit (base:=w.heap.size) (e:=28) (size:=1) w #[] 0 (aP _) (by decide) rfl
  have hcX:∀j u,flat[j]?=some u→X.cell? (p.add j)=some u:=fun j u hu=>(hbX.cell (p:=p.add j) (hc j u hu).2).trans (hc j u hu).1
  have HX:=jI hX
  have HC:=jI hcX
  have nD:=jI hone
  have HLEN:=jI hlen
  have uH:=jI (fun(W:World)(v:Value)(hown:W.ownsRow w.heap.size 28 1 v (0+l.length) ([]++flat))(hb:Below w.heap.size w W)=>show kI 1 l.length flat w (.returned v) W from by
   rw[Nat.zero_add,List.nil_append] at hown
   obtain⟨A',c',rfl,-⟩:=aD hown
   exact⟨A',c',rfl,ak.own hown,hb⟩)
  clear hX hcX hc hone hlen lg hl
  have heq:=fun(W:World)=>Lib.run_eql_slice_nil (P:=prog) W 51 28 (some p) l.length c 0 0 underlying51
  go_enter func79,ntmps79
  go_upto_region 3 with fail
  go_wp2_with (rw[←HX.out];refine zS X rfl (.tmp 5) (.tmp 6) rfl w.heap.size _ 0 [] hoX rfl p l.length c flat rfl HLEN.out HC.out nD.out (by omega) hzX ?_;intro v3 X3 hown3 hg3 hv3)
  go_ret
  exact uH.out X3 v3 hown3 (hbX.trans (aN hoX hg3 hzX))
theorem zT(w:World){ops:Array Oper}{rest:List Oper}{o:Oper}{a:Act}{Q:Exit→Act→World→Prop}(hgd:o.guard=none)(s x:Operand)
  (ho:o.op=.call { callee:=.builtin .append,args:=#[s,x],argTypes:=#[52,52] })
  (base:Nat) (v:Value) (n:Nat) (xs:List Value) (hown:w.ownsRow base 148 2 v n xs) (hs:a.eval s=v)
  (p:Addr) (m c:Nat) (news:List Value) (hx:a.eval x=.slice (some p) m c) (hl:news.length=m * 2) (hcells:∀j u,news[j]?=some u→w.cell? (p.add j)=some u) (h1:∀u∈news,u.oneCell'=true)
  (hlim:n+m≤100000000) (hbase:base≤w.heap.size)
  (h:∀v' w',w'.ownsRow base 148 2 v' (n+m) (xs++news)→w.grownBy w' v.ownBlock→(v'.ownBlock=v.ownBlock∨v'.ownBlock=some w.heap.size)→wpList prog ops Q rest (a.put o.dst v') w'):
  wpList prog ops Q (o::rest) a w:=by
 obtain⟨i0,hi,hz0,hz1,hz2⟩:=info_parts uP
 refine wpList_plain hgd fun _ hK=>?_
 obtain⟨v',w',h1',h2,h3,_,h5⟩:=run_append_own_at (P:=prog) w base 52 o.type 148 i0 _ 2 4 underlying52 hi hz0 hz1 hz2 rfl (by decide) v n xs hown p m c news hl hcells h1 (by unfold maxLen;omega) (by omega) hbase
 unfold Oper.wp execOp
 simp only[ho,resolve,invoke,builtin,Sem.run_bind,Sem.run_pure,Result.andThen_ok,List.map_toArray,List.map_cons,List.map_nil,hs,hx,h1']
 exact hK _ _ (h v' w' h2 h3 h5)
theorem JH(l:List (Nat × Nat))(A:Option Addr)(c:Nat)(w:World)(S:Nat→Prop)(hl:ak w S 2 A l.length (aL l))(hS:∀g,S g→g<w.heap.size)(hll:l.length≤10000000):
  Calls prog 78 #[.slice A l.length c] w (kI 2 l.length (aL l) w):=by
 cases A with
 |none=>
  have h0:=Gj hl
  have uH:=jI (show kI 2 l.length (aL l) w (.returned (.slice none l.length 0)) w from ⟨none,0,rfl,by rw[h0] at hl ⊢;exact⟨hl.1,fun h=>absurd h (by omega)⟩,jQ _ _⟩)
  obtain⟨n,hn⟩:=kE l.length
  rw[←hn] at h0 uH ⊢
  subst h0
  have heq:=fun(W:World)=>Lib.run_eql_slice_nil (P:=prog) W 52 148 none 0 c 0 0 underlying52
  clear hn hl hll
  go_enter func78,ntmps78
  go_wp2
  go_ret
  exact uH.out
 |some p=>
  obtain⟨flat,lg⟩:=kE (aL l)
  have hlen:flat.length=l.length * 2:=by rw[lg];exact fU l
  have hone:∀u∈flat,u.oneCell'=true:=by rw[lg];exact wX l
  rw[←lg] at hl ⊢
  have hc:∀j u,flat[j]?=some u→w.cell? (p.add j)=some u∧(p.add j).block<w.heap.size:=by
   intro j u hu
   have hj:=(List.getElem?_eq_some_iff.1 hu).1
   obtain⟨g,o,e,hSg,h⟩:=hl.cells (by omega)
   cases e
   rw[Go.WideShapes.add_plain]
   exact⟨h j u hu,hS g hSg⟩
  obtain⟨X,hX⟩:=kE (w.alloc (.cells #[] 148 (0,0)))
  have hbX:Below w.heap.size w X:=by rw[hX];exact (jQ _ _).alloc (aP _) _
  have hzX:w.heap.size≤X.heap.size:=hbX.size
  have hoX:X.ownsRow w.heap.size 148 2 (.slice (some ⟨w.heap.size,0,none⟩) 0 0) 0 []:=by rw[hX];exact World.ownsRow_lit (base:=w.heap.size) (e:=148) (size:=2) w #[] 0 (aP _) (by decide) rfl
  have hcX:∀j u,flat[j]?=some u→X.cell? (p.add j)=some u:=fun j u hu=>(hbX.cell (p:=p.add j) (hc j u hu).2).trans (hc j u hu).1
  have HX:=jI hX
  have HC:=jI hcX
  have nD:=jI hone
  have HLEN:=jI hlen
  have uH:=jI (fun(W:World)(v:Value)(hown:W.ownsRow w.heap.size 148 2 v (0+l.length) ([]++flat))(hb:Below w.heap.size w W)=>show kI 2 l.length flat w (.returned v) W from by
   rw[Nat.zero_add,List.nil_append] at hown
   obtain⟨A',c',rfl,-⟩:=aD hown
   exact⟨A',c',rfl,ak.own hown,hb⟩)
  clear hX hcX hc hone hlen lg hl
  have heq:=fun(W:World)=>Lib.run_eql_slice_nil (P:=prog) W 52 148 (some p) l.length c 0 0 underlying52
  go_enter func78,ntmps78
  go_upto_region 3 with fail
  go_wp2_with (rw[←HX.out];refine zT X rfl (.tmp 5) (.tmp 6) rfl w.heap.size _ 0 [] hoX rfl p l.length c flat rfl HLEN.out HC.out nD.out (by omega) hzX ?_;intro v3 X3 hown3 hg3 hv3)
  go_ret
  exact uH.out X3 v3 hown3 (hbX.trans (aN hoX hg3 hzX))
theorem eH.mk{w:World}{S:Nat→Prop}{x:BF}{rA wA fA:Option Addr}{rc wc fc:Nat}(h1:ak w S 1 rA x.read.length (dH x.read))(h2:ak w S 1 wA x.write.length (dH x.write))(h3:ak w S 2 fA x.faults.length (aL x.faults)):
  eH w S x (.agg #[.string x.name,.int .i64 x.kind,.int .u16 (x.mem:Nat),.slice rA x.read.length rc,.slice wA x.write.length wc,.slice fA x.faults.length fc]):=⟨_,_,_,_,_,_,rfl,h1,h2,h3⟩
theorem ret_cfg1{fn:Func}{slot:Nat}{R:Ending→World→Prop}{a:Act}{W:World}{r:Nat}{cells:Array Value}(hres:fn.results=#[.cell slot 54])(hp:a.tmps.getD slot undef=.pointer (some ⟨r,0,none⟩))(hd:a.defers=[])
  (hblk:W.heap[r]?=some (.cells cells 54 (0,0))) (hc:cells.size=6) (hR:R (.returned (.agg cells)) W):bodyPost prog fn R .ret a W:=
 bodyPost_ret (v:=.agg cells) (results_cell_row hres _ _ r 54 cells (0,0) _ (by simpa using hp) hblk underlying54 rfl (by rw[hc];exact mO)) hd hR
theorem JD(x:BF)(v:Value)(w:World)(S:Nat→Prop)(hx:eH w S x v)(hS:∀g,S g→g<w.heap.size)(h1:x.read.length≤1000)(h2:x.write.length≤1000)(h3:x.faults.length≤1000):
  Calls prog 45 #[v] w fun e w'=>∃v',e=.returned v'∧eH w' (w.heap.size≤·) x v'∧Below w.heap.size w w':=by
 obtain⟨nm,kd,mb,R,V,F⟩:=x
 obtain⟨rA,rc,wA,wc,fA,fc,rfl,hr,hv,hf⟩:=hx
 simp only at hr hv hf h1 h2 h3 ⊢
 have hbA:∀(W:World)(o:Obj),Below W.heap.size W (W.alloc o):=fun W o=>(jQ _ _).alloc (aP _) o
 obtain⟨W1,hW1⟩:=kE (w.alloc (.cells #[.string nm,.int .i64 kd,.int .u16 (mb:Nat),.slice rA R.length rc,.slice wA V.length wc,.slice fA F.length fc] 54))
 have hb1:Below w.heap.size w W1:=by rw[hW1];exact hbA _ _
 have hr1:W1.heap[w.heap.size]?=some (.cells #[.string nm,.int .i64 kd,.int .u16 (mb:Nat),.slice rA R.length rc,.slice wA V.length wc,.slice fA F.length fc] 54 (0,0)):=by rw[hW1];exact jR _ _
 have hz1:W1.heap.size=w.heap.size+1:=by rw[hW1];simp
 obtain⟨W2,hW2⟩:=kE (W1.alloc (.cells #[.string ⟨#[]⟩,.int .i64 0,.int .u16 0,.slice none 0 0,.slice none 0 0,.slice none 0 0] 54))
 have hb2:Below W1.heap.size W1 W2:=by rw[hW2];exact hbA _ _
 have hz2:W2.heap.size=w.heap.size+2:=by rw[hW2,World.size_alloc,hz1]
 have g2:W2.heap[w.heap.size]?=some (.cells #[.string nm,.int .i64 kd,.int .u16 (mb:Nat),.slice rA R.length rc,.slice wA V.length wc,.slice fA F.length fc] 54 (0,0)):=(hb2.block _ (by omega)).trans hr1
 have q2:W2.heap[w.heap.size+1]?=some (.cells #[.string ⟨#[]⟩,.int .i64 0,.int .u16 0,.slice none 0 0,.slice none 0 0,.slice none 0 0] 54 (0,0)):=by rw[hW2,←hz1];exact jR _ _
 have hbw:=hb1.trans (hb2.mono (by omega))
 have HR:=jI (fun(X:World)(h:Kept S W2 X)(hz:W2.heap.size≤X.heap.size)=>zK R rA rc X S ((hr.keep (aj hbw hS)).keep h) (fun g hg=>by have:=hS g hg;omega) (by omega))
 have HV:=jI (fun(X:World)(h:Kept S W2 X)(hz:W2.heap.size≤X.heap.size)=>zK V wA wc X S ((hv.keep (aj hbw hS)).keep h) (fun g hg=>by have:=hS g hg;omega) (by omega))
 have HF:=jI (fun(X:World)(h:Kept S W2 X)(hz:W2.heap.size≤X.heap.size)=>JH F fA fc X S ((hf.keep (aj hbw hS)).keep h) (fun g hg=>by have:=hS g hg;omega) (by omega))
 have hSq:∀g,S g→¬g=w.heap.size:=fun g hg e=>by have:=hS g hg;omega
 have hgt:∀g,w.heap.size+1<g→¬g=w.heap.size:=fun g h e=>by omega
 have H1:=jI hW1
 have H2:=jI hW2
 have HZ1:=jI hz1
 have HZ2:=jI hz2
 have HBW:=jI hbw
 have G2:=jI g2
 have Q2:=jI q2
 clear hr hv hf hW1 hW2 hr1 hb1 hb2 hz1 hz2 hbw g2 q2
 go_enter func45,ntmps45
 go_upto_region 1 with fail
 rw[←H1.out,←H2.out]
 go_cut [] (fun wx=>∃r2 n1 w2 n2 f2 n3,Hid (wx.heap[w.heap.size]?=some (.cells #[.string nm,.int .i64 kd,.int .u16 (mb:Nat),.slice r2 R.length n1,.slice w2 V.length n2,.slice f2 F.length n3] 54 (0,0)))∧Hid (ak wx (fun g=>w.heap.size+1<g) 1 r2 R.length (dH R)∧ak wx (fun g=>w.heap.size+1<g) 1 w2 V.length (dH V)∧ak wx (fun g=>w.heap.size+1<g) 2 f2 F.length (aL F))∧But (fun g=>g=w.heap.size) W2 wx)
 case first=>
  refine av.start (fun W'=>W'.heap[w.heap.size]?=some (.cells #[.string nm,.int .i64 kd,.int .u16 (mb:Nat),.slice rA R.length rc,.slice wA V.length wc,.slice fA F.length fc] 54 (0,0))∧But (fun g=>g=w.heap.size) W2 W') [10,12,14] [0,1,3,4,6,7,9,11,13] (by kernel_rfl) ⟨G2.out,⟨rfl,rfl,rfl,aP _,fun _ _ _=>rfl⟩⟩ (fun hHeld=>?_)
  obtain⟨g,bx⟩:=hHeld
  repeat
   refine av.take (v:=?_) rfl (by decide +kernel) (by rfl) (fun _ _ _ h=>h) ⟨g,bx⟩ ?_ ?_
   rotate_left
   focus
    intro w9 h9
    have k3:=ah h9.1 3 _ rfl
    have k4:=ah h9.1 4 _ rfl
    have k5:=ah h9.1 5 _ rfl
    go_simp
    (try with_reducible rfl)
    done
   simp only[Act.put,List.getElem_toArray,List.getElem_cons_succ,List.getElem_cons_zero,List.setIfInBounds_toArray,List.set_cons_zero,List.set_cons_succ]
  repeat'
   first
   |refine av.pure (v:=?_) rfl (by decide +kernel) (by rfl) (fun _ _ _ h=>h) (by first|exact fun h=>absurd h (by decide)|exact fun _=>⟨g,bx⟩) ?_ ?_
    rotate_left
    focus
     intro w9
     go_simp
     (try with_reducible rfl)
     done
    simp only[Act.put,List.getElem_toArray,List.getElem_cons_succ,List.getElem_cons_zero,List.setIfInBounds_toArray,List.set_cons_zero,List.set_cons_succ]
   |refine av.one 2 rfl (by decide +kernel) (by rfl) (fun K hK=>?_)
   |refine av.one 5 rfl (by decide +kernel) (by rfl) (fun K hK=>?_)
   |refine av.one 8 rfl (by decide +kernel) (by rfl) (fun K hK=>?_)
   |refine av.one 10 rfl (by decide +kernel) (by rfl) (fun K hK=>?_)
   |refine av.one 12 rfl (by decide +kernel) (by rfl) (fun K hK=>?_)
   |refine av.one 14 rfl (by decide +kernel) (by rfl) (fun K hK=>?_)
   |refine av.two 5 10 rfl rfl (by decide +kernel) (by rfl) (by rfl) (fun K hK=>?_) (fun K hK=>?_)
   |refine av.two 8 10 rfl rfl (by decide +kernel) (by rfl) (by rfl) (fun K hK=>?_) (fun K hK=>?_)
   |refine av.two 8 12 rfl rfl (by decide +kernel) (by rfl) (by rfl) (fun K hK=>?_) (fun K hK=>?_)
   |have z3:=ah g 3 _ rfl
    have z4:=ah g 4 _ rfl
    have z5:=ah g 5 _ rfl
    have y3:=jT _ _ 3 _ _ g
    have y4:=jT _ _ 4 _ _ g
    have y5:=jT _ _ 5 _ _ g
    go_simp
    first
    |first|go_at_call 79|go_at_call 78
     first
     |(with_reducible refine (HR.out _ (bx.kept hSq) bx.size).mono ?_);rintro e Y1 ⟨r2,n1,rfl,hs,hb⟩;have hs1:=hs.mono (S':=fun g=>w.heap.size+1<g) (fun g9 hg _=>by have h8:=bx.size;have h7:=HZ2.out;omega) (by decide)
     |(with_reducible refine (HV.out _ (bx.kept hSq) bx.size).mono ?_);rintro e Y2 ⟨w2,n2,rfl,hs,hb⟩;have hs2:=hs.mono (S':=fun g=>w.heap.size+1<g) (fun g9 hg _=>by have h8:=bx.size;have h7:=HZ2.out;omega) (by decide);have hs1:=hs1.keep (aA hb)
     |(with_reducible refine (HF.out _ (bx.kept hSq) bx.size).mono ?_);rintro e Y3 ⟨f2,n3,rfl,hs,hb⟩;have hs3:=hs.mono (S':=fun g=>w.heap.size+1<g) (fun g9 hg _=>by have h8:=bx.size;have h7:=HZ2.out;omega) (by decide);have hs1:=hs1.keep (aA hb);have hs2:=hs2.keep (aA hb)
     have g:=(hb.block _ (jS g)).trans g
     have bx:=bx.trans (.of_below hb)
     try go_simp
     refine hK.out _ _ (by first|exact fun h=>absurd h (by decide)|exact fun _=>⟨g,bx⟩) ?_
     clear hK K hs z3 z4 z5 y3 y4 y5
    |refine hK.out _ (World.setCell _ ⟨w.heap.size,3,none⟩ _) (fun h=>absurd h (by decide)) ?_
     have hs1:=hs1.keep (((But.refl (fun g=>g=w.heap.size) _).setCell rfl 3 (.slice r2 R.length n1)).kept hgt)
     try have hs2:=hs2.keep (((But.refl (fun g=>g=w.heap.size) _).setCell rfl 3 (.slice r2 R.length n1)).kept hgt)
     try have hs3:=hs3.keep (((But.refl (fun g=>g=w.heap.size) _).setCell rfl 3 (.slice r2 R.length n1)).kept hgt)
     have g:=aF g (i:=3) (.slice r2 R.length n1)
     have bx:=bx.setCell rfl 3 (.slice r2 R.length n1)
     clear hK K z3 z4 z5 y3 y4 y5
    |refine hK.out _ (World.setCell _ ⟨w.heap.size,4,none⟩ _) (fun h=>absurd h (by decide)) ?_
     have hs1:=hs1.keep (((But.refl (fun g=>g=w.heap.size) _).setCell rfl 4 (.slice w2 V.length n2)).kept hgt)
     try have hs2:=hs2.keep (((But.refl (fun g=>g=w.heap.size) _).setCell rfl 4 (.slice w2 V.length n2)).kept hgt)
     try have hs3:=hs3.keep (((But.refl (fun g=>g=w.heap.size) _).setCell rfl 4 (.slice w2 V.length n2)).kept hgt)
     have g:=aF g (i:=4) (.slice w2 V.length n2)
     have bx:=bx.setCell rfl 4 (.slice w2 V.length n2)
     clear hK K z3 z4 z5 y3 y4 y5
    |refine hK.out _ (World.setCell _ ⟨w.heap.size,5,none⟩ _) (fun h=>absurd h (by decide)) ?_
     have hs1:=hs1.keep (((But.refl (fun g=>g=w.heap.size) _).setCell rfl 5 (.slice f2 F.length n3)).kept hgt)
     try have hs2:=hs2.keep (((But.refl (fun g=>g=w.heap.size) _).setCell rfl 5 (.slice f2 F.length n3)).kept hgt)
     try have hs3:=hs3.keep (((But.refl (fun g=>g=w.heap.size) _).setCell rfl 5 (.slice f2 F.length n3)).kept hgt)
     have g:=aF g (i:=5) (.slice f2 F.length n3)
     have bx:=bx.setCell rfl 5 (.slice f2 F.length n3)
     clear hK K z3 z4 z5 y3 y4 y5
  all_goals
   refine av.done (by decide +kernel) ?_
   go_wp2_with fail
   go_meet
   exact⟨r2,n1,w2,n2,f2,n3,jI g,jI ⟨hs1,hs2,hs3⟩,bx⟩
 case rest=>
 obtain⟨r2,n1,w2,n2,f2,n3,hq,hss,hx9⟩:=hcut
 have hz9:=hx9.size
 have q9:=(hx9.block (w.heap.size+1) (by omega) (by have:=HZ2.out;omega)).trans Q2.out
 have d0:=ah hq.out 0 _ rfl
 have d1:=ah hq.out 1 _ rfl
 have d2:=ah hq.out 2 _ rfl
 have d3:=ah hq.out 3 _ rfl
 have d4:=ah hq.out 4 _ rfl
 have d5:=ah hq.out 5 _ rfl
 obtain⟨p0,p1,p2,p3,p4,p5⟩:=dz q9
 have l0:=jT _ _ 0 _ _ q9
 have l1:=jT _ _ 1 _ _ q9
 have l2:=jT _ _ 2 _ _ q9
 have l3:=jT _ _ 3 _ _ q9
 have l4:=jT _ _ 4 _ _ q9
 have l5:=jT _ _ 5 _ _ q9
 have HQ9:=jI q9
 have HX9:=jI hx9
 clear q9 hx9
 have hb9:Below w.heap.size w wc:={ os:=HX9.out.os.trans HBW.out.os,tape:=HX9.out.tape.trans HBW.out.tape,output:=HX9.out.output.trans HBW.out.output,size:=cK HBW.out.size HX9.out.size,block:=fun g hg=>(HX9.out.block g (by omega) (by have:=HBW.out.size;omega)).trans (HBW.out.block g hg) }
 have HB9:=jI hb9
 clear hb9
 go_wp2
 obtain⟨e1,e2⟩:=set6 HQ9.out (.string nm) (.int .i64 kd) (.int .u16 (mb:Nat)) (.slice r2 R.length n1) (.slice w2 V.length n2) (.slice f2 F.length n3)
 have hk:Kept (fun g=>w.heap.size+1<g) wc _:=(aR e2).mono fun g hg=>by omega
 refine ret_cfg1 rfl rfl rfl e1 rfl ⟨_,rfl,eH.mk ((hss.out.1.keep hk).mono (fun g hg _=>by omega) (by decide)) ((hss.out.2.1.keep hk).mono (fun g hg _=>by omega) (by decide)) ((hss.out.2.2.keep hk).mono (fun g hg _=>by omega) (by decide)),HB9.out.trans (below_grown e2 (by omega) HB9.out.size)⟩
end Go.Proofs.YtmohibkomlhlaaaGreatDoor
