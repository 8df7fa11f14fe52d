/- iX, what a term stands for, and the sets that satisfy it: plain functions. No condition. iX in memory, and the world of a Dw declarations. No condition. The contracts of slices.IndexFunc and slices.ContainsFunc at tests that have captured variables: which element is the first. The contracts of expr.valid and Valid: the error of a node, and of an expression. iX of a size up to a bound. The contract of expr.Valid: the error of an expression. iX of a size up to a bound. The contracts of server, begin, find, set and group: the world of declarations, and what it finds. Declarations of a size up to a bound. -/
import Derived.Test.YtmohibkomlhlaaaGreatDoorPkSvr
import Derived.Test.YtmohibkomlhlaaaGreatDoorPkCl
set_option maxRecDepth 100000
set_option maxHeartbeats 4000000
namespace Go.Proofs.YtmohibkomlhlaaaGreatDoor
section
structure Nd where
 kind:Int
 server:Int
 need:Int
 ws:List Int
 kids:List Int
structure Ex where
 nodes:List Nd
 root:Int
def ex0:Ex:=⟨[],0⟩
def lY(i:Nat):Ex:=⟨[⟨1,i,0,[],[]⟩],0⟩
def fB(f:Nat)(n:Nd):Nd:=⟨n.kind,n.server,n.need,n.ws,n.kids.map (·+(f:Int))⟩
def iV(ks:List Ex):List Nd × List Int:=ks.foldl (fun a k=>(a.1++k.nodes.map (fB a.1.length),a.2++[(a.1.length:Int)+k.root])) ([],[])
theorem xu(ks:List Ex)(k:Ex):iV (ks++[k])=((iV ks).1++k.nodes.map (fB (iV ks).1.length),(iV ks).2++[((iV ks).1.length:Int)+k.root]):=by
 unfold iV
 rw[List.foldl_append,List.foldl_cons,List.foldl_nil]
def lK(need:Int)(ws:List Int)(ks:List Ex):Ex × Nat:=
 if 60<(iV ks).1.length+1 then (ex0,3) else (⟨(iV ks).1++[⟨2,0,need,ws,(iV ks).2⟩],(iV ks).1.length⟩,0)
def wgt(n:Nd)(k:Nat):Int:=if n.ws.length=0 then 1 else n.ws.getD k 0
def ndE(at_:Nat)(n:Nd):Nat:=
 if n.kind=1 then (if n.need≠0∨0<n.ws.length∨0<n.kids.length then 1 else ndE2 at_ n)
 else if n.kind=2 then (if n.server≠0 then 1 else ndE2 at_ n)
 else 1
where ndE2 (at_:Nat) (n:Nd):Nat:=
 if n.server<0∨12≤n.server∨n.need<0∨100000<n.need∨n.ws.any (fun w=>decide (w<1) || decide (1000<w))=true then 7
 else if 0<n.ws.length∧n.ws.length≠n.kids.length then 6
 else if n.kids.any (fun k=>decide (k<0) || decide ((at_:Int)≤k))=true then 4
 else 0
def Ir:Nat→List Nd→Nat
 |_,[]=>0
 |i,n::r=>if ndE i n≠0 then ndE i n else Ir (i+1) r
def exE(x:Ex):Nat:=
 if x.nodes.length=0 then 9 else if 60<x.nodes.length then 3
 else if Ir 0 x.nodes≠0 then Ir 0 x.nodes
 else if x.root<0∨(x.nodes.length:Int)≤x.root then 4 else 0
def G9(n:Nd)(l:List Bool):Int:=((List.range n.kids.length).map fun k=>if l.getD (n.kids.getD k 0).toNat false then wgt n k else 0).sum
def allW(n:Nd):Int:=((List.range n.kids.length).map fun k=>wgt n k).sum
def iT(s:Nat)(l:List Bool)(n:Nd):Bool:=if n.kind=1 then s.testBit n.server.toNat else decide (n.need≤G9 n l)
def holdsGo(s:Nat)(l:List Nd):List Bool:=l.foldl (fun a n=>a++[iT s a n]) []
theorem eD(s:Nat)(l:List Nd)(n:Nd):holdsGo s (l++[n])=holdsGo s l++[iT s (holdsGo s l) n]:=by
 unfold holdsGo
 rw[List.foldl_append,List.foldl_cons,List.foldl_nil]
theorem di(s:Nat)(l:List Nd):(holdsGo s l).length=l.length:=by
 have key:∀(l:List Nd)(a:List Bool),(l.foldl (fun a n=>a++[iT s a n]) a).length=a.length+l.length:=by
  intro l
  induction l with
  |nil=>intro a;simp
  |cons n r ih=>intro a;rw[List.foldl_cons,ih];simp;omega
 rw[holdsGo,key l []];simp
def bW(x:Ex)(s:Nat):Bool:=(holdsGo s (x.nodes.take (x.root.toNat+1))).getD x.root.toNat false
def jP(n:Nd):Nd:=if n.kind=2 then ⟨n.kind,n.server,max 0 (allW n-n.need+1),n.ws,n.kids⟩ else n
def kU(x:Ex):Ex × Nat:=if exE x≠0 then (ex0,exE x) else (⟨x.nodes.map jP,x.root⟩,0)
def iQ(sv:List ByteArray)(x:ByteArray):Option Nat:=sv.zipIdx.foldl (fun a p=>if p.1=x then some p.2 else a) none
theorem oC(sv:List ByteArray)(n x:ByteArray):iQ (sv++[n]) x=if n=x then some sv.length else iQ sv x:=by
 unfold iQ
 rw[List.zipIdx_append,List.foldl_append,List.zipIdx_cons,List.zipIdx_nil,List.foldl_cons,List.foldl_nil,Nat.zero_add]
def iA(sv:List ByteArray)(l:List ByteArray):Nat:=l.foldl (fun a n=>match iQ sv n with|some i=>(a|||2^i)|none=>a) 0
theorem lX(sv l:List ByteArray)(n:ByteArray):iA sv (l++[n])=match iQ sv n with|some i=>iA sv l|||2^i|none=>iA sv l:=by
 unfold iA
 rw[List.foldl_append,List.foldl_cons,List.foldl_nil]
def nY(l:List Dc)(k:Int)(x:ByteArray):Option Dc:=l.find? fun d=>decide (d.kind=k)&&d.name==x
def gH(l:List Dc)(x:ByteArray):Nat:=
 if x=(⟨#[115,101,114,118,101,114,115]⟩:ByteArray) then 2^(ai l).length-1 else match nY l 1 x with|some d=>iA (ai l) d.names|none=>0
def iH(s n:Nat):List Ex:=((List.range n).filter fun i=>s.testBit i).map lY
theorem vH(s n:Nat):iH s (n+1)=iH s n++if s.testBit n then [lY n] else []:=by
 unfold iH
 rw[List.range_succ,List.filter_append,List.map_append]
 by_cases h:s.testBit n=true
 ·simp[h]
 ·simp[h]
def gX(l:List Dc)(env:ByteArray→Ex × Nat)(op:Int)(name:ByteArray)(need:Int)(ws:List Int)(ks:List Ex):Ex × Nat:=
 if op=1 then (match iQ (ai l) name with|some i=>(lY i,0)|none=>env name)
 else if op=5 then kU (ks.headD ex0)
 else if op=2 then lK need ws ks
 else if op=3 then lK ks.length [] ks
 else if op=4 then lK 1 [] ks
 else
  let all:=ks++iH (gH l name) (ai l).length
  lK (if op=6 then ((all.length / 2+1:Nat):Int) else if op=7 then all.length else if op=8 then 1 else 0) [] all
mutual
def fK(l:List Dc)(env:ByteArray→Ex × Nat):Tm→Ex × Nat
 |.mk op name need ws kids=>if (iU l env kids).2≠0 then (ex0,(iU l env kids).2) else gX l env op name need ws (iU l env kids).1
def iU(l:List Dc)(env:ByteArray→Ex × Nat):List Tm→List Ex × Nat
 |[]=>([],0)
 |t::r=>if (fK l env t).2≠0 then ([],(fK l env t).2) else ((fK l env t).1::(iU l env r).1,(iU l env r).2)
end
def jg:List (ByteArray × (Ex × Nat))→ByteArray→Ex × Nat
 |[],_=>(ex0,0)
 |p::r,x=>if p.1==x then p.2 else jg r x
def qGo(all:List Dc)(l:List Dc):List (ByteArray × (Ex × Nat)):=l.foldl (fun a d=>if d.kind=3 then a++[(d.name,fK all (jg a) d.term)] else a) []
theorem Gn(all l:List Dc)(d:Dc):qGo all (l++[d])=if d.kind=3 then qGo all l++[(d.name,fK all (jg (qGo all l)) d.term)] else qGo all l:=by
 unfold qGo
 rw[List.foldl_append,List.foldl_cons,List.foldl_nil]
def bS(l:List Dc)(t:Tm):Ex × Nat:=fK l (jg (qGo l l)) t
def dY(l:List Nat):Nat:=l.foldl (·|||·) 0
def accepts(f:List Nat)(s:Nat):Bool:=f.any fun x=>decide (x&&&s=x)
end
section
open Go.RowKit
open _root_.Go.Proofs.Tryz
def qB(w:World)(S:Nat→Prop)(n:Nd)(v:Value):Prop:=
 ∃wA wc kA kc,v=.agg #[.int .i64 n.kind,.int .i64 n.server,.int .i64 n.need,.slice wA n.ws.length wc,.slice kA n.kids.length kc]∧
  ak w S 1 wA n.ws.length (bY n.ws)∧n.ws.length≤wc∧ak w S 1 kA n.kids.length (bY n.kids)∧n.kids.length≤kc
theorem qB.keep{w w':World}{S:Nat→Prop}{n:Nd}{v:Value}(h:qB w S n v)(hk:Kept S w w'):qB w' S n v:=by
 obtain⟨wA,wc,kA,kc,e,h1,h2,h3,h4⟩:=h
 exact⟨wA,wc,kA,kc,e,h1.keep hk,h2,h3.keep hk,h4⟩
theorem qB.mono{w:World}{S S':Nat→Prop}{n:Nd}{v:Value}(h:qB w S n v)(hS:∀g,S g→g<w.heap.size→S' g):qB w S' n v:=by
 obtain⟨wA,wc,kA,kc,e,h1,h2,h3,h4⟩:=h
 exact⟨wA,wc,kA,kc,e,h1.mono hS (by decide),h2,h3.mono hS (by decide),h4⟩
theorem iM:qp qB:=⟨fun h k=>h.keep k,fun h k=>h.mono k⟩
theorem nd_len{w:World}{S:Nat→Prop}{n:Nd}{v:Value}(h:qB w S n v):(cellsOf v).length=5:=by
 obtain⟨wA,wc,kA,kc,rfl,-⟩:=h
 rfl
def nu(w:World)(S:Nat→Prop)(x:Ex)(v:Value):Prop:=
 ∃A c,v=.agg #[.slice A x.nodes.length c,.int .i64 x.root]∧aO (qB w S) w S 5 A x.nodes∧x.nodes.length≤c
theorem nu.keep{w w':World}{S:Nat→Prop}{x:Ex}{v:Value}(h:nu w S x v)(hk:Kept S w w'):nu w' S x v:=by
 obtain⟨A,c,e,h1,h2⟩:=h
 exact⟨A,c,e,h1.keep hk (fun _ _ h=>h.keep hk),h2⟩
theorem nu.mono{w:World}{S S':Nat→Prop}{x:Ex}{v:Value}(h:nu w S x v)(hS:∀g,S g→g<w.heap.size→S' g):nu w S' x v:=by
 obtain⟨A,c,e,h1,h2⟩:=h
 exact⟨A,c,e,h1.mono hS (by decide) (fun _ _ h=>h.mono hS),h2⟩
theorem uI:qp nu:=⟨fun h k=>h.keep k,fun h k=>h.mono k⟩
theorem ex_len{w:World}{S:Nat→Prop}{x:Ex}{v:Value}(h:nu w S x v):(cellsOf v).length=2:=by
 obtain⟨A,c,rfl,-⟩:=h
 rfl
theorem nu.zero(w:World)(S:Nat→Prop):nu w S ex0 (.agg #[.slice none 0 0,.int .i64 0]):=⟨none,0,rfl,.empty _ _ _ _ _,aP _⟩
theorem ru{w:World}{S:Nat→Prop}{A:Option Addr}{l:List Nd}(h:aO (qB w S) w S 5 A l){i:Nat}(hi:i<l.length):
  ∃g o wA wc kA kc,A=some ⟨g,o,none⟩∧S g∧w.cell? ⟨g,o+i * 5,none⟩=some (.int .i64 l[i].kind)∧w.cell? ⟨g,o+i * 5+1,none⟩=some (.int .i64 l[i].server)∧w.cell? ⟨g,o+i * 5+2,none⟩=some (.int .i64 l[i].need)∧
   w.cell? ⟨g,o+i * 5+3,none⟩=some (.slice wA l[i].ws.length wc)∧w.cell? ⟨g,o+i * 5+4,none⟩=some (.slice kA l[i].kids.length kc)∧
   ak w S 1 wA l[i].ws.length (bY l[i].ws)∧l[i].ws.length≤wc∧ak w S 1 kA l[i].kids.length (bY l[i].kids)∧l[i].kids.length≤kc:=by
 obtain⟨g,o,v,hA,hS,hp,hc⟩:=dB (fun x v h=>nd_len h) h hi
 obtain⟨wA,wc,kA,kc,rfl,h1,h2,h3,h4⟩:=hp
 exact⟨g,o,wA,wc,kA,kc,hA,hS,hc 0 _ rfl,hc 1 _ rfl,hc 2 _ rfl,hc 3 _ rfl,hc 4 _ rfl,h1,h2,h3,h4⟩
theorem GD{w:World}{S:Nat→Prop}{A:Option Addr}{l:List Ex}(h:aO (nu w S) w S 2 A l){i:Nat}(hi:i<l.length):
  ∃g o B c,A=some ⟨g,o,none⟩∧S g∧w.cell? ⟨g,o+i * 2,none⟩=some (.slice B l[i].nodes.length c)∧w.cell? ⟨g,o+i * 2+1,none⟩=some (.int .i64 l[i].root)∧aO (qB w S) w S 5 B l[i].nodes∧l[i].nodes.length≤c:=by
 obtain⟨g,o,v,hA,hS,hp,hc⟩:=dB (fun x v h=>ex_len h) h hi
 obtain⟨B,c,rfl,h1,h2⟩:=hp
 exact⟨g,o,B,c,hA,hS,hc 0 _ rfl,hc 1 _ rfl,h1,h2⟩
theorem info_node:(prog.info? 79).map (fun i=>(i.zero,i.size,i.bytes))=some (some (.agg #[.int .i64 0,.int .i64 0,.int .i64 0,.slice none 0 0,.slice none 0 0]),5,72):=by kernel_rfl
theorem info_expr:(prog.info? 38).map (fun i=>(i.zero,i.size,i.bytes))=some (some (.agg #[.slice none 0 0,.int .i64 0]),2,32):=by kernel_rfl
theorem vT(w:World){ops:Array Oper}{rest:List Oper}{o:Oper}{a:Act}{Q:Exit→Act→World→Prop}(hgd:o.guard=none)(s x:Operand)
  (ho:o.op=.call { callee:=.builtin .append,args:=#[s,x],argTypes:=#[36,36] })
  (base:Nat) (v:Value) (n:Nat) (xs:List Value) (hown:w.ownsRow base 79 5 v n xs) (hs:a.eval s=v)
  (kd sv nd:Int) (wA:Option Addr) (wn wc:Nat) (kA:Option Addr) (kn kc:Nat) (hx:a.eval x=.slice (some ⟨w.heap.size,0,none⟩) 1 1)
  (hlim:n≤100000000000) (hbase:base≤w.heap.size)
  (h:∀v' w',w'.ownsRow base 79 5 v' (n+1) (xs++[.int .i64 kd,.int .i64 sv,.int .i64 nd,.slice wA wn wc,.slice kA kn kc])→w.grownBy w' v.ownBlock→(v'.ownBlock=v.ownBlock∨v'.ownBlock=some (w.heap.size+1))→wpList prog ops Q rest (a.put o.dst v') w'):
  wpList prog ops Q (o::rest) a (w.alloc (.cells #[.int .i64 kd,.int .i64 sv,.int .i64 nd,.slice wA wn wc,.slice kA kn kc] 79)):=by
 obtain⟨i0,hi,hz0,hz1,hz2⟩:=info_parts info_node
 exact eB w hgd s x _ ho base 79 i0 _ 5 72 underlying36 hi hz0 hz1 hz2 rfl (by decide) v n xs hown hs [.int .i64 kd,.int .i64 sv,.int .i64 nd,.slice wA wn wc,.slice kA kn kc] hx rfl (by simp[Value.oneCell']) (by omega) (by omega) hbase h
theorem Cj(w:World){ops:Array Oper}{rest:List Oper}{o:Oper}{a:Act}{Q:Exit→Act→World→Prop}(hgd:o.guard=none)(s x:Operand)
  (ho:o.op=.call { callee:=.builtin .append,args:=#[s,x],argTypes:=#[129,129] })
  (base:Nat) (v:Value) (n:Nat) (xs:List Value) (hown:w.ownsRow base 38 2 v n xs) (hs:a.eval s=v)
  (A:Option Addr) (m c:Nat) (rt:Int) (hx:a.eval x=.slice (some ⟨w.heap.size,0,none⟩) 1 1)
  (hlim:n≤100000000000) (hbase:base≤w.heap.size)
  (h:∀v' w',w'.ownsRow base 38 2 v' (n+1) (xs++[.slice A m c,.int .i64 rt])→w.grownBy w' v.ownBlock→(v'.ownBlock=v.ownBlock∨v'.ownBlock=some (w.heap.size+1))→wpList prog ops Q rest (a.put o.dst v') w'):
  wpList prog ops Q (o::rest) a (w.alloc (.cells #[.slice A m c,.int .i64 rt] 38)):=by
 obtain⟨i0,hi,hz0,hz1,hz2⟩:=info_parts info_expr
 exact eB w hgd s x _ ho base 38 i0 _ 2 32 underlying129 hi hz0 hz1 hz2 rfl (by decide) v n xs hown hs [.slice A m c,.int .i64 rt] hx rfl (by simp[Value.oneCell']) (by omega) (by omega) hbase h
def svF(sv:List ByteArray)(x:ByteArray):Option Value:=(iQ sv x).map fun i=>.int .i64 (i:Nat)
theorem svF_snoc(sv:List ByteArray)(s:ByteArray):(fun y=>if y=s then some (Value.int .i64 (sv.length:Nat)) else svF sv y)=svF (sv++[s]):=by
 funext y
 unfold svF
 rw[oC]
 by_cases h:y=s
 ·rw[if_pos h,if_pos h.symm];rfl
 ·rw[if_neg h,if_neg (fun e=>h e.symm)]
def jq(P:Program)(w:World)(k:TypeId)(b n:Nat)(f:ByteArray→Option Value):Prop:=
 ∃D:DataW Value,w.ownsMap P k I5 b n D∧Maps.size D=n∧∀x:ByteArray,x.size≤maxLen→(∀z,D.atKey (.string x.data.toList) (.held z)=.held ((f x).getD z))∧Maps.has D (.string x.data.toList)=(f x).isSome
section
variable {P:Program} {w w':World} {k t e:TypeId} {b n:Nat} {f:ByteArray→Option Value}
theorem jq.is(h:jq P w k b n f):bH P w k b n f:=by obtain⟨D,h1,-,h2⟩:=h;exact⟨D,h1,h2⟩
theorem jq.lt(h:jq P w k b n f):b<w.heap.size:=h.is.lt
theorem jq.made(P:Program)(w:World)(k:TypeId):jq P (w.alloc (.map #[] 0)) k w.heap.size 0 (fun _=>none):=
 ⟨.map [],World.ownsMap_made _ _ _ _,rfl,fun _ _=>⟨fun _=>rfl,rfl⟩⟩
theorem jq.below{B:Nat}(h:jq P w k b n f)(hb:Below B w w')(hB:b<B):jq P w' k b n f:=by
 obtain⟨D,⟨es,c,h1,h2⟩,r⟩:=h
 exact⟨D,⟨es,c,(hb.block b hB).trans h1,h2⟩,r⟩
theorem jq.kept{row:Option Nat}(h:jq P w k b n f)(hg:w.grownBy w' row)(hne:some b≠row):jq P w' k b n f:=by
 obtain⟨D,h,r⟩:=h;exact⟨D,h.kept hg hne,r⟩
theorem jq.at(h:jq P w k b n f)(he:w'.heap[b]?=w.heap[b]?):jq P w' k b n f:=by
 obtain⟨D,⟨es,c,h1,h2⟩,r⟩:=h
 exact⟨D,⟨es,c,he.trans h1,h2⟩,r⟩
theorem jq.len(h:jq P w k b n f)(ht:P.underlying t=some (.map k e))(ty:TypeId):(Builtin.len_ #[t] ty #[.map (some b)]).run P w=.ok (.int .i64 (n:Nat)) w:=by
 obtain⟨D,h1,h2,-⟩:=h
 have:=h1.len ht ty
 rw[h2] at this
 exact this
theorem jq.store(h:jq P w k b n f)(hk:P.underlying k=some .string)(ht:P.underlying t=some (.map k e))(hn:n<maxLen){x:ByteArray}(hx:x.size≤maxLen)(hno:f x=none)(v:Value):
  ∃w',(Instr.mapUpdate t (.map (some b)) (.string x) v).run P w=.ok () w'∧jq P w' k b (n+1) (fun y=>if y=x then some v else f y)∧w.grownBy w' (some b)∧w'.heap.size=w.heap.size:=by
 obtain⟨D,h,hs,r⟩:=h
 obtain⟨w',hrun,hown,hturn⟩:=h.store (Maps.string_keyed hk) ht hn (WideMaps.keyOf_string_mk hk hx) (show I5 v=some (.held v,[]) from rfl)
 refine⟨w',hrun,⟨_,hown,?_,fun y hy=>?_⟩,hturn.grown,?_⟩
 ·rw[Maps.size_put (h.tidy (Maps.string_keyed hk)),(r x hx).2,hno,hs];rfl
 ·by_cases e:y=x
  ·subst e
   have e1:(fun y'=>if y'=y then some v else f y') y=some v:=if_pos rfl
   rw[e1]
   exact⟨fun z=>Maps.atKey_put_same h.isMap (show WideAt.IsKeyLit (.string y.data.toList) by simp[WideAt.IsKeyLit]) _ _,by rw[Maps.has_put_same h.isMap (show WideAt.IsKeyLit (.string y.data.toList) by simp[WideAt.IsKeyLit])];rfl⟩
  ·have hne:(Lit.string y.data.toList)≠.string x.data.toList:=fun h2=>e (by injection h2 with h3;rw[←gN y,h3,gN])
   have e1:(fun y'=>if y'=x then some v else f y') y=f y:=if_neg e
   rw[e1]
   exact⟨fun z=>by rw[Maps.atKey_put_other hne];exact (r y hy).1 z,by rw[Maps.has_put_other hne];exact (r y hy).2⟩
 ·obtain⟨es,c,es',c',-,rfl⟩:=hturn
  simp[ChangeMaps.setBlock]
theorem jq.cong(h:jq P w k b n f){g:ByteArray→Option Value}(hg:f=g):jq P w k b n g:=by subst hg;exact h
theorem wp_storeZ(w:World){ops:Array Oper}{rest:List Oper}{o:Oper}{a:Act}{Q:Exit→Act→World→Prop}(hg:o.guard=none)(m x v:Operand)(t:TypeId)(hop:o.op=Op.mapUpdate t m x v)(k e:TypeId)(hk:P.underlying k=some .string)(ht:P.underlying t=some (.map k e))
  (b n:Nat) (f:ByteArray→Option Value) (hm:a.eval m=.map (some b)) (hM:jq P w k b n f) (hn:n<maxLen) (s:ByteArray) (hs:s.size≤maxLen) (hno:f s=none) (hx:a.eval x=.string s) (u:Value) (hv:a.eval v=u)
  (h:∀w',jq P w' k b (n+1) (fun y=>if y=s then some u else f y)→w.grownBy w' (some b)→w'.heap.size=w.heap.size→wpList P ops Q rest (a.put o.dst undef) w'):wpList P ops Q (o::rest) a w:=by
 refine wpList_plain hg fun K' hK'=>?_
 obtain⟨w',hrun,r1,r2,r3⟩:=hM.store hk ht hn hs hno u
 unfold Oper.wp
 simp[execOp,hop,hm,hx,hv,hrun,Result.andThen]
 exact hK' _ _ (h w' r1 r2 r3)
end
structure Wd(w:World)(b sb mb:Nat)(A:Option Addr)(c:Nat)(l:List Dc):Prop where
 row:w.heap[b]?=some (.cells #[.slice A l.length c,.map (some sb),.map (some mb)] 128 (0,0))
 map:jq prog w 9 sb (ai l).length (svF (ai l))
theorem row3{w:World}{b:Nat}{v0 v1 v2:Value}{t:TypeId}(h:w.heap[b]?=some (.cells #[v0,v1,v2] t (0,0))):w.cell? ⟨b,0,none⟩=some v0∧w.cell? ⟨b,1,none⟩=some v1∧w.cell? ⟨b,2,none⟩=some v2:=by
 refine⟨?_,?_,?_⟩<;>rw[j5 w _ _ _ _ _ h]<;>rfl
section
variable {w w':World} {b sb mb c:Nat} {A:Option Addr} {l:List Dc}
theorem Wd.lt(h:Wd w b sb mb A c l):b<w.heap.size∧sb<w.heap.size:=⟨jS h.row,h.map.lt⟩
theorem Wd.below(h:Wd w b sb mb A c l)(hb:Below w.heap.size w w'):Wd w' b sb mb A c l:=⟨(hb.block _ h.lt.1).trans h.row,h.map.below hb h.map.lt⟩
theorem Wd.later{B:Nat}(h:Wd w b sb mb A c l)(hb:Below B w w')(hB:b<B∧sb<B):Wd w' b sb mb A c l:=⟨(hb.block _ hB.1).trans h.row,h.map.below hb hB.2⟩
theorem Wd.cells(h:Wd w b sb mb A c l):w.cell? ⟨b,0,none⟩=some (.slice A l.length c)∧w.cell? ⟨b,1,none⟩=some (.map (some sb))∧w.cell? ⟨b,2,none⟩=some (.map (some mb)):=row3 h.row
end
end
section
open Go.RowKit
open _root_.Go.Proofs.Tryz
def rY{α:Type}(P:World→α→Value→Prop)(w:World)(fid:Nat)(lb:List Value)(l:List α)(q:α→Bool):Prop:=
 ∀x∈l,∀(v:Value)(W:World),P W x v→Below w.heap.size w W→Calls prog fid (v::lb).toArray W fun e W'=>e=.returned (.bool (q x))∧Below W.heap.size W W'
def D8{α:Type}(l:List α)(q:α→Bool)(w:World)(e:Ending)(w':World):Prop:=
 ((e=.returned (.int .i64 (-1))∧l.find? q=none)∨∃(k:Nat)(x:α),e=.returned (.int .i64 k)∧l[k]?=some x∧q x=true∧l.find? q=some x)∧Below w.heap.size w w'
theorem nW{α:Type}{l:List α}{q:α→Bool}(h:∀j (hj:j<l.length),q l[j]=false):l.find? q=none:=by
 rw[List.find?_eq_none]
 intro x hx
 obtain⟨j,hj,rfl⟩:=List.getElem_of_mem hx
 rw[h j hj];simp
theorem xh{α:Type}{l:List α}{q:α→Bool}{k:Nat}(hk:k<l.length)(h:∀j (hj:j<l.length),j<k→q l[j]=false)(hq:q l[k]=true):l.find? q=some l[k]:=by
 induction l generalizing k with
 |nil=>simp at hk
 |cons x r ih=>
  cases k with
  |zero=>rw[List.find?_cons,show q x=true from hq];rfl
  |succ k=>
   have h0:=h 0 (by simp) (by omega)
   simp only[List.getElem_cons_zero] at h0
   rw[List.find?_cons,h0]
   simp only[List.getElem_cons_succ] at hq ⊢
   exact ih (by simpa using hk) (fun j hj hjk=>by have:=h (j+1) (by simpa using hj) (by omega);simpa using this) hq
theorem Be{α:Type}(l:List α)(q:α→Bool):(l.find? q).isSome=l.any q:=by
 induction l with
 |nil=>rfl
 |cons x r ih=>rw[List.find?_cons,List.any_cons];cases q x<;>simp[ih]
def dH(l:List Nat):List Value:=l.map fun s=>Value.int .u16 (s:Nat)
def aL(l:List (Nat × Nat)):List Value:=l.flatMap fun p=>[Value.int .u16 (p.1:Nat),Value.int .u16 (p.2:Nat)]
theorem nU{w:World}{S:Nat→Prop}{A:Option Addr}{l:List (Nat × Nat)}(h:ak w S 2 A l.length (aL l)){k:Nat}(hk:k<l.length):
  ∃g o,A=some ⟨g,o,none⟩∧S g∧w.cell? ⟨g,o+k * 2,none⟩=some (.int .u16 (l[k].1:Nat))∧w.cell? ⟨g,o+k * 2+1,none⟩=some (.int .u16 (l[k].2:Nat)):=by
 obtain⟨g,o,e,hS,hc⟩:=h.cells (by omega)
 have key:∀(l:List (Nat × Nat))(k:Nat)(hk:k<l.length),(aL l)[k * 2]?=some (.int .u16 (l[k].1:Nat))∧(aL l)[k * 2+1]?=some (.int .u16 (l[k].2:Nat)):=by
  intro l
  induction l with
  |nil=>intro k hk;simp at hk
  |cons p r ih=>
   intro k hk
   cases k with
   |zero=>exact⟨rfl,rfl⟩
   |succ k=>
    obtain⟨h1,h2⟩:=ih k (by simpa using hk)
    exact⟨by rw[Nat.succ_mul];exact h1,by rw[Nat.succ_mul];exact h2⟩
 obtain⟨k0,k1⟩:=key l k hk
 exact⟨g,o,e,hS,hc _ _ k0,by rw[Nat.add_assoc];exact hc _ _ k1⟩
theorem fx_int(l:List Int)(S:Nat→Prop)(A:Option Addr)(c:Nat)(w:World)(hl:ak w S 1 A l.length (l.map (Value.int .i64)))(hS:∀g,S g→g<w.heap.size)(hlim:l.length≤1000000000000)
  (fid:Nat) (he:∀(args:Array Value)(w:World),(callFunc fid args).run prog w=.ok (.enter fid args) w) (p:Value) (q:Int→Bool) (hf:rY (fun _ x v=>v=.int .i64 x) w fid [p] l q):
  Calls prog 166 #[.slice A l.length c,.func (.func fid) #[] #[p]] w (D8 l q w):=by
 have HF:=jI hf
 have HLS:=jI hl
 clear hf hl
 go_enter func166,ntmps166
 go_wp2
 go_loopw [8] (fun x wr=>∃k:Nat,k≤l.length∧x=.int .i64 k∧Hid (∀j (hj:j<l.length),j<k→q l[j]=false)∧Below w.heap.size w wr) (fun x _=>l.length-(intOf x).toNat)
 case atStart=>exact⟨0,cu _,rfl,(fun j _ h=>absurd h (by omega)),jQ _ _⟩
 case round=>
  obtain⟨k,hk,rfl,hno,hb⟩:=hrel
  have hsz:=hb.size
  by_cases hlt:k<l.length
  ·have hlr:=HLS.out.keep (aj hb hS)
   obtain⟨g,o,rfl,hSg,k0⟩:=one_cell hlr hlt
   have hgs:g<wr.heap.size:=by have:=hS g hSg;omega
   have hc:=HF.out l[k] (bQ hlt) _ wr rfl hb
   have hkI:(k:Int)<(l.length:Int):=by omega
   have hk0:(0:Int)≤(k:Int):=by omega
   cases hq:q l[k]
   ·rw[hq] at hc
    have HC:=jI hc
    have HQ:=jI hq
    clear hc hq hlr
    go_wp2_with fail
    refine HC.out.mono ?_
    rintro e W2 ⟨rfl,hb2⟩
    go_wp2
    go_roundw
    case rel=>
     refine⟨k+1,by omega,by go_num,?_,hb.trans (hb2.mono hsz)⟩
     intro j hj hjk
     by_cases h9:j<k
     ·exact hno.out j hj h9
     ·obtain rfl:j=k:=by omega
      exact HQ.out
    case measure=>simp[intOf];omega
   ·rw[hq] at hc
    have HC:=jI hc
    have HQ:=jI hq
    clear hc hq hlr
    go_wp2_with fail
    refine HC.out.mono ?_
    rintro e W2 ⟨rfl,hb2⟩
    go_wp2
    go_ret
    exact⟨Or.inr ⟨k,l[k],rfl,dD hlt,HQ.out,xh hlt hno.out HQ.out⟩,hb.trans (hb2.mono hsz)⟩
  ·have HQ:=jI (nW (fun j hj=>hno.out j hj (by omega)))
   have hkI:¬(k:Int)<(l.length:Int):=by omega
   go_wp2
   go_ret
   exact⟨Or.inl ⟨rfl,HQ.out⟩,hb⟩
theorem cx_int(l:List Int)(S:Nat→Prop)(A:Option Addr)(c:Nat)(w:World)(hl:ak w S 1 A l.length (l.map (Value.int .i64)))(hS:∀g,S g→g<w.heap.size)(hlim:l.length≤1000000000000)
  (fid:Nat) (he:∀(args:Array Value)(w:World),(callFunc fid args).run prog w=.ok (.enter fid args) w) (p:Value) (q:Int→Bool) (hf:rY (fun _ x v=>v=.int .i64 x) w fid [p] l q):
  Calls prog 128 #[.slice A l.length c,.func (.func fid) #[] #[p]] w fun e w'=>e=.returned (.bool (l.any q))∧Below w.heap.size w w':=by
 have HC:=jI (fx_int l S A c w hl hS hlim fid he p q hf)
 have HA:=jI (Be l q)
 clear hl hf
 go_enter func128,ntmps128
 go_wp2_with fail
 refine HC.out.mono ?_
 rintro e w' ⟨(⟨rfl,hn⟩|⟨k,x,rfl,-,-,hn⟩),hb⟩
 ·have HN:=jI hn
  clear hn
  go_wp2
  go_ret
  exact⟨by rw[←HA.out,HN.out];rfl,hb⟩
 ·have HN:=jI hn
  have hk0:(0:Int)≤(k:Int):=by omega
  clear hn
  go_wp2
  go_ret
  exact⟨by rw[←HA.out,HN.out];rfl,hb⟩
theorem fx_set(l:List Nat)(S:Nat→Prop)(A:Option Addr)(c:Nat)(w:World)(hl:ak w S 1 A l.length (l.map fun s=>Value.int .u16 (s:Nat)))(hS:∀g,S g→g<w.heap.size)(hlim:l.length≤1000000000000)
  (fid:Nat) (he:∀(args:Array Value)(w:World),(callFunc fid args).run prog w=.ok (.enter fid args) w) (p:Value) (q:Nat→Bool) (hf:rY (fun _ x v=>v=.int .u16 (x:Nat)) w fid [p] l q):
  Calls prog 204 #[.slice A l.length c,.func (.func fid) #[] #[p]] w (D8 l q w):=by
 have HF:=jI hf
 have HLS:=jI hl
 clear hf hl
 go_enter func204,ntmps204
 go_wp2
 go_loopw [8] (fun x wr=>∃k:Nat,k≤l.length∧x=.int .i64 k∧Hid (∀j (hj:j<l.length),j<k→q l[j]=false)∧Below w.heap.size w wr) (fun x _=>l.length-(intOf x).toNat)
 case atStart=>exact⟨0,cu _,rfl,(fun j _ h=>absurd h (by omega)),jQ _ _⟩
 case round=>
  obtain⟨k,hk,rfl,hno,hb⟩:=hrel
  have hsz:=hb.size
  by_cases hlt:k<l.length
  ·have hlr:=HLS.out.keep (aj hb hS)
   obtain⟨g,o,rfl,hSg,k0⟩:=one_cell hlr hlt
   have hgs:g<wr.heap.size:=by have:=hS g hSg;omega
   have hc:=HF.out l[k] (bQ hlt) _ wr rfl hb
   have hkI:(k:Int)<(l.length:Int):=by omega
   have hk0:(0:Int)≤(k:Int):=by omega
   cases hq:q l[k]
   ·rw[hq] at hc
    have HC:=jI hc
    have HQ:=jI hq
    clear hc hq hlr
    go_wp2_with fail
    refine HC.out.mono ?_
    rintro e W2 ⟨rfl,hb2⟩
    go_wp2
    go_roundw
    case rel=>
     refine⟨k+1,by omega,by go_num,?_,hb.trans (hb2.mono hsz)⟩
     intro j hj hjk
     by_cases h9:j<k
     ·exact hno.out j hj h9
     ·obtain rfl:j=k:=by omega
      exact HQ.out
    case measure=>simp[intOf];omega
   ·rw[hq] at hc
    have HC:=jI hc
    have HQ:=jI hq
    clear hc hq hlr
    go_wp2_with fail
    refine HC.out.mono ?_
    rintro e W2 ⟨rfl,hb2⟩
    go_wp2
    go_ret
    exact⟨Or.inr ⟨k,l[k],rfl,dD hlt,HQ.out,xh hlt hno.out HQ.out⟩,hb.trans (hb2.mono hsz)⟩
  ·have HQ:=jI (nW (fun j hj=>hno.out j hj (by omega)))
   have hkI:¬(k:Int)<(l.length:Int):=by omega
   go_wp2
   go_ret
   exact⟨Or.inl ⟨rfl,HQ.out⟩,hb⟩
theorem cx_set(l:List Nat)(S:Nat→Prop)(A:Option Addr)(c:Nat)(w:World)(hl:ak w S 1 A l.length (l.map fun s=>Value.int .u16 (s:Nat)))(hS:∀g,S g→g<w.heap.size)(hlim:l.length≤1000000000000)
  (fid:Nat) (he:∀(args:Array Value)(w:World),(callFunc fid args).run prog w=.ok (.enter fid args) w) (p:Value) (q:Nat→Bool) (hf:rY (fun _ x v=>v=.int .u16 (x:Nat)) w fid [p] l q):
  Calls prog 174 #[.slice A l.length c,.func (.func fid) #[] #[p]] w fun e w'=>e=.returned (.bool (l.any q))∧Below w.heap.size w w':=by
 have HC:=jI (fx_set l S A c w hl hS hlim fid he p q hf)
 have HA:=jI (Be l q)
 clear hl hf
 go_enter func174,ntmps174
 go_wp2_with fail
 refine HC.out.mono ?_
 rintro e w' ⟨(⟨rfl,hn⟩|⟨k,x,rfl,-,-,hn⟩),hb⟩
 ·have HN:=jI hn
  clear hn
  go_wp2
  go_ret
  exact⟨by rw[←HA.out,HN.out];rfl,hb⟩
 ·have HN:=jI hn
  have hk0:(0:Int)≤(k:Int):=by omega
  clear hn
  go_wp2
  go_ret
  exact⟨by rw[←HA.out,HN.out];rfl,hb⟩
theorem fx_flt(l:List (Nat × Nat))(S:Nat→Prop)(A:Option Addr)(c:Nat)(w:World)(hl:ak w S 2 A l.length (aL l))(hS:∀g,S g→g<w.heap.size)(hlim:l.length≤1000000000000)
  (fid:Nat) (he:∀(args:Array Value)(w:World),(callFunc fid args).run prog w=.ok (.enter fid args) w) (p:Value) (q:(Nat × Nat)→Bool) (hf:rY (fun _ x v=>v=.agg #[.int .u16 (x.1:Nat),.int .u16 (x.2:Nat)]) w fid [p] l q):
  Calls prog 209 #[.slice A l.length c,.func (.func fid) #[] #[p]] w (D8 l q w):=by
 have HF:=jI hf
 have HLS:=jI hl
 clear hf hl
 go_enter func209,ntmps209
 go_wp2
 go_loopw [8] (fun x wr=>∃k:Nat,k≤l.length∧x=.int .i64 k∧Hid (∀j (hj:j<l.length),j<k→q l[j]=false)∧Below w.heap.size w wr) (fun x _=>l.length-(intOf x).toNat)
 case atStart=>exact⟨0,cu _,rfl,(fun j _ h=>absurd h (by omega)),jQ _ _⟩
 case round=>
  obtain⟨k,hk,rfl,hno,hb⟩:=hrel
  have hsz:=hb.size
  by_cases hlt:k<l.length
  ·have hlr:=HLS.out.keep (aj hb hS)
   obtain⟨g,o,rfl,hSg,k0,k1⟩:=nU hlr hlt
   have hgs:g<wr.heap.size:=by have:=hS g hSg;omega
   have hc:=HF.out l[k] (bQ hlt) _ wr rfl hb
   have hkI:(k:Int)<(l.length:Int):=by omega
   have hk0:(0:Int)≤(k:Int):=by omega
   cases hq:q l[k]
   ·rw[hq] at hc
    have HC:=jI hc
    have HQ:=jI hq
    clear hc hq hlr
    go_wp2_with fail
    refine HC.out.mono ?_
    rintro e W2 ⟨rfl,hb2⟩
    go_wp2
    go_roundw
    case rel=>
     refine⟨k+1,by omega,by go_num,?_,hb.trans (hb2.mono hsz)⟩
     intro j hj hjk
     by_cases h9:j<k
     ·exact hno.out j hj h9
     ·obtain rfl:j=k:=by omega
      exact HQ.out
    case measure=>simp[intOf];omega
   ·rw[hq] at hc
    have HC:=jI hc
    have HQ:=jI hq
    clear hc hq hlr
    go_wp2_with fail
    refine HC.out.mono ?_
    rintro e W2 ⟨rfl,hb2⟩
    go_wp2
    go_ret
    exact⟨Or.inr ⟨k,l[k],rfl,dD hlt,HQ.out,xh hlt hno.out HQ.out⟩,hb.trans (hb2.mono hsz)⟩
  ·have HQ:=jI (nW (fun j hj=>hno.out j hj (by omega)))
   have hkI:¬(k:Int)<(l.length:Int):=by omega
   go_wp2
   go_ret
   exact⟨Or.inl ⟨rfl,HQ.out⟩,hb⟩
theorem cx_flt(l:List (Nat × Nat))(S:Nat→Prop)(A:Option Addr)(c:Nat)(w:World)(hl:ak w S 2 A l.length (aL l))(hS:∀g,S g→g<w.heap.size)(hlim:l.length≤1000000000000)
  (fid:Nat) (he:∀(args:Array Value)(w:World),(callFunc fid args).run prog w=.ok (.enter fid args) w) (p:Value) (q:(Nat × Nat)→Bool) (hf:rY (fun _ x v=>v=.agg #[.int .u16 (x.1:Nat),.int .u16 (x.2:Nat)]) w fid [p] l q):
  Calls prog 182 #[.slice A l.length c,.func (.func fid) #[] #[p]] w fun e w'=>e=.returned (.bool (l.any q))∧Below w.heap.size w w':=by
 have HC:=jI (fx_flt l S A c w hl hS hlim fid he p q hf)
 have HA:=jI (Be l q)
 clear hl hf
 go_enter func182,ntmps182
 go_wp2_with fail
 refine HC.out.mono ?_
 rintro e w' ⟨(⟨rfl,hn⟩|⟨k,x,rfl,-,-,hn⟩),hb⟩
 ·have HN:=jI hn
  clear hn
  go_wp2
  go_ret
  exact⟨by rw[←HA.out,HN.out];rfl,hb⟩
 ·have HN:=jI hn
  have hk0:(0:Int)≤(k:Int):=by omega
  clear hn
  go_wp2
  go_ret
  exact⟨by rw[←HA.out,HN.out];rfl,hb⟩
theorem fx_dec(l:List Dc)(S:Nat→Prop)(A:Option Addr)(c:Nat)(w:World)(hl:aO (dS w S) w S 22 A l)(hS:∀g,S g→g<w.heap.size)(hlim:l.length≤1000000000000)
  (fid:Nat) (he:∀(args:Array Value)(w:World),(callFunc fid args).run prog w=.ok (.enter fid args) w) (p1 p2:Value) (q:Dc→Bool) (hf:rY (fun W x v=>dS W S x v) w fid [p1,p2] l q):
  Calls prog 96 #[.slice A l.length c,.func (.func fid) #[] #[p1,p2]] w (D8 l q w):=by
 have HF:=jI hf
 have HLS:=jI hl
 clear hf hl
 go_enter func96,ntmps96
 go_wp2
 go_loopw [8] (fun x wr=>∃k:Nat,k≤l.length∧x=.int .i64 k∧Hid (∀j (hj:j<l.length),j<k→q l[j]=false)∧Below w.heap.size w wr) (fun x _=>l.length-(intOf x).toNat)
 case atStart=>exact⟨0,cu _,rfl,(fun j _ h=>absurd h (by omega)),jQ _ _⟩
 case round=>
  obtain⟨k,hk,rfl,hno,hb⟩:=hrel
  have hsz:=hb.size
  by_cases hlt:k<l.length
  ·have hlr:=HLS.out.keep (P':=dS wr S) (aj hb hS) (fun _ _ h=>h.keep (aj hb hS))
   obtain⟨g,o,v,rfl,hSg,htm,hcs⟩:=dB (fun _ _ h=>lD h) hlr hlt
   have hgs:g<wr.heap.size:=by have:=hS g hSg;omega
   obtain⟨cs,hcl,rfl⟩:∃cs:List Value,cs.length=22∧v=.agg cs.toArray:=by
    obtain⟨nA,nc,fA,fc,o1,m1,d1,wA1,wn1,wc1,kA1,kn1,kc1,o2,m2,d2,wA2,wn2,wc2,kA2,kn2,kc2,o3,m3,d3,wA3,wn3,wc3,kA3,kn3,kc3,hv⟩:=qo htm
    exact⟨_,rfl,hv⟩
   have hrange:wr.rangeAt g (o+k * 22) cs:=fun j u hu=>hcs j u (by simpa [cellsOf,Value.cells] using hu)
   have mW:(prog.info? 35).map (·.size)=some cs.length:=by rw[hcl];exact cZ
   clear hcs
   have hc:=HF.out l[k] (bQ hlt) _ wr htm hb
   have hkI:(k:Int)<(l.length:Int):=by omega
   have hk0:(0:Int)≤(k:Int):=by omega
   cases hq:q l[k]
   ·rw[hq] at hc
    have HC:=jI hc
    have HQ:=jI hq
    clear hc hq hlr
    go_wp2_with (with_reducible refine wpList_load_mid rfl 35 (.tmp 14) rfl g (o+k * 22) rfl cs _ hrange underlying35 rfl mW ?_)
    refine HC.out.mono ?_
    rintro e W2 ⟨rfl,hb2⟩
    go_wp2
    go_roundw
    case rel=>
     refine⟨k+1,by omega,by go_num,?_,hb.trans (hb2.mono hsz)⟩
     intro j hj hjk
     by_cases h9:j<k
     ·exact hno.out j hj h9
     ·obtain rfl:j=k:=by omega
      exact HQ.out
    case measure=>simp[intOf];omega
   ·rw[hq] at hc
    have HC:=jI hc
    have HQ:=jI hq
    clear hc hq hlr
    go_wp2_with (with_reducible refine wpList_load_mid rfl 35 (.tmp 14) rfl g (o+k * 22) rfl cs _ hrange underlying35 rfl mW ?_)
    refine HC.out.mono ?_
    rintro e W2 ⟨rfl,hb2⟩
    go_wp2
    go_ret
    exact⟨Or.inr ⟨k,l[k],rfl,dD hlt,HQ.out,xh hlt hno.out HQ.out⟩,hb.trans (hb2.mono hsz)⟩
  ·have HQ:=jI (nW (fun j hj=>hno.out j hj (by omega)))
   have hkI:¬(k:Int)<(l.length:Int):=by omega
   go_wp2
   go_ret
   exact⟨Or.inl ⟨rfl,HQ.out⟩,hb⟩
theorem aG{w:World}{b:Nat}{v0 v1:Value}{t:TypeId}(h:w.heap[b]?=some (.cells #[v0,v1] t (0,0))):w.cell? ⟨b,0,none⟩=some v0∧w.cell? ⟨b,1,none⟩=some v1:=by
 refine⟨?_,?_⟩<;>rw[j5 w _ _ _ _ _ h]<;>rfl
theorem aV{w:World}{b:Nat}{v0 v1 v2 v3 v4:Value}{t:TypeId}(h:w.heap[b]?=some (.cells #[v0,v1,v2,v3,v4] t (0,0))):w.cell? ⟨b,0,none⟩=some v0∧w.cell? ⟨b,1,none⟩=some v1∧w.cell? ⟨b,2,none⟩=some v2∧w.cell? ⟨b,3,none⟩=some v3∧w.cell? ⟨b,4,none⟩=some v4:=by
 refine⟨?_,?_,?_,?_,?_⟩<;>rw[j5 w _ _ _ _ _ h]<;>rfl
theorem I6(w:World)(l:List Int):Tests (fun _ x v=>v=.int .i64 x) w 169 l (fun n=>decide (n<1) || decide (1000<n)):=by
 rintro x-v W rfl hb
 go_enter func169,ntmps169
 go_wp2
 all_goals go_ret
 all_goals exact⟨by simp[*],jQ _ _⟩
theorem BM(w:World)(l:List Int)(k:Nat)(b:Nat)(hb:w.cell? ⟨b,0,none⟩=some (.int .i64 k)):rY (fun _ x v=>v=.int .i64 x) w 170 [.pointer (some ⟨b,0,none⟩)] l (fun n=>decide (n<0) || decide ((k:Int)≤n)):=by
 rintro x-v W rfl hbW
 have c:=(hbW.cell (p:=⟨b,0,none⟩) (World.block_lt_of_cell? w _ hb)).trans hb
 go_enter func170,ntmps170
 go_wp2
 all_goals go_ret
 all_goals exact⟨by simp[*],jQ _ _⟩
theorem EP(n:Nd)(v:Value)(k:Nat)(w:World)(S:Nat→Prop)(hv:qB w S n v)(hS:∀g,S g→g<w.heap.size)(h1:n.ws.length≤1000000000)(h2:n.kids.length≤1000000000):
  Calls prog 135 #[v,.int .i64 k] w fun e w'=>e=.returned (.int .i64 (ndE k n))∧Below w.heap.size w w':=by
 obtain⟨wA,wc,kA,kc,rfl,hw,hwc,hk,hkc⟩:=hv
 have hbA:∀(W:World)(o:Obj),Below W.heap.size W (W.alloc o):=fun W o=>(jQ _ _).alloc (aP _) o
 have HW:=jI (fun(W:World)(hW:Below w.heap.size w W)=>ug n.ws S wA wc W (hw.keep (aj hW hS)) (fun g hg=>by have:=hS g hg;have:=hW.size;omega) (by omega) 169 (enters_of func169 (by kernel_rfl) rfl) _ (I6 W n.ws))
 have HK:=jI (fun(W:World)(hW:Below w.heap.size w W)(b:Nat)(hb:W.cell? ⟨b,0,none⟩=some (.int .i64 k))=>cx_int n.kids S kA kc W (hk.keep (aj hW hS)) (fun g hg=>by have:=hS g hg;have:=hW.size;omega) (by omega) 170 (enters_of func170 (by kernel_rfl) rfl) (.pointer (some ⟨b,0,none⟩)) _ (BM W n.kids k b hb))
 obtain⟨kd,sv,nd,ws,ks⟩:=n
 simp only at HW HK h1 h2 ⊢
 obtain⟨qw,hqw⟩:∃q,q=ws.any (fun n=>decide (n<1) || decide (1000<n)):=⟨_,rfl⟩
 obtain⟨qk,hqk⟩:∃q,q=ks.any (fun n=>decide (n<0) || decide ((k:Int)≤n)):=⟨_,rfl⟩
 rw[←hqw] at HW
 rw[←hqk] at HK
 obtain⟨r,hr⟩:=kE (ndE k ⟨kd,sv,nd,ws,ks⟩)
 rw[←hr]
 unfold ndE ndE.ndE2 at hr
 simp only[←hqw,←hqk] at hr
 have HR:=jI hr
 obtain⟨nw,hnw⟩:=kE ws.length
 obtain⟨nk,hnk⟩:=kE ks.length
 rw[←hnw] at h1 HR HW ⊢
 rw[←hnk] at h2 HR HK ⊢
 obtain⟨W2,hW2⟩:=kE ((w.alloc (.cells #[.int .i64 kd,.int .i64 sv,.int .i64 nd,.slice wA nw wc,.slice kA nk kc] 79)).alloc (.cells #[.int .i64 k] 3))
 have hb2:Below w.heap.size w W2:=by rw[hW2];exact (hbA _ _).trans ((hbA _ _).mono (by simp))
 have hs2:w.heap.size+1<W2.heap.size:=by rw[hW2];simp
 have hc2:W2.heap[w.heap.size+1]?=some (.cells #[.int .i64 k] 3 (0,0)):=by rw[hW2];exact heap_alloc2_new _ _ _
 have hd2:W2.heap[w.heap.size]?=some (.cells #[.int .i64 kd,.int .i64 sv,.int .i64 nd,.slice wA nw wc,.slice kA nk kc] 79 (0,0)):=by rw[hW2];exact heap_alloc2_old _ _ _
 have HWc:=jI (show ∀m:Nat,m=nw→Calls prog 128 #[.slice wA m wc,.func (.func 169) #[] #[]] W2 fun e w'=>e=.returned (.bool qw)∧Below W2.heap.size W2 w' from fun m hm=>by rw[hm];exact HW.out W2 hb2)
 have HKc:=jI (show ∀(w1:World)(m:Nat),Below W2.heap.size W2 w1→m=nk→Calls prog 128 #[.slice kA m kc,.func (.func 170) #[] #[.pointer (some ⟨w.heap.size+1,0,none⟩)]] w1 fun e w'=>e=.returned (.bool qk)∧Below w1.heap.size w1 w' from
  fun w1 m hb hm=>by rw[hm];exact HK.out w1 (hb2.trans (hb.mono hb2.size)) (w.heap.size+1) (j5 w1 _ 0 _ _ _ ((hb.block _ hs2).trans hc2)))
 have HD:=jI (show ∀w1:World,Below W2.heap.size W2 w1→w1.cell? ⟨w.heap.size,0,none⟩=some (.int .i64 kd)∧w1.cell? ⟨w.heap.size,1,none⟩=some (.int .i64 sv)∧w1.cell? ⟨w.heap.size,2,none⟩=some (.int .i64 nd)∧w1.cell? ⟨w.heap.size,3,none⟩=some (.slice wA nw wc)∧w1.cell? ⟨w.heap.size,4,none⟩=some (.slice kA nk kc) from
  fun w1 hb=>aV ((hb.block _ (by omega)).trans hd2))
 have H2:=jI hW2
 clear hw hk hr hqw hqk hnw hnk hc2 hd2 HW HK hW2
 go_enter func135,ntmps135
 go_upto_block 0 with fail
 rw[←H2.out]
 obtain⟨c0,c1,c2,c3,c4⟩:=HD.out W2 (jQ _ _)
 go_wp2_with (first|(go_at_call 128;(with_reducible refine (HWc.out _ (by omega)).mono ?_);rintro e w1 ⟨rfl,hb1⟩;obtain⟨d0,d1,d2,d3,d4⟩:=HD.out w1 hb1)|(go_at_call 128;(with_reducible refine (HKc.out _ _ hb1 (by omega)).mono ?_);rintro e w2 ⟨rfl,hb3⟩))
 all_goals go_ret
 all_goals refine⟨?_,by first|exact hb2|exact hb2.trans (hb1.mono hb2.size)|exact hb2.trans ((hb1.trans (hb3.mono hb1.size)).mono hb2.size)⟩
 all_goals (
  have e9:=HR.out
  rw[e9]
  clear e9
  refine congrArg (fun z:Int=>Ending.returned (.int .i64 z)) ?_
  simp_all only[beq_iff_eq,bP,ne_eq]
  first|rfl|grind)
theorem ndsE_drop(l:List Nd)(k:Nat)(h:k<l.length):Ir k (l.drop k)=if ndE k l[k]≠0 then ndE k l[k] else Ir (k+1) (l.drop (k+1)):=by
 rw[fE h,Ir]
def NdLim(l:List Nd):Prop:=∀n∈l,n.ws.length≤1000000000∧n.kids.length≤1000000000
theorem xq(x:Ex)(v:Value)(w:World)(S:Nat→Prop)(hv:nu w S x v)(hS:∀g,S g→g<w.heap.size)(hl:NdLim x.nodes):
  Calls prog 98 #[v] w fun e w'=>e=.returned (.int .i64 (exE x))∧Below w.heap.size w w':=by
 obtain⟨A,c,rfl,hn,hc⟩:=hv
 have hbA:∀(W:World)(o:Obj),Below W.heap.size W (W.alloc o):=fun W o=>(jQ _ _).alloc (aP _) o
 obtain⟨l,rt⟩:=x
 simp only at hn hc hl ⊢
 obtain⟨r,hr⟩:=kE (exE ⟨l,rt⟩)
 rw[←hr]
 unfold exE at hr
 simp only at hr
 obtain⟨N,hN⟩:=kE l.length
 rw[←hN] at hr
 have HR:=jI hr
 have HN:=jI hn
 have HLN:=jI hN
 have HL:=jI hl
 obtain⟨W0,hW0⟩:=kE (w.alloc (.cells #[.slice A N c,.int .i64 rt] 38))
 have hb0:Below w.heap.size w W0:=by rw[hW0];exact hbA _ _
 have hs0:w.heap.size<W0.heap.size:=by rw[hW0];simp
 have hr0:W0.heap[w.heap.size]?=some (.cells #[.slice A N c,.int .i64 rt] 38 (0,0)):=by rw[hW0];exact jR w _
 have HD:=jI (show ∀w1:World,Below W0.heap.size W0 w1→w1.cell? ⟨w.heap.size,0,none⟩=some (.slice A N c)∧w1.cell? ⟨w.heap.size,1,none⟩=some (.int .i64 rt) from
  fun w1 hb=>aG ((hb.block _ hs0).trans hr0))
 have H0:=jI hW0
 rw[←hN] at hc ⊢
 clear hr hn hl hW0 hr0 hN
 by_cases h0:N=0
 ·have h0I:((N:Int)==0)=true:=by rw[h0];rfl
  have e9:=HR.out
  rw[if_pos h0] at e9
  clear h0 HR
  go_enter func98,ntmps98
  go_wp2
  go_ret
  exact⟨by rw[e9];rfl,hbA _ _⟩
 have h0I:((N:Int)==0)=false:=lM h0
 by_cases h60:60<N
 ·have h60I:(60:Int)<(N:Int):=by omega
  have e9:=HR.out
  rw[if_neg h0,if_pos h60] at e9
  clear h0 HR h60
  go_enter func98,ntmps98
  go_wp2
  go_ret
  exact⟨by rw[e9];rfl,hbA _ _⟩
 have h60I:¬(60:Int)<(N:Int):=by omega
 have e9:=HR.out
 rw[if_neg h0,if_neg h60] at e9
 have HR2:=jI e9
 clear e9 HR h0 h60
 go_enter func98,ntmps98
 go_wp2
 rw[←H0.out]
 go_loopw [17] (fun x wr=>∃k:Nat,k≤N∧x=.int .i64 k∧Below W0.heap.size W0 wr∧Hid (Ir 0 l=Ir k (l.drop k))) (fun x _=>N-(intOf x).toNat)
 case atStart=>exact⟨0,cu _,rfl,jQ _ _,jI rfl⟩
 case round=>
  obtain⟨k,hk,rfl,hb,hnd⟩:=hrel
  have hsr:=hb.size
  have hbw:Below w.heap.size w wr:=hb0.trans (hb.mono hb0.size)
  obtain⟨d0,d1⟩:=HD.out wr hb
  by_cases hlt:k<N
  ·have hlt2:k<l.length:=by rw[←HLN.out];exact hlt
   obtain⟨g,o,wA,wc,kA,kc,rfl,hSg,k0,k1,k2,k3,k4,q1,q2,q3,q4⟩:=ru (HN.out.keep (P':=qB wr S) (aj hbw hS) (fun _ _ h=>h.keep (aj hbw hS))) hlt2
   have hgs:g<wr.heap.size:=by have:=hS g hSg;have:=hbw.size;omega
   obtain⟨n,hn⟩:=kE (l[k])
   have hlim:=HL.out l[k] (bQ hlt2)
   rw[←hn] at k0 k1 k2 k3 k4 q1 q2 q3 q4 hlim
   have hstep:=ndsE_drop l k hlt2
   rw[←hn] at hstep
   have HST:=jI (hnd.out.trans hstep)
   have HV:=jI (fun(W:World)(hW:Below wr.heap.size wr W)=>EP n (.agg #[.int .i64 n.kind,.int .i64 n.server,.int .i64 n.need,.slice wA n.ws.length wc,.slice kA n.kids.length kc]) k W S
    ⟨wA,wc,kA,kc,rfl,q1.keep (aj hW (fun g hg=>by have:=hS g hg;have:=hbw.size;omega)),q2,q3.keep (aj hW (fun g hg=>by have:=hS g hg;have:=hbw.size;omega)),q4⟩ (fun g hg=>by have:=hS g hg;have:=hbw.size;have:=hW.size;omega) hlim.1 hlim.2)
   have hkI:(k:Int)<(N:Int):=by omega
   have hk0:(0:Int)≤(k:Int):=by omega
   clear hn hstep hnd q1 q3 hlt2
   obtain⟨q,hq⟩:=kE (ndE k n)
   rw[←hq] at HST
   simp only[←hq] at HV
   clear hq
   go_wp2_with fail
   refine (HV.out _ (hbA _ _)).mono ?_
   rintro e w1 ⟨rfl,hb1⟩
   have hbr:Below wr.heap.size wr w1:=(hbA _ _).trans (hb1.mono (by simp))
   by_cases hq0:q=0
   ·subst hq0
    have h9:=HST.out
    rw[if_neg (by decide)] at h9
    have H9:=jI h9
    clear h9
    go_wp2
    go_roundw
    case rel=>exact⟨k+1,by omega,by go_num,hb.trans (hbr.mono hsr),jI H9.out⟩
    case measure=>simp[intOf];omega
   ·have hqI:((q:Int) != 0)=true:=j6 hq0
    have h9:=HST.out
    rw[if_pos hq0] at h9
    have e9:=HR2.out
    rw[h9,if_pos hq0] at e9
    have H9:=jI e9
    clear h9 e9 hq0
    go_wp2
    go_ret
    exact⟨by rw[H9.out];rfl,hbw.trans (hbr.mono hbw.size)⟩
  ·obtain rfl:k=N:=by omega
   have hkI:¬(k:Int)<(k:Int):=by omega
   have h9:=hnd.out
   rw[HLN.out,List.drop_length] at h9
   have e9:=HR2.out
   rw[h9,Ir,if_neg (by decide)] at e9
   have HR3:=jI e9
   clear h9 e9 hnd
   go_wp2
   all_goals go_ret
   all_goals refine⟨?_,hbw⟩
   all_goals (
    rw[HR3.out]
    refine congrArg (fun z:Int=>Ending.returned (.int .i64 z)) ?_
    simp_all only[bP,ne_eq]
    first|rfl|grind)
theorem qU{fn:Func}{slot u:Nat}{R:Ending→World→Prop}{a:Act}{W:World}{r:Nat}{A:Option Addr}{n c:Nat}{rt:Int}{q:Value}(hres:fn.results=#[.cell slot 38,.tmp u])(hp:a.tmps.getD slot undef=.pointer (some ⟨r,0,none⟩))(hq:a.tmps.getD u undef=q)(hd:a.defers=[])
  (c0:W.cell? ⟨r,0,none⟩=some (.slice A n c)) (c1:W.cell? ⟨r,1,none⟩=some (.int .i64 rt)) (hR:R (.returned (.tuple #[.agg #[.slice A n c,.int .i64 rt],q])) W):bodyPost prog fn R .ret a W:=by
 refine bodyPost_ret (v:=.tuple #[.agg #[.slice A n c,.int .i64 rt],q]) ?_ hd hR
 rw[results_cell_tmp hres,hp,hq]
 simp[go_sem,c0,c1]
theorem size_expr:(prog.info? 38).map (·.size)=some 2:=by kernel_rfl
theorem ret_ex1{fn:Func}{slot:Nat}{R:Ending→World→Prop}{a:Act}{W:World}{r:Nat}{u v:Value}{T:TypeId}(hres:fn.results=#[.cell slot 38])(hp:a.tmps.getD slot undef=.pointer (some ⟨r,0,none⟩))(hd:a.defers=[])
  (hblk:W.heap[r]?=some (.cells #[u,v] T (0,0))) (hR:R (.returned (.agg #[u,v])) W):bodyPost prog fn R .ret a W:=
 bodyPost_ret (results_cell_row hres a.tmps W r T #[u,v] (0,0) _ hp hblk underlying38 rfl size_expr) hd hR
theorem nu.one{W:World}{S:Nat→Prop}{b:Nat}(n:Nd){u v x y z:Value}{T:TypeId}{fr:Nat × Nat}(hb:W.heap[b]?=some (.cells #[u,v,x,y,z] T fr))(hn:qB W S n (.agg #[u,v,x,y,z]))(hS:S b)(c:Nat)(hc:1≤c):nu W S ⟨[n],0⟩ (.agg #[.slice (some ⟨b,0,none⟩) 1 c,.int .i64 0]):=by
 refine⟨some ⟨b,0,none⟩,c,rfl,⟨[.agg #[u,v,x,y,z]],rfl,⟨rfl,fun _=>⟨b,0,rfl,hS,fun j u' hu=>?_⟩⟩,fun i x' v' hx hv=>?_⟩,hc⟩
 ·rw[j5 W b _ _ _ _ hb]
  simpa [cellsOf,Value.cells] using hu
 ·have hi:i=0:=by
   have:=(List.getElem?_eq_some_iff.1 hx).1
   simp at this;exact this
  subst hi
  simp at hx hv
  subst hx hv
  exact hn
theorem yN(i:Nat)(w:World):Calls prog 66 #[.int .i64 (i:Nat)] w fun e w'=>∃v,e=.returned v∧nu w' (w.heap.size≤·) (lY i) v∧Below w.heap.size w w':=by
 go_enter func66,ntmps66
 go_wp2
 refine ret_ex1 rfl rfl rfl (heap_alloc2_old _ _ _) ⟨_,rfl,nu.one ⟨1,i,0,[],[]⟩ (heap_alloc2_new _ _ _) ⟨none,0,none,0,rfl,.empty _ _ _ _,aP _,.empty _ _ _ _,aP _⟩ (by omega) 1 (aP _),((jQ _ _).alloc (aP _) _).alloc (by simp) _⟩
theorem svF_none{sv:List ByteArray}{x:ByteArray}(h:x∉sv):svF sv x=none:=by
 have key:∀(l:List (ByteArray × Nat)),(∀p∈l,p.1≠x)→l.foldl (fun(a:Option Nat) p=>if p.1=x then some p.2 else a) none=none:=by
  intro l
  induction l with
  |nil=>intro _;rfl
  |cons p r ih=>intro hp;rw[List.foldl_cons,if_neg (hp p fO)];exact ih (fun q hq=>hp q (List.mem_cons_of_mem _ hq))
 unfold svF iQ
 rw[key _ (fun p hp e=>h (by rw[←e];exact List.fst_mem_of_mem_zipIdx hp))]
 rfl
theorem Io{l:List ByteArray}(h:l.Nodup){k:Nat}(hk:k<l.length)(hm:l[k]∈l.take k):False:=by
 obtain⟨j,hj,he⟩:=List.getElem_of_mem hm
 rw[fH] at hj
 rw[List.getElem_take] at he
 exact (List.pairwise_iff_getElem.1 h) j k (by omega) hk (by omega) he
def BgPost(A:Option Addr)(c:Nat)(l:List Dc)(w:World)(e:Ending)(w':World):Prop:=
 ∃b sb mb,e=.returned (.pointer (some ⟨b,0,none⟩))∧Wd w' b sb mb A c l∧bH prog w' 9 mb 0 (fun _=>none)∧Below w.heap.size w w'∧(w.heap.size≤b∧w.heap.size≤sb∧w.heap.size≤mb)∧b≠sb∧b≠mb∧sb≠mb
theorem DX(l:List Dc)(A:Option Addr)(c:Nat)(w:World)(S:Nat→Prop)(hl:aO (dS w S) w S 22 A l)(hS:∀g,S g→g<w.heap.size)(hsz:(ai l).length≤1000000)(hnd:(ai l).Nodup)(hnm:∀x∈ai l,x.size≤maxLen)(hll:l.length≤100000000):
  Calls prog 29 #[.slice A l.length c] w (BgPost A c l w):=by
 have hbA:∀(W:World)(o:Obj),Below W.heap.size W (W.alloc o):=fun W o=>(jQ _ _).alloc (aP _) o
 have hmm:=@run_makeMap prog
 have HL:=jI hl
 have HN:=jI hnm
 clear hl hnm
 go_enter func29,ntmps29
 go_wp2_with fail
 obtain⟨w1,h1⟩:=kE (w.alloc (.map #[] 0))
 obtain⟨w2,h2⟩:=kE (w1.alloc (.map #[] 0))
 obtain⟨m,hm⟩:=kE w.heap.size
 rw[←hm,←h1,←h2]
 obtain⟨w3,h3⟩:=kE (w2.alloc (.cells #[.slice A l.length c,.map (some m),.map (some (m+1))] 128))
 rw[←h3]
 have s1:w1.heap.size=m+1:=by rw[h1,hm];simp
 have s2:w2.heap.size=m+1+1:=by rw[h2,←s1];simp
 have s3:w3.heap.size=m+1+1+1:=by rw[h3,←s2];simp
 have b1:Below w.heap.size w w1:=by rw[h1];exact hbA _ _
 have b2:Below w1.heap.size w1 w2:=by rw[h2];exact hbA _ _
 have b3:Below w2.heap.size w2 w3:=by rw[h3];exact hbA _ _
 have m1:jq prog w1 9 m 0 (fun _=>none):=by rw[h1,hm];exact jq.made _ _ _
 have m2:bH prog w2 9 (m+1) 0 (fun _=>none):=by rw[h2,←s1];exact bH.made _ _ _
 have m1':=(m1.below b2 m1.lt).below b3 (by omega)
 have m2':=m2.below b3 m2.lt
 have r3:w3.heap[m+1+1]?=some (.cells #[.slice A l.length c,.map (some m),.map (some (m+1))] 128 (0,0)):=by rw[h3,←s2];exact jR _ _
 have b23:=b2.trans (b3.mono b2.size)
 have hb3:Below w.heap.size w w3:=b1.trans (b23.mono b1.size)
 obtain⟨sv,hsv⟩:=kE (ai l)
 have HSV:=jI (vQ l A c w3 S (HL.out.keep (aj hb3 hS) (fun _ _ h=>h.keep (aj hb3 hS))) (fun g hg=>by have:=hS g hg;omega) (by omega) (by omega))
 unfold tu at HSV
 rw[←hsv] at HN hsz HSV hnd
 have HND:=jI hnd
 have HE:=jI hsv
 have hmw:w.heap.size≤m:=by omega
 have hm3:m+1+1<w3.heap.size:=by omega
 have hm1:m<w3.heap.size:=by omega
 have hm2:m+1<w3.heap.size:=by omega
 clear h1 h2 h3 b1 b2 b3 m1 m2 b23 hsv s1 s2 s3 hm hnd
 refine HSV.out.mono ?_
 rintro e w4 ⟨v,rfl,hown,hb4⟩
 have hown0:=hown
 obtain⟨A2,c2,rfl,hc2⟩:=aD hown0
 have m1'':=m1'.below hb4 hm1
 have m2'':=m2'.below hb4 hm2
 have r4:=(hb4.block _ hm3).trans r3
 have HS2:=jI (ak.own hown)
 have hb4':Below w.heap.size w w4:=hb3.trans (hb4.mono hb3.size)
 have hs4:=hb4.size
 clear hown hown0 m1' m2' r3 hb4
 go_wp2
 go_loopw [14] (fun x wr=>∃k:Nat,k≤sv.length∧x=.int .i64 k∧Below w.heap.size w wr∧wr.heap[m+1+1]?=some (.cells #[.slice A l.length c,.map (some m),.map (some (m+1))] 128 (0,0))∧jq prog wr 9 m k (svF (sv.take k))∧bH prog wr 9 (m+1) 0 (fun _=>none)∧ak wr (w3.heap.size≤·) 1 A2 sv.length (aC sv)) (fun x _=>sv.length-(intOf x).toNat)
 case atStart=>exact⟨0,cu _,rfl,hb4',r4,m1'',m2'',HS2.out⟩
 case round=>
  obtain⟨k,hk,rfl,hb,hr,hM,hM2,J3⟩:=hrel
  by_cases hlt:k<sv.length
  ·obtain⟨g,o,rfl,hgb,hcell⟩:=J3.cells (by omega)
   have hck:=hcell k _ (dV sv k hlt)
   have hsn:sv.take (k+1)=sv.take k++[sv.getD k ByteArray.empty]:=by rw[cO hlt];simp[hlt]
   have hxs:(sv.getD k ByteArray.empty).size≤maxLen:=HN.out _ (by rw[List.getD_eq_getElem?_getD,dD hlt];exact bQ hlt)
   obtain⟨x,hx⟩:=kE (sv.getD k ByteArray.empty)
   rw[←hx] at hck hsn hxs
   have HSE:=jI J3
   have HSN:=jI hsn
   have hnew:svF (sv.take k) x=none:=by
    rw[hx,List.getD_eq_getElem?_getD,dD hlt]
    exact svF_none (fun h=>Io HND.out hlt h)
   have hgl:g<wr.heap.size:=World.block_lt_of_cell? wr _ hck
   obtain⟨d0,d1,d2⟩:=row3 hr
   have hkI:(k:Int)<(sv.length:Int):=by omega
   have hk0:(0:Int)≤(k:Int):=by omega
   have hsr:=hb.size
   clear hcell hsn hx J3
   go_wp2_with (refine wp_storeZ _ rfl _ _ _ 117 rfl 9 3 bB underlying117 m _ _ rfl hM (by unfold maxLen;omega) x hxs hnew rfl (.int .i64 k) rfl ?_;intro w5 m5 g5 z5)
   go_roundw
   case rel=>
    refine⟨k+1,by omega,by go_num,hb.grown g5 hsr (fun j e=>by cases e;exact hmw),(g5.block _ (by omega) (fun e=>by injection e;omega)).trans hr,?_,hM2.kept g5 (fun e=>by injection e;omega),HSE.out.keep (fun j hj hjl=>g5.block j hjl (fun e=>by injection e;omega))⟩
    have h9:=svF_snoc (sv.take k) x
    rw[fH,Nat.min_eq_left (by omega)] at h9
    rw[HSN.out,←h9]
    exact m5
   case measure=>simp[intOf];omega
  ·obtain rfl:k=sv.length:=by omega
   have hkI:¬(sv.length:Int)<(sv.length:Int):=by omega
   rw[List.take_length] at hM
   go_wp2
   go_ret
   exact⟨m+1+1,m,m+1,rfl,⟨hr,by rw[←HE.out];exact hM⟩,hM2,hb,by omega,by omega,by omega,by omega⟩
theorem find_test(d:Dc)(v:Value)(W:World)(S:Nat→Prop)(hd:dS W S d v)(pk pn:Nat)(kk:Int)(x:ByteArray)(hk:W.cell? ⟨pk,0,none⟩=some (.int .i64 kk))(hn:W.cell? ⟨pn,0,none⟩=some (.string x)):
  Calls prog 97 #[v,.pointer (some ⟨pk,0,none⟩),.pointer (some ⟨pn,0,none⟩)] W fun e W'=>e=.returned (.bool (decide (d.kind=kk)&&d.name==x))∧Below W.heap.size W W':=by
 obtain⟨cs,nA,nc,hcl,hone,rfl,c0,-,c2,-⟩:=j4 hd
 have e0:(W.alloc (.cells cs.toArray 35)).cell? ⟨W.heap.size,0,none⟩=some (.int .i64 d.kind):=aY (jR W _) c0
 have e2:(W.alloc (.cells cs.toArray 35)).cell? ⟨W.heap.size,2,none⟩=some (.string d.name):=aY (jR W _) c2
 have hb:=(jQ W.heap.size W).alloc (aP _) (.cells cs.toArray 35)
 have ek:=(hb.cell (p:=⟨pk,0,none⟩) (World.block_lt_of_cell? W _ hk)).trans hk
 have en:=(hb.cell (p:=⟨pn,0,none⟩) (World.block_lt_of_cell? W _ hn)).trans hn
 have HT:=jI (ba_tl d.name x)
 clear hd c0 c2 hcl hone hk hn
 go_enter func97,ntmps97
 go_wp2
 all_goals go_ret
 all_goals exact⟨by rw[HT.out];simp[*],hb⟩
theorem ret_dc2{fn:Func}{slot u:Nat}{R:Ending→World→Prop}{a:Act}{W:World}{r:Nat}{cells:Array Value}{q:Value}(hres:fn.results=#[.cell slot 35,.tmp u])(hp:a.tmps.getD slot undef=.pointer (some ⟨r,0,none⟩))(hq:a.tmps.getD u undef=q)(hd:a.defers=[])
  (hblk:W.heap[r]?=some (.cells cells 35 (0,0))) (hc:cells.size=22) (hR:R (.returned (.tuple #[.agg cells,q])) W):bodyPost prog fn R .ret a W:=by
 refine bodyPost_ret (v:=.tuple #[.agg cells,q]) ?_ hd hR
 rw[results_cell_tmp hres,hp,hq]
 simp[asAddr,run_loadVar_row W r 35 35 cells (0,0) _ hblk underlying35 rfl (by rw[hc];exact cZ),Result.andThen]
abbrev zDc0:Array Value:=#[.int .i64 0,.int .i64 0,.string ⟨#[]⟩,.slice none 0 0,.slice none 0 0,.int .i64 0,.string ⟨#[]⟩,.int .i64 0,.slice none 0 0,.slice none 0 0,.string ⟨#[]⟩,.int .i64 0,.string ⟨#[]⟩,.int .i64 0,.slice none 0 0,.slice none 0 0,.int .i64 0,.string ⟨#[]⟩,.int .i64 0,.slice none 0 0,.slice none 0 0,.string ⟨#[]⟩]
def FdPost(d:Dc)(S:Nat→Prop)(w:World)(e:Ending)(w':World):Prop:=∃v,e=.returned (.tuple #[v,.bool true])∧dS w' S d v∧Below w.heap.size w w'
theorem vF{b sb mb c:Nat}{A:Option Addr}{l:List Dc}(w:World)(S:Nat→Prop)(hw:Wd w b sb mb A c l)(hl:aO (dS w S) w S 22 A l)(hS:∀g,S g→g<w.heap.size)(hll:l.length≤1000000000)(k:Int)(x:ByteArray)(d:Dc)(hd:nY l k x=some d):
  Calls prog 67 #[.pointer (some ⟨b,0,none⟩),.int .i64 k,.string x] w (FdPost d S w):=by
 have hbA:∀(W:World)(o:Obj),Below W.heap.size W (W.alloc o):=fun W o=>(jQ _ _).alloc (aP _) o
 obtain⟨w1,h1⟩:=kE (w.alloc (.cells #[.int .i64 k] 3))
 obtain⟨w2,h2⟩:=kE (w1.alloc (.cells #[.string x] 9))
 obtain⟨w3,h3⟩:=kE (w2.alloc (.cells zDc0 35))
 have s1:w1.heap.size=w.heap.size+1:=by rw[h1];simp
 have s2:w2.heap.size=w.heap.size+1+1:=by rw[h2,←s1];simp
 have s3:w3.heap.size=w.heap.size+1+1+1:=by rw[h3,←s2];simp
 have b1:Below w.heap.size w w1:=by rw[h1];exact hbA _ _
 have b2:Below w1.heap.size w1 w2:=by rw[h2];exact hbA _ _
 have b3:Below w2.heap.size w2 w3:=by rw[h3];exact hbA _ _
 have b13:=b2.trans (b3.mono b2.size)
 have hb3:Below w.heap.size w w3:=b1.trans (b13.mono b1.size)
 have e1:w3.cell? ⟨w.heap.size,0,none⟩=some (.int .i64 k):=j5 w3 _ 0 _ _ _ ((b13.block w.heap.size (by omega)).trans (by rw[h1];exact jR w _))
 have e2:w3.cell? ⟨w.heap.size+1,0,none⟩=some (.string x):=j5 w3 _ 0 _ _ _ ((b3.block (w.heap.size+1) (by omega)).trans (by rw[h2,←s1];exact jR w1 _))
 have hr3:w3.heap[w.heap.size+1+1]?=some (.cells zDc0 35 (0,0)):=by rw[h3,←s2];exact jR w2 _
 have HI:=jI (fx_dec l S A c w3 (hl.keep (aj hb3 hS) (fun _ _ h=>h.keep (aj hb3 hS))) (fun g hg=>by have:=hS g hg;omega) (by omega) 97 (enters_of func97 (by kernel_rfl) rfl) (.pointer (some ⟨w.heap.size,0,none⟩)) (.pointer (some ⟨w.heap.size+1,0,none⟩)) (fun d=>decide (d.kind=k)&&d.name==x)
  (fun d _ v W hdv hbW=>find_test d v W S hdv _ _ k x ((hbW.cell (p:=⟨w.heap.size,0,none⟩) (by rw[s3];show w.heap.size<_;omega)).trans e1) ((hbW.cell (p:=⟨w.heap.size+1,0,none⟩) (by rw[s3];show w.heap.size+1<_;omega)).trans e2)))
 have HL:=jI hl
 have HD:=jI hd
 have HR3:=jI hr3
 obtain⟨d0,-,-⟩:=(hw.later hb3 hw.lt).cells
 have H3:=jI (show (( w.alloc (.cells #[.int .i64 k] 3)).alloc (.cells #[.string x] 9)).alloc (.cells zDc0 35)=w3 by rw[h3,h2,h1])
 have hbl:=hw.lt.1
 have hw3:w.heap.size+1+1<w3.heap.size:=by omega
 clear hl hd h1 h2 h3 b1 b2 b3 b13 e1 e2 hr3 hw s1 s2
 go_enter func67,ntmps67
 have d0r:=d0
 rw[←H3.out] at d0r
 go_wp2_with fail
 rw[H3.out]
 refine HI.out.mono ?_
 rintro e w4 ⟨(⟨rfl,hn⟩|⟨j,d',rfl,hj,-,hn⟩),hb4⟩
 ·have h9:=HD.out
  unfold nY at h9
  rw[hn] at h9
  cases h9
 have hdd:d'=d:=by
  have h9:=HD.out
  unfold nY at h9
  rw[hn] at h9
  exact Option.some.inj h9
 subst hdd
 have hjl:=(List.getElem?_eq_some_iff.1 hj).1
 have hje:=(List.getElem?_eq_some_iff.1 hj).2
 have hb4w:=hb3.trans (hb4.mono hb3.size)
 obtain⟨g,o,v,rfl,hSg,hp,hcs⟩:=dB (fun _ _ h=>lD h) (HL.out.keep (P':=dS w4 S) (aj hb4w hS) (fun _ _ h=>h.keep (aj hb4w hS))) hjl
 rw[hje] at hp
 have HP:=jI hp
 obtain⟨cs,nA,nc,hcl,hone,rfl,-⟩:=j4 hp
 have hrange:w4.rangeAt g (o+j * 22) cs:=fun i u hu=>hcs i u (by simpa [cellsOf,Value.cells] using hu)
 have mW:(prog.info? 35).map (·.size)=some cs.length:=by rw[hcl];exact cZ
 have hcs2:cs.toArray.size=22:=by simpa using hcl
 have nD:=jI hone
 have HCS:=jI hcs2
 have hr4:=(hb4.block _ hw3).trans HR3.out
 have HR4:=jI hr4
 have e0:=(hb4.cell (p:=⟨b,0,none⟩) (show b<w3.heap.size by omega)).trans d0
 have hgs:g<w4.heap.size:=by have:=hS g hSg;have:=hb4w.size;omega
 have hj0:(0:Int)≤(j:Int):=by omega
 have hj1:¬(j:Int)<0:=by omega
 have hjI:(j:Int)<(l.length:Int):=by omega
 clear hp hcs hone hcs2 hr4 d0 d0r hn hj hje hcl
 go_wp2_with (first|(with_reducible refine wpList_load_mid rfl 35 (.tmp 23) rfl g (o+j * 22) rfl cs _ hrange underlying35 rfl mW ?_)|(with_reducible refine bO _ rfl rfl (.tmp 6) (.tmp 24) rfl (w.heap.size+1+1) cs.toArray rfl rfl _ HR4.out rfl HCS.out nD.out ?_;intro W5 hr5 hg5))
 have hb5:=below_grown hg5 (show w.heap.size≤w.heap.size+1+1 by omega) (by have:=hb4w.size;omega)
 refine ret_dc2 rfl rfl rfl rfl hr5 HCS.out ⟨_,rfl,HP.out.keep (fun i hi hl=>hb5.block i (hS i hi)),hb4w.trans hb5⟩
end
end Go.Proofs.YtmohibkomlhlaaaGreatDoor
