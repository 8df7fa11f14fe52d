/- What the listed package-level variables give (the table of the powers of ten lies in the world), and a world for the witness. Arguments opened: a term, a fault, a declaration and a list of declarations are read as plain ones, with what the bound on the arguments' bulk says of them. No condition. The last step of a law's row: the law has returned true and all that was there stays; so each argument reads as it did. No condition. -/
import Derived.Test.YtmohibkomlhlaaaGreatDoorCards
import Derived.Test.YtmohibkomlhlaaaGreatDoorTie
import Derived.Test.YtmohibkomlhlaaaGreatDoorPkFmta
import Derived.ProofKit
import Derived.OpenShut
import Derived.ChangeMaps5
import Derived.Deep.DeepHandedRow
import Derived.Lib.LaidTab
import Derived.Deep.Slices
import Derived.WideKeyArgs
set_option maxRecDepth 100000
set_option maxHeartbeats 2000000
namespace Go.Proofs.YtmohibkomlhlaaaGreatDoor
section
open Go.ChangeShapes Go.WideShapes Go.ChangeAt Go.RowKit
open _root_.Go.Proofs.Tryz
theorem own_knob:ownKnob prog.godebug=none:=by kernel_rfl
theorem gPowType:(prog.globals[1]?).map (·.type)=some 288:=by kernel_rfl
theorem cellsPow:prog.cellsOf 288=20:=by kernel_rfl
theorem cellsU64:prog.cellsOf 272=1:=by kernel_rfl
def laid3:List (String × DataW Unit):=[("math/bits.deBruijn32tab",Rows.laid_math_bits_deBruijn32tab),("math/bits.deBruijn64tab",Rows.laid_math_bits_deBruijn64tab),("internal/strconv.uint64pow10",Rows.laid_internal_strconv_uint64pow10)]
theorem CJ{P:Program}{W:World}{x:String × DataW Unit}{rest:List (String × DataW Unit)}(h:laidMet P (x::rest) W):laidMet P rest W:=by
 obtain⟨ps,⟨g',t',cs,fuel,p,q,hg',ht',hvar,hd,hr,he⟩,hn,hc⟩:=h
 subst he
 exact⟨q,hr,(List.nodup_append.1 hn).2.1,fun b off hm=>hc b off (List.mem_append_right _ hm)⟩
theorem EL{W:World}(h:laidMetH prog laid3 W):Pow W:=by
 rw[MakeChecks.laidMetH_plain _ _ _ (by kernel_rfl)] at h
 exact Lib.tabIs_of_head gPow gPowType underlying288 underlying272 cellsU64 cellsPow (rest:=[]) (zs:=Lib.pow10Tab) (by have h2:=CJ (CJ h);exact h2)
def tabVal:DataW Unit→Value
 |.lit (.int k n)=>.int k n
 |_=>.bool false
def Ep:DataW Unit→List Value
 |.agg l=>l.map tabVal
 |_=>[]
def layAt(h:Array Obj)(g:Nat)(vs:List Value):Array Obj:=h.modify g fun
 |.cells _ t frozen=>.cells vs.toArray t frozen
 |o=>o
noncomputable def wK (os:Os):World:=
 { World.holding prog os ⟨#[],#[],[]⟩ with heap:=layAt (layAt (layAt (World.holding prog os ⟨#[],#[],[]⟩).heap 2 (Ep Rows.laid_math_bits_deBruijn32tab)) 3 (Ep Rows.laid_math_bits_deBruijn64tab)) 1 (Ep Rows.laid_internal_strconv_uint64pow10) }
theorem laid_met(os:Os)(args:Array Value):laidMet prog laid3 ((wK os).forCall (fun _ _=>0) ⟨#[],args,[]⟩).memory:=
 laidMet_of_run' 8 (by kernel_rfl) (by kernel_rfl)
theorem Aq{H:Type}{enc:TypeId × Value→H}{P:Program}{f:Func}{s:ChangeSpec}{apart fresh handsOn again:Bool}{W W':World}{args:Array Value}{v:Value}{ds gs:List (DataW H)}{before pa pv:List MemPlace}
  (hW:DataW.Whole enc P f.params.toList s.vars apart W args.toList ds gs before)
  (hres:∀(b:Nat)(sp:Nat→Bool)(hd:Bool),DataW.TrodAll enc P W' b sp hd f.resultTypes.toList (v.resultList f.resultTypes.size) (s.fn H (ds++gs)).results [])
  (hargs:∀sp:Nat→Bool,(∀p∈before,sp p.block=true)→DataW.TrodAll enc P W' 0 sp true f.params.toList args.toList (s.fn H (ds++gs)).args pa)
  (hvars:∀sp:Nat→Bool,(∀p∈before,sp p.block=true)→DataW.TrodVars enc P W' sp s.vars (s.fn H (ds++gs)).vars pv)
  (hps:before=pa++pv) (hb:Below W.heap.size W W')
  (hok:∀(j:Nat)(t:TypeId)(r:Value),f.resultTypes[j]?=some t→(v.resultList f.resultTypes.size)[j]?=some r→Value.okWide P W' .any 0 t r):
  s.post enc P f apart fresh handsOn again W args v W':=by
 have hin:∀p∈before,p.block<W.heap.size:=fun p hp=>hW.lt p hp
 have hset:∀p∈before,(fun b=>decide (b<W.heap.size)) p.block=true:=fun p hp=>decide_eq_true (hin p hp)
 refine⟨ds,gs,before,[],pa,pv,hW,hres _ _ _,hargs _ hset,hvars _ hset,World.keptBut_mono (fun p hp=>⟨hp,?_⟩) (hb.frame (·∈before)),fun _=>?_⟩
 ·rw[hps,List.mem_append] at hp
  exact Or.inr hp
 ·obtain⟨_,_,_,_,_,hz,hn⟩:=hW
  refine⟨hok,_,_,([]++pa)++pv,⟨[]++pa,pv,trodAll_append (hargs _ (fun _ _=>rfl)) (hres _ _ _),hvars _ (fun _ _=>rfl),rfl,fun b off hp=>?_,fun ha=>?_⟩,fun p hp _=>?_⟩
  ·have hp':MemPlace.cell b off∈before:=by rw[hps];simpa using hp
   rw[hb.frozen (hin _ hp')]
   exact hz b off hp'
  ·have h:=hn ha
   rw[hps] at h
   simpa using h
  ·rw[hps]
   simpa using hp
end
section
open Go.ChangeShapes Go.WideShapes Go.ChangeAt Go.RowKit
open _root_.Go.Proofs.Tryz
theorem JO{H:Type}{l:List (DataW H)}(hk:Rows.uptoSmall H l=true):Rows.uptoBulkAll l≤1048576:=of_decide_eq_true hk
theorem bulk_map{H α:Type}(f:α→Nat):∀(l:List α)(e:List (DataW H × List MemPlace)),l.length=e.length→(∀i (h:i<l.length) (h2:i<e.length),f l[i]≤Rows.uptoBulk e[i].1)→(l.map f).sum≤Rows.uptoBulkAll (e.map (·.1)):=by
 intro l
 induction l with
 |nil=>intro e _ _;simp
 |cons x r ih=>
  intro e hl h
  match e,hl with
  |y::e,hl=>
   have h0:=h 0 (by simp) (by simp)
   have h1:=ih e (by simpa using hl) (fun i a b=>by have:=h (i+1) (by simpa using a) (by simpa using b);simpa using this)
   simp only[List.map_cons,List.sum_cons,Rows.uptoBulkAll]
   simp only[List.getElem_cons_zero] at h0
   omega
section
variable {H:Type} {enc:TypeId × Value→H} {W:World} {sp:Nat→Bool} {held:Bool}
theorem qY{α:Type}{Q:α→Value→Prop}{f:α→Nat}{t e:TypeId}{size:Nat}(ht:prog.underlying t=some (.slice e))(hc:prog.cellsOf e=size)(hpos:0<size){n:Nat}
  (hel:∀(n':Nat)(cs:List Value)(x:DataW H × List MemPlace),n'<n→DataW.trod enc prog W 0 sp held n' e cs=some x→∃(a:α)(v:Value),Q a v∧cs=cellsOf v∧f a≤Rows.uptoBulk x.1)
  {cs:List Value} {y:DataW H × List MemPlace} (h:DataW.trod enc prog W 0 sp held n t cs=some y):
  ∃(A:Option Addr)(cap:Nat)(l:List α),cs=[.slice A l.length cap]∧aO Q W (·<W.heap.size) size A l∧l.length≤cap∧(l.map f).sum+1≤Rows.uptoBulk y.1:=by
 rcases DataW.trod_slice ht h with ⟨rfl,rfl⟩|⟨a,len,cap,elems,rest,n',hn,rfl,rfl,_,hl,_,hlen,he,_,_⟩
 ·exact⟨none,0,[],rfl,aO.empty _ _ _ _ _,aP _,by simp[Rows.uptoBulk]⟩
 ·have hev:∀i:Fin len,∃p:α × Value,Q p.1 p.2∧W.cells? 0 (a.add (i.1 * size)) size=some (cellsOf p.2)∧f p.1≤Rows.uptoBulk (elems[i.1]'(by rw[hlen];exact i.2)).1:=by
   intro i
   have h1:=he i.1 i.2
   rw[dD (by rw[hlen];exact i.2),hc] at h1
   obtain⟨cs',h2,h3⟩:=Option.bind_eq_some_iff.1 h1
   obtain⟨b,v,q1,q2,q3⟩:=hel n' cs' _ (by omega) h3
   exact⟨(b,v),q1,by rw[h2,q2],q3⟩
  obtain⟨g,hg⟩:=Classical.axiomOfChoice hev
  have hll:(List.ofFn fun i=>(g i).1).length=len:=by simp
  have hvl:(List.ofFn fun i=>(g i).2).length=len:=by simp
  have hsz:∀(i:Nat)(u:Value),(List.ofFn fun i=>(g i).2)[i]?=some u→∃h:i<len,u=(g ⟨i,h⟩).2:=by
   intro i u hu
   obtain⟨h1,h2⟩:=List.getElem?_eq_some_iff.1 hu
   rw[hvl] at h1
   exact⟨h1,by rw[←h2];simp⟩
  have hcell:∀i:Fin len,(cellsOf (g i).2).length=size∧∀j u,(cellsOf (g i).2)[j]?=some u→W.cell? ((a.add (i.1 * size)).add j)=some u:=by
   intro i
   have h2:=World.cells?_some (hg i).2.1
   refine⟨h2.2.1,fun j u hu=>?_⟩
   have hj:=(List.getElem?_eq_some_iff.1 hu).1
   rw[←hu]
   exact h2.2.2 j (by rw[←h2.2.1];exact hj)
  have hm:∀(i:Nat)(u:Value),(List.ofFn fun i=>(g i).2)[i]?=some u→(cellsOf u).length=size:=by
   intro i u hu
   obtain⟨h1,rfl⟩:=hsz i u hu
   exact (hcell ⟨i,h1⟩).1
  refine⟨some a,cap,List.ofFn fun i=>(g i).1,by rw[hll],⟨List.ofFn fun i=>(g i).2,by rw[hll,hvl],?_,?_⟩,by rw[hll];exact hl,?_⟩
  ·have hlens:((List.ofFn fun i=>(g i).2).flatMap cellsOf).length=len * size:=by
    have:∀(l:List Value),(∀u∈l,(cellsOf u).length=size)→(l.flatMap cellsOf).length=l.length * size:=by
     intro l
     induction l with
     |nil=>intro _;simp
     |cons x r ih=>intro h;rw[List.flatMap_cons,bD,ih (fun u hu=>h u (List.mem_cons_of_mem _ hu)),h x (fO ..),fM,Nat.succ_mul];omega
    rw[this _ (fun u hu=>by obtain⟨i,hi,rfl⟩:=List.getElem_of_mem hu;exact hm i _ (dD hi)),hvl]
   rw[hll]
   refine⟨hlens,fun h0=>?_⟩
   have lg:=flatN hm
   have hc0:=hcell ⟨0,h0⟩
   have hz:0<(cellsOf (g ⟨0,h0⟩).2).length:=by rw[hc0.1];exact hpos
   have hsp:=hc0.2 0 _ (dD hz)
   have key:∀j u,((List.ofFn fun i=>(g i).2).flatMap cellsOf)[j]?=some u→W.cell? (a.add j)=some u:=by
    intro j u hu
    have hj:=(List.getElem?_eq_some_iff.1 hu).1
    rw[hlens] at hj
    have hq:j / size<len:=Nat.div_lt_of_lt_mul (by rw[Nat.mul_comm];exact hj)
    have hr:j % size<size:=Nat.mod_lt _ hpos
    have e:=lg (j / size) (j % size) _ (by rw[dD (by rw[hvl];exact hq)]) hr
    rw[Nat.div_add_mod' j size] at e
    rw[e] at hu
    simp only[List.getElem_ofFn] at hu
    have:=(hcell ⟨j / size,hq⟩).2 _ _ hu
    rw[Go.Deep.add_add,Nat.div_add_mod' j size] at this
    exact this
   have hk0:=key 0 _ (dD (by rw[hlens];exact Nat.mul_pos h0 hpos))
   obtain⟨b,o,s⟩:=a
   have hs:s=none:=by simpa [Addr.add] using World.cell?_spot hk0
   subst hs
   refine⟨b,o,rfl,?_,fun j u hu=>?_⟩
   ·have:=key 0 _ (by rw[dD (by rw[hlens];exact Nat.mul_pos h0 hpos)])
    rw[Go.WideShapes.add_plain] at this
    exact World.block_lt_of_cell? W _ this
   ·rw[←Go.WideShapes.add_plain];exact key j u hu
  ·intro i x v hx hv
   obtain⟨h1,rfl⟩:=hsz i v hv
   obtain⟨h2,h3⟩:=List.getElem?_eq_some_iff.1 hx
   have:x=(g ⟨i,h1⟩).1:=by rw[←h3];simp
   rw[this]
   exact (hg ⟨i,h1⟩).1
  ·simp only[Rows.uptoBulk]
   have:=bulk_map f (List.ofFn fun i=>(g i).1) elems (by rw[hll,hlen]) (fun i h1 h2=>by
    have:=(hg ⟨i,by rw[hll] at h1;exact h1⟩).2.2
    simpa using this)
   omega
theorem za{α:Type}{q:α→Value}(hq:∀a,cellsOf (q a)=[q a]){w:World}{S:Nat→Prop}{A:Option Addr}{l:List α}(h:aO (fun a v=>v=q a) w S 1 A l):ak w S 1 A l.length (l.map q):=by
 obtain⟨vs,h1,h2,h3⟩:=h
 have e:vs=l.map q:=by
  apply List.ext_getElem (by simpa using h1)
  intro i a b
  have hi:i<l.length:=by simpa using b
  rw[h3 i l[i] vs[i] (dD hi) (dD a)];simp
 have e2:vs.flatMap cellsOf=l.map q:=by
  rw[e]
  clear h1 h2 h3 e
  induction l with
  |nil=>rfl
  |cons x r ih=>rw[List.map_cons,List.flatMap_cons,hq,ih];rfl
 rw[e2] at h2
 exact h2
theorem sum_one{α:Type}(l:List α):(l.map fun _=>1).sum=l.length:=by
 induction l with
 |nil=>rfl
 |cons x r ih=>simp only[List.map_cons,List.sum_cons,ih,fM];omega
theorem openInts{n:Nat}{cs:List Value}{y:DataW H × List MemPlace}(h:DataW.trod enc prog W 0 sp held n 23 cs=some y):
  ∃(A:Option Addr)(cap:Nat)(l:List Int),cs=[.slice A l.length cap]∧ak W (·<W.heap.size) 1 A l.length (l.map (Value.int .i64))∧l.length≤cap∧l.length+1≤Rows.uptoBulk y.1:=by
 obtain⟨A,cap,l,h1,h2,h3,h4⟩:=qY (Q:=fun a v=>v=.int .i64 a) (f:=fun _=>1) underlying23 (size:=1) (by kernel_rfl) (by decide) (fun n' cs x _ hx=>by
  obtain⟨z,rfl,rfl,_⟩:=DataW.trod_int underlying3 hx
  exact⟨z,_,rfl,rfl,by simp[Rows.uptoBulk]⟩) h
 exact⟨A,cap,l,h1,za (fun _=>rfl) h2,h3,by rw[sum_one] at h4;exact h4⟩
def aZ(l:List ByteArray):Nat:=(l.map fun s=>s.size+1).sum
theorem vY{n:Nat}{cs:List Value}{y:DataW H × List MemPlace}(h:DataW.trod enc prog W 0 sp held n 32 cs=some y):
  ∃(A:Option Addr)(cap:Nat)(l:List ByteArray),cs=[.slice A l.length cap]∧ak W (·<W.heap.size) 1 A l.length (l.map Value.string)∧l.length≤cap∧aZ l+1≤Rows.uptoBulk y.1:=by
 obtain⟨A,cap,l,h1,h2,h3,h4⟩:=qY (Q:=fun a v=>v=.string a) (f:=fun s=>s.size+1) underlying32 (size:=1) (by kernel_rfl) (by decide) (fun n' cs x _ hx=>by
  obtain⟨z,rfl,rfl,_⟩:=DataW.trod_string underlying9 hx
  exact⟨z,_,rfl,rfl,by simp[Rows.uptoBulk]⟩) h
 exact⟨A,cap,l,h1,za (fun _=>rfl) h2,h3,h4⟩
theorem list5{α:Type}{l:List α}(h:l.length=5):∃a b c d e,l=[a,b,c,d,e]:=by
 match l,h with
 |[a,b,c,d,e],_=>exact⟨a,b,c,d,e,rfl⟩
theorem list6{α:Type}{l:List α}(h:l.length=6):∃a b c d e f,l=[a,b,c,d,e,f]:=by
 match l,h with
 |[a,b,c,d,e,f],_=>exact⟨a,b,c,d,e,f,rfl⟩
theorem Ej(l:List Tm):dG l=(l.map ax).sum:=by
 induction l with
 |nil=>rfl
 |cons t r ih=>rw[dG,ih];rfl
theorem openTm:∀(n:Nat)(cs:List Value)(x:DataW H × List MemPlace),DataW.trod enc prog W 0 sp held n 26 cs=some x→
  ∃(t:Tm)(v:Value),dX W (·<W.heap.size) t v∧cs=cellsOf v∧ax t≤Rows.uptoBulk x.1:=by
 intro n
 induction n using Nat.strongRecOn with
 |ind n ih=>
  intro cs x h
  obtain⟨xs,m,rfl,rfl,hl,hlen,hf⟩:=DataW.trod_struct underlying26 h
  rw[show prog.cellsOf 26=5 by kernel_rfl] at hl
  obtain⟨c0,c1,c2,c3,c4,rfl⟩:=list5 hl
  obtain⟨y0,y1,y2,y3,y4,rfl⟩:=list5 hlen
  have h0:DataW.trod enc prog W 0 sp held m 3 [c0]=some y0:=hf 0 _ rfl
  have h1:DataW.trod enc prog W 0 sp held m 9 [c1]=some y1:=hf 1 _ rfl
  have h2:DataW.trod enc prog W 0 sp held m 3 [c2]=some y2:=hf 2 _ rfl
  have h3:DataW.trod enc prog W 0 sp held m 23 [c3]=some y3:=hf 3 _ rfl
  have h4:DataW.trod enc prog W 0 sp held m 24 [c4]=some y4:=hf 4 _ rfl
  obtain⟨op,e0,rfl,_⟩:=DataW.trod_int underlying3 h0
  obtain⟨name,e1,rfl,_⟩:=DataW.trod_string underlying9 h1
  obtain⟨need,e2,rfl,_⟩:=DataW.trod_int underlying3 h2
  obtain⟨wA,wc,ws,e3,hw,hwc,hws⟩:=openInts h3
  obtain⟨kA,kc,kids,e4,⟨vs,k1,k2,k3⟩,hkc,hks⟩:=qY (Q:=dX W (·<W.heap.size)) (f:=ax) underlying24 (size:=5) (by kernel_rfl) (by decide) (fun n' cs x hn hx=>ih n' (by omega) cs x hx) h4
  simp only[List.cons.injEq,and_true] at e0 e1 e2 e3 e4
  subst e0 e1 e2 e3 e4
  refine⟨.mk op name need ws kids,_,.mk op name need ws kids wA kA wc kc vs hw hwc k2 hkc k1 k3,rfl,?_⟩
  rw[ax,Ej]
  simp only[List.map_cons,List.map_nil,Rows.uptoBulk,Rows.uptoBulkAll]
  have:name.data.toList.length=name.size:=by simp
  omega
def dJ(f:Ft):Nat:=f.name.size+aZ f.aI+aZ f.aB+1
theorem openFt(n:Nat)(cs:List Value)(x:DataW H × List MemPlace)(h:DataW.trod enc prog W 0 sp held n 68 cs=some x):
  ∃(f:Ft)(v:Value),ng W (·<W.heap.size) f v∧cs=cellsOf v∧dJ f≤Rows.uptoBulk x.1:=by
 obtain⟨xs,m,rfl,rfl,hl,hlen,hf⟩:=DataW.trod_struct underlying68 h
 rw[show prog.cellsOf 68=6 by kernel_rfl] at hl
 obtain⟨c0,c1,c2,c3,c4,c5,rfl⟩:=list6 hl
 obtain⟨y0,y1,y2,y3,y4,y5,rfl⟩:=list6 hlen
 have h0:DataW.trod enc prog W 0 sp held m 3 [c0]=some y0:=hf 0 _ rfl
 have h1:DataW.trod enc prog W 0 sp held m 9 [c1]=some y1:=hf 1 _ rfl
 have h2:DataW.trod enc prog W 0 sp held m 3 [c2]=some y2:=hf 2 _ rfl
 have h3:DataW.trod enc prog W 0 sp held m 3 [c3]=some y3:=hf 3 _ rfl
 have h4:DataW.trod enc prog W 0 sp held m 32 [c4]=some y4:=hf 4 _ rfl
 have h5:DataW.trod enc prog W 0 sp held m 32 [c5]=some y5:=hf 5 _ rfl
 obtain⟨op,e0,rfl,_⟩:=DataW.trod_int underlying3 h0
 obtain⟨name,e1,rfl,_⟩:=DataW.trod_string underlying9 h1
 obtain⟨byz,e2,rfl,_⟩:=DataW.trod_int underlying3 h2
 obtain⟨iw,e3,rfl,_⟩:=DataW.trod_int underlying3 h3
 obtain⟨bA,bc,bl,e4,hb,hbc,hbs⟩:=vY h4
 obtain⟨cA,cc,cl,e5,hc,hcc,hcs⟩:=vY h5
 simp only[List.cons.injEq,and_true] at e0 e1 e2 e3 e4 e5
 subst e0 e1 e2 e3 e4 e5
 refine⟨⟨op,name,byz,iw,bl,cl⟩,_,⟨bA,bc,cA,cc,rfl,hb,hbc,hc,hcc⟩,rfl,?_⟩
 simp only[dJ,List.map_cons,List.map_nil,Rows.uptoBulk,Rows.uptoBulkAll]
 have:name.data.toList.length=name.size:=by simp
 omega
def aW(d:Dc):Nat:=d.name.size+aZ d.names+(d.faults.map dJ).sum+ax d.term+d.proto.size+ax d.read+ax d.write+d.use.size+1
theorem openDc(n:Nat)(cs:List Value)(x:DataW H × List MemPlace)(h:DataW.trod enc prog W 0 sp held n 35 cs=some x):
  ∃(d:Dc)(v:Value),dS W (·<W.heap.size) d v∧cs=cellsOf v∧aW d≤Rows.uptoBulk x.1:=by
 obtain⟨xs,m,rfl,rfl,hl,hlen,hf⟩:=DataW.trod_struct underlying35 h
 rw[show prog.cellsOf 35=22 by kernel_rfl] at hl
 have hlen':xs.length=10:=hlen
 obtain⟨c0,c1,c2,c3,c4,t0,t1,t2,t3,t4,c5,r0,r1,r2,r3,r4,w0,w1,w2,w3,w4,c6,rfl⟩:∃c0 c1 c2 c3 c4 t0 t1 t2 t3 t4 c5 r0 r1 r2 r3 r4 w0 w1 w2 w3 w4 c6,cs=[c0,c1,c2,c3,c4,t0,t1,t2,t3,t4,c5,r0,r1,r2,r3,r4,w0,w1,w2,w3,w4,c6]:=by
  match cs,hl with
  |[c0,c1,c2,c3,c4,t0,t1,t2,t3,t4,c5,r0,r1,r2,r3,r4,w0,w1,w2,w3,w4,c6],_=>exact⟨_,_,_,_,_,_,_,_,_,_,_,_,_,_,_,_,_,_,_,_,_,_,rfl⟩
 obtain⟨y0,y1,y2,y3,y4,y5,y6,y7,y8,y9,rfl⟩:∃y0 y1 y2 y3 y4 y5 y6 y7 y8 y9,xs=[y0,y1,y2,y3,y4,y5,y6,y7,y8,y9]:=by
  match xs,hlen' with
  |[y0,y1,y2,y3,y4,y5,y6,y7,y8,y9],_=>exact⟨_,_,_,_,_,_,_,_,_,_,rfl⟩
 have h0:DataW.trod enc prog W 0 sp held m 3 [c0]=some y0:=hf 0 _ rfl
 have h1:DataW.trod enc prog W 0 sp held m 3 [c1]=some y1:=hf 1 _ rfl
 have h2:DataW.trod enc prog W 0 sp held m 9 [c2]=some y2:=hf 2 _ rfl
 have h3:DataW.trod enc prog W 0 sp held m 32 [c3]=some y3:=hf 3 _ rfl
 have h4:DataW.trod enc prog W 0 sp held m 33 [c4]=some y4:=hf 4 _ rfl
 have h5:DataW.trod enc prog W 0 sp held m 26 [t0,t1,t2,t3,t4]=some y5:=hf 5 _ rfl
 have h6:DataW.trod enc prog W 0 sp held m 9 [c5]=some y6:=hf 6 _ rfl
 have h7:DataW.trod enc prog W 0 sp held m 26 [r0,r1,r2,r3,r4]=some y7:=hf 7 _ rfl
 have h8:DataW.trod enc prog W 0 sp held m 26 [w0,w1,w2,w3,w4]=some y8:=hf 8 _ rfl
 have h9:DataW.trod enc prog W 0 sp held m 9 [c6]=some y9:=hf 9 _ rfl
 obtain⟨kind,e0,rfl,_⟩:=DataW.trod_int underlying3 h0
 obtain⟨line,e1,rfl,_⟩:=DataW.trod_int underlying3 h1
 obtain⟨name,e2,rfl,_⟩:=DataW.trod_string underlying9 h2
 obtain⟨nA,nc,nl,e3,hn,hnc,hns⟩:=vY h3
 obtain⟨fA,fc,fl,e4,hF,hfc,hfs⟩:=qY (Q:=ng W (·<W.heap.size)) (f:=dJ) underlying33 (size:=6) (by kernel_rfl) (by decide) (fun n' cs x _ hx=>openFt n' cs x hx) h4
 obtain⟨tt,vt,ht,e5,hts⟩:=openTm _ _ _ h5
 obtain⟨proto,e6,rfl,_⟩:=DataW.trod_string underlying9 h6
 obtain⟨tr,vr,hr,e7,hrs⟩:=openTm _ _ _ h7
 obtain⟨tw,vw,hw,e8,hws⟩:=openTm _ _ _ h8
 obtain⟨use,e9,rfl,_⟩:=DataW.trod_string underlying9 h9
 obtain⟨_,_,_,_,_,_,_,_,_,rfl⟩:=ht.form
 obtain⟨_,_,_,_,_,_,_,_,_,rfl⟩:=hr.form
 obtain⟨_,_,_,_,_,_,_,_,_,rfl⟩:=hw.form
 simp only[cellsOf,Value.cells,List.cons.injEq,and_true] at e0 e1 e2 e3 e4 e5 e6 e7 e8 e9
 obtain⟨rfl,rfl,rfl,rfl,rfl⟩:=e5
 obtain⟨rfl,rfl,rfl,rfl,rfl⟩:=e7
 obtain⟨rfl,rfl,rfl,rfl,rfl⟩:=e8
 subst e0 e1 e2 e3 e4 e6 e9
 refine⟨⟨kind,line,name,nl,fl,tt,proto,tr,tw,use⟩,_,⟨nA,nc,fA,fc,_,_,_,rfl,hn,hnc,hF,hfc,ht,hr,hw⟩,rfl,?_⟩
 simp only[aW,List.map_cons,List.map_nil,Rows.uptoBulk,Rows.uptoBulkAll]
 have a1:name.data.toList.length=name.size:=by simp
 have a2:proto.data.toList.length=proto.size:=by simp
 have a3:use.data.toList.length=use.size:=by simp
 omega
theorem Ij{b0:Nat}{v:Value}{d:DataW H}{p:List MemPlace}(hv:Value.okWide prog W .any b0 22 v)(h:DataW.Trod enc prog W 0 sp held 22 v d p):
  ∃(A:Option Addr)(c:Nat)(l:List Dc),v=.slice A l.length c∧aO (dS W (·<W.heap.size)) W (·<W.heap.size) 22 A l∧l.length≤c∧(l.map aW).sum+1≤Rows.uptoBulk d:=by
 obtain⟨a0,len,cap,rfl⟩:=okWide_slice underlying22 hv
 obtain⟨n,hn⟩:=h
 obtain⟨A,c,l,e,h1,h2,h3⟩:=qY (Q:=dS W (·<W.heap.size)) (f:=aW) underlying22 (size:=22) (by kernel_rfl) (by decide) (fun n' cs x _ hx=>openDc n' cs x hx) hn
 simp only[Value.cells,List.cons.injEq,and_true] at e
 exact⟨A,c,l,e,h1,h2,h3⟩
end
end
section
open Go.ChangeShapes Go.WideShapes Go.ChangeAt Go.RowKit
open _root_.Go.Proofs.Tryz
theorem laidOut:laidOutB prog=true:=by kernel_rfl
theorem zW{H:Type}{enc:TypeId × Value→H}{W W':World}(hb:Below W.heap.size W W')(sp:Nat→Bool):
  ∀{ts:List TypeId}{vs:List Value}{ds:List (DataW H)}{ps:List MemPlace},(ts.all fun t=>prog.readableRec t&&decide (t<prog.types.size))=true→DataW.TrodAll enc prog W 0 (fun _=>true) true ts vs ds ps→(∀x∈ps,x.block<W.heap.size)→(∀x∈ps,sp x.block=true)→
   DataW.TrodAll enc prog W' 0 sp true ts vs ds ps:=by
 intro ts
 induction ts with
 |nil=>
  intro vs ds ps _ h _ _
  obtain⟨rfl,rfl,rfl⟩:=trodAll_nil h
  exact trodAll_mk0
 |cons t ts ih=>
  intro vs ds ps hr h hlt hsp
  obtain⟨v,vs',d,ds',p,q,rfl,rfl,rfl,h1,h2⟩:=trodAll_cons h
  simp only[List.all_cons,Bool.and_eq_true,decide_eq_true_eq] at hr
  refine trodAll_cons_mk (WideElems.Trod_stays laidOut hr.1.1 hr.1.2 h1 (fun x hx=>hb.same (hlt x (dO _ hx))) (fun x hx=>hsp x (dO _ hx))) (ih (by simpa using hr.2) h2 (fun x hx=>hlt x (List.mem_append_right _ hx)) (fun x hx=>hsp x (List.mem_append_right _ hx)))
theorem close_law{H:Type}{enc:TypeId × Value→H}{f:Func}{s:ChangeSpec}{W W':World}{args:Array Value}{ds:List (DataW H)}{before:List MemPlace}
  (hread:(f.params.toList.all fun t=>prog.readableRec t&&decide (t<prog.types.size))=true) (hres:f.resultTypes=#[4]) (hv:s.vars=[])
  (hW:DataW.Whole enc prog f.params.toList s.vars false W args.toList ds [] before) (hfn:s.fn H (ds++[])={ results:=[.lit (.bool true)],args:=ds,vars:=[] }) (hb:Below W.heap.size W W'):
  s.post enc prog f false true false false W args (.bool true) W':=by
 have hW':=hW
 obtain⟨p,q,hA,hV,rfl,hfz,hnd⟩:=hW
 rw[hv] at hV
 obtain⟨_,rfl⟩:=trodVars_none hV
 refine Aq (pa:=p) (pv:=[]) hW' ?_ ?_ ?_ rfl hb ?_
 ·intro b sp hd
  rw[hfn,hres]
  exact trodAll_cons_mk (shut_bool underlying4 _) trodAll_mk0
 ·intro sp hsp
  rw[hfn]
  exact zW hb sp hread hA (fun x hx=>hW'.lt x (by simpa using hx)) (fun x hx=>hsp x (by simpa using hx))
 ·intro sp _
  rw[hfn,hv]
  rfl
 ·exact ok_one hres rfl (okWide_bool_mk underlying4 _)
end
end Go.Proofs.YtmohibkomlhlaaaGreatDoor
