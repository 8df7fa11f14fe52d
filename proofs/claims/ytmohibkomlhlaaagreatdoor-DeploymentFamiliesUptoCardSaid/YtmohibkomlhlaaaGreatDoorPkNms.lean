/- The contracts of Names and of Size: the names in a term, in order, of the program and of the reference; and the size and depth of a term. Terms of a size up to a bound. The contracts of slices.Grow (at nil) and slices.Concat, for strings: a new row of all strings. Fewer strings than a bound. The contracts of the library's functions at this seat's program, as the kit's tool lays them (lay-shelf, lay-plain); each by one application. The contracts of the library's functions at this seat's program, as the kit's tool lays them (lay-shelf, lay-plain); each by one application. -/
import Derived.Test.YtmohibkomlhlaaaGreatDoorPkFmta
import Derived.Laws.Append
set_option maxRecDepth 100000
set_option maxHeartbeats 8000000
namespace Go.Proofs.YtmohibkomlhlaaaGreatDoor
open Go.RowKit
open _root_.Go.Proofs.Tryz
theorem Gl(w:World)(ty:TypeId)(base:Nat)(v:Value)(n:Nat)(xs:List Value)(hown:w.ownsRow base 9 1 v n xs)(S:Nat→Prop)(A:Option Addr)(c:Nat)(ss:List ByteArray)(hr:ak w S 1 A ss.length (aC ss))
  (hn:n≤1000000000000) (hm:ss.length≤1000000000000) (hbase:base≤w.heap.size):
  ∃v' w',(Builtin.append_ #[32,32] ty #[v,.slice A ss.length c]).run prog w=.ok v' w'∧w'.ownsRow base 9 1 v' (n+ss.length) (xs++aC ss)∧w.grownBy w' v.ownBlock∧(v'.ownBlock=v.ownBlock∨v'.ownBlock=some w.heap.size):=by
 obtain⟨i0,hi,hz0,hz1,hz2⟩:=info_parts AY
 have hone:∀u∈aC ss,u.oneCell'=true:=by
  intro u hu
  obtain⟨s,_,rfl⟩:=List.mem_map.1 hu
  rfl
 cases A with
 |none=>
  have h0:ss=[]:=by
   rcases Nat.eq_zero_or_pos ss.length with h0|h0
   ·exact List.eq_nil_of_length_eq_zero h0
   ·obtain⟨g,o,e,_⟩:=hr.2 h0
    cases e
  subst h0
  refine⟨v,w,?_,by simpa [aC] using hown,aJ _ _,Or.inl rfl⟩
  have ht:=underlying32
  rcases hown.2 with ⟨rfl,rfl⟩|⟨g,cap,cur,rfl,_,_,hnc,_⟩
  ·simp[Builtin.append_,run_underlying ht,sizeOf,typeInfo,hi,Builtin.lenOf,Builtin.firstCells]
  ·simp[Builtin.append_,run_underlying ht,sizeOf,typeInfo,hi,Builtin.lenOf,Builtin.firstCells,hnc,storeCells]
 |some ad=>
  have hc:∀j u,(aC ss)[j]?=some u→w.cell? (ad.add j)=some u:=by
   intro j u hu
   have hp:0<ss.length:=by
    have:=(List.getElem?_eq_some_iff.1 hu).1
    simp[aC] at this;omega
   obtain⟨g,o,e,_,h⟩:=hr.2 hp
   cases e
   rw[Go.WideShapes.add_plain];exact h j u hu
  obtain⟨v',w',h1,h2,h3,_,h5⟩:=run_append_own_at (P:=prog) w base 32 ty 9 i0 (.string ByteArray.empty) 1 16 underlying32 hi hz0 hz1 hz2 rfl (by decide) v n xs hown ad ss.length c (aC ss) (by simp[aC]) hc hone (by unfold maxLen;omega) (by omega) hbase
  exact⟨v',w',h1,h2,h3,h5⟩
theorem jU(w:World){ops:Array Oper}{rest:List Oper}{o:Oper}{a:Act}{Q:Exit→Act→World→Prop}(hgd:o.guard=none)(s x:Operand)
  (ho:o.op=.call { callee:=.builtin .append,args:=#[s,x],argTypes:=#[32,32] })
  (base:Nat) (v:Value) (n:Nat) (xs:List Value) (hown:w.ownsRow base 9 1 v n xs) (hs:a.eval s=v)
  (S:Nat→Prop) (A:Option Addr) (m c:Nat) (ss:List ByteArray) (hx:a.eval x=.slice A m c) (hmm:m=ss.length) (hr:ak w S 1 A ss.length (aC ss))
  (hn:n≤1000000000000) (hm:ss.length≤1000000000000) (hbase:base≤w.heap.size)
  (h:∀v' w',w'.ownsRow base 9 1 v' (n+ss.length) (xs++aC ss)→w.grownBy w' v.ownBlock→(v'.ownBlock=v.ownBlock∨v'.ownBlock=some w.heap.size)→wpList prog ops Q rest (a.put o.dst v') w'):
  wpList prog ops Q (o::rest) a w:=by
 subst hmm
 refine wpList_plain hgd fun _ hK=>?_
 obtain⟨v',w',h1,h2,h3,h4⟩:=Gl w o.type base v n xs hown S A c ss hr hn hm hbase
 unfold Oper.wp execOp
 simp only[ho,resolve,invoke,builtin,Sem.run_bind,Sem.run_pure,Result.andThen_ok,List.map_toArray,List.map_cons,List.map_nil,hs,hx,h1]
 exact hK _ _ (h v' w' h2 h3 h4)
theorem qJ(l:List Tm)(k:Nat)(h:k<l.length):dA (l.take (k+1))=dA (l.take k)++fT l[k]:=by
 rw[jh,jh,cO h,List.flatMap_append];simp
mutual
theorem jy:∀t:Tm,(fT t).length≤ax t
 |.mk op name need ws kids=>by
  have h:=pW kids
  rw[fT,ax,bD]
  have:(if name.size=0 then ([]:List ByteArray) else [name]).length≤1:=by split<;>simp
  omega
theorem pW:∀l:List Tm,(dA l).length≤dG l
 |[]=>by simp[dA]
 |t::r=>by
  have h1:=jy t
  have h2:=pW r
  rw[dA,dG,bD];omega
end
theorem qI(l:List Tm)(k:Nat):(dA (l.take k)).length≤dG l:=by
 have h:=pW l
 have e:dA l=dA (l.take k)++dA (l.drop k):=by
  rw[jh,jh,jh,←List.flatMap_append,List.take_append_drop]
 rw[e,bD] at h
 omega
def ownName(name:ByteArray):List ByteArray:=if name.size=0 then [] else [name]
theorem G6(op:Int)(name:ByteArray)(need:Int)(ws:List Int)(kids:List Tm):fT (.mk op name need ws kids)=ownName name++dA kids:=by rw[fT];rfl
theorem yU(name:ByteArray):(ownName name).length≤1:=by unfold ownName;split<;>simp
def NmPost(ns:List ByteArray)(w:World)(e:Ending)(w':World):Prop:=∃(A:Option Addr)(c:Nat),e=.returned (.slice A ns.length c)∧ns.length≤c∧ak w' (w.heap.size≤·) 1 A ns.length (aC ns)∧Below w.heap.size w w'
def NmOk(f:FuncId)(t:Tm):Prop:=∀(v:Value)(w:World)(S:Nat→Prop),dX w S t v→(∀g,S g→g<w.heap.size)→ax t≤1000000000→Calls prog f #[v] w (NmPost (fT t) w)
theorem ET(t:Tm)(ih:∀k∈t.kids,NmOk 58 k):NmOk 58 t:=by
 intro v w S hv hS hsz
 have hss:=gQ t
 cases hv with
 |mk op nm need ws kids wA kA cw kc vs hw hwc hk hkc hl h=>
 have hss:ax (.mk op nm need ws kids)=1+nm.size+ws.length+dG kids:=hss
 have hkl:=lW kids
 have HSZ:=jI (show dG kids≤1000000000 by omega)
 have IH:=jI (show ∀k∈kids,NmOk 58 k from ih)
 have HL:=jI (show aO (dX w S) w S 5 kA kids from ⟨vs,hl,hk,h⟩)
 have hkb:kids.length≤1000000000:=by omega
 clear ih hw hk hl h hss hsz
 rw[G6]
 obtain⟨w0,hw0⟩:=kE (w.alloc (.cells #[.int .i64 op,.string nm,.int .i64 need,.slice wA ws.length cw,.slice kA kids.length kc] 26))
 have hb0:Below w.heap.size w w0:=by rw[hw0];exact (jQ _ _).alloc (aP _) _
 have hz0:w0.heap.size=w.heap.size+1:=by rw[hw0];simp
 have hr0:w0.heap[w.heap.size]?=some (.cells #[.int .i64 op,.string nm,.int .i64 need,.slice wA ws.length cw,.slice kA kids.length kc] 26 (0,0)):=by rw[hw0];exact jR w _
 have zk:w.heap.size+1≤w0.heap.size:=by omega
 have HW0:=jI hw0
 have HZ0:=jI hz0
 have HR0:=jI hr0
 obtain⟨c0,c1,c2,c3,c4,-⟩:=uL hr0
 clear hw0 hz0 hr0
 by_cases hn0:nm.size=0
 ·obtain rfl:nm=⟨#[]⟩:=by
   obtain⟨⟨l⟩⟩:=nm
   have:l=[]:=List.eq_nil_of_length_eq_zero (by simpa [ByteArray.size] using hn0)
   rw[this]
  have HE:=jI (show ownName ⟨#[]⟩=[] from rfl)
  clear hn0
  go_enter func58,ntmps58
  go_wp2
  rw[←HW0.out]
  go_loopw [3,4] (fun v x wr=>∃k:Nat,k≤kids.length∧x=.int .i64 k∧wr.ownsRow (w.heap.size+1) 9 1 v (ownName ⟨#[]⟩++dA (kids.take k)).length (aC (ownName ⟨#[]⟩++dA (kids.take k)))∧Below (w.heap.size+1) w0 wr) (fun _ x _=>kids.length-(intOf x).toNat)
  case atStart=>exact⟨0,cu _,rfl,World.ownsRow_nil _ _ _ _,jQ _ _⟩
  case round=>
   obtain⟨k,hk,rfl,hown,hb⟩:=hrel
   have hsr:=hb.size
   have hbw:Below w.heap.size w wr:=hb0.trans (hb.mono (by omega))
   have hr1:=(hb.block _ (by omega)).trans HR0.out
   obtain⟨c0,c1,c2,c3,c4,-⟩:=uL hr1
   clear hr1
   by_cases hlt:k<kids.length
   ·have hlr:=HL.out.keep (P':=dX wr S) (aj hbw hS) (fun _ _ h=>h.keep (aj hbw hS))
    obtain⟨g,o,op1,nm1,nd1,wA1,wn1,wc1,kA1,kn1,kc1,rfl,hSg,htm,k0,k1,k2,k3,k4,-⟩:=kG hlr hlt
    have hgs:g<wr.heap.size:=World.block_lt_of_cell? wr _ k0
    have hkI:(k:Int)<(kids.length:Int):=by omega
    have hk0:(0:Int)≤(k:Int):=by omega
    have hmem:kids[k]∈kids:=bQ hlt
    have hts:=eZ hmem
    have HC:=jI (fun(W:World)(hW:Below wr.heap.size wr W)=>IH.out _ hmem _ W S (htm.keep (aA hW)) (fun g hg=>by have:=hS g hg;have:=hbw.size;have:=hW.size;omega) (by have:=HSZ.out;omega))
    have hsn:=qJ kids k hlt
    have hln:=qI kids (k+1)
    rw[hsn,bD] at hln
    have hol:=yU ⟨#[]⟩
    obtain⟨ns,hns⟩:=kE (fT kids[k])
    rw[←hns] at HC hsn hln
    have HSN:=jI hsn
    have HBZ:=jI HSZ.out
    have hlen2:(ownName ⟨#[]⟩++dA (kids.take k)).length≤1000000001:=by rw[bD];have:=HSZ.out;omega
    have hlen3:ns.length≤1000000000:=by have:=HSZ.out;omega
    clear htm hlr hns hsn hln
    go_wp2_with fail
    refine (HC.out _ (jQ _ _)).mono ?_
    rintro e W2 ⟨A2,c2',rfl,hc2,hs2,hb2⟩
    skip
    have hb3:Below wr.heap.size wr W2:=hb2
    have hown2:=own_below hown hb3 (aP _)
    have hsW:=hb3.size
    clear k0 k1 k2 k3 k4 c0 c1 c2 c3 c4 hown hb2 HC
    go_wp2_with (at_builtin;refine jU W2 rfl (.tmp 20) (.tmp 26) rfl (w.heap.size+1) _ _ _ hown2 rfl _ A2 ns.length c2' ns rfl rfl hs2 (by omega) (by omega) (by omega) ?_;intro v' W3 hown3 hg3 _)
    have hbl:=aN hown2 hg3 (by omega)
    go_roundw
    case rel=>
     refine⟨k+1,by omega,by go_num,?_,hb.trans ((hb3.mono (by omega)).trans hbl)⟩
     rw[HSN.out,←List.append_assoc,bD (bs:=ns),show aC ((ownName ⟨#[]⟩++dA (kids.take k))++ns)=aC (ownName ⟨#[]⟩++dA (kids.take k))++aC ns by simp[aC]]
     exact hown3
    case measure=>simp[intOf];omega
   ·obtain rfl:k=kids.length:=by omega
    rw[List.take_length] at hown
    obtain⟨A9,c9,rfl,hc9⟩:=aD hown
    have hkI:¬(kids.length:Int)<(kids.length:Int):=by omega
    have HO:=jI hown
    clear hown
    go_wp2
    go_ret
    exact⟨A9,c9,by rw[bD];rfl,hc9,(ak.own HO.out).mono (fun g hg _=>by omega) (by decide),hbw⟩
 ·have HE:=jI (show ownName nm=[nm] by unfold ownName;rw[if_neg hn0])
  have hne2:=gP (show 0<nm.size by omega)
  have hne:=dK (show 0<nm.size by omega)
  clear hn0
  go_enter func58,ntmps58
  go_wp2_with (at_builtin;refine gK _ rfl (.tmp 8) (.tmp 11) rfl (w.heap.size+1) _ _ _ (World.ownsRow_nil _ _ _ _) rfl nm (by rw[o7];rfl) (by omega) (by rw[o7];omega) ?_;intro v' W1 hown1 hg1 _;rw[←HW0.out] at hg1;have hb1:Below (w.heap.size+1) w0 W1:=aN (World.ownsRow_nil w0 (w.heap.size+1) 9 1) hg1 zk;obtain⟨-,-,-,-,d4,-⟩:=uL ((hb1.block _ (by omega)).trans HR0.out))
  go_loopw [3,4] (fun v x wr=>∃k:Nat,k≤kids.length∧x=.int .i64 k∧wr.ownsRow (w.heap.size+1) 9 1 v (ownName nm++dA (kids.take k)).length (aC (ownName nm++dA (kids.take k)))∧Below (w.heap.size+1) w0 wr) (fun _ x _=>kids.length-(intOf x).toNat)
  case atStart=>exact⟨0,cu _,rfl,by rw[HE.out];exact hown1,hb1⟩
  case round=>
   obtain⟨k,hk,rfl,hown,hb⟩:=hrel
   have hsr:=hb.size
   have hbw:Below w.heap.size w wr:=hb0.trans (hb.mono (by omega))
   have hr1:=(hb.block _ (by omega)).trans HR0.out
   obtain⟨c0,c1,c2,c3,c4,-⟩:=uL hr1
   clear hr1
   by_cases hlt:k<kids.length
   ·have hlr:=HL.out.keep (P':=dX wr S) (aj hbw hS) (fun _ _ h=>h.keep (aj hbw hS))
    obtain⟨g,o,op1,nm1,nd1,wA1,wn1,wc1,kA1,kn1,kc1,rfl,hSg,htm,k0,k1,k2,k3,k4,-⟩:=kG hlr hlt
    have hgs:g<wr.heap.size:=World.block_lt_of_cell? wr _ k0
    have hkI:(k:Int)<(kids.length:Int):=by omega
    have hk0:(0:Int)≤(k:Int):=by omega
    have hmem:kids[k]∈kids:=bQ hlt
    have hts:=eZ hmem
    have HC:=jI (fun(W:World)(hW:Below wr.heap.size wr W)=>IH.out _ hmem _ W S (htm.keep (aA hW)) (fun g hg=>by have:=hS g hg;have:=hbw.size;have:=hW.size;omega) (by have:=HSZ.out;omega))
    have hsn:=qJ kids k hlt
    have hln:=qI kids (k+1)
    rw[hsn,bD] at hln
    have hol:=yU nm
    obtain⟨ns,hns⟩:=kE (fT kids[k])
    rw[←hns] at HC hsn hln
    have HSN:=jI hsn
    have HBZ:=jI HSZ.out
    have hlen2:(ownName nm++dA (kids.take k)).length≤1000000001:=by rw[bD];have:=HSZ.out;omega
    have hlen3:ns.length≤1000000000:=by have:=HSZ.out;omega
    clear htm hlr hns hsn hln
    go_wp2_with fail
    refine (HC.out _ (jQ _ _)).mono ?_
    rintro e W2 ⟨A2,c2',rfl,hc2,hs2,hb2⟩
    skip
    have hb3:Below wr.heap.size wr W2:=hb2
    have hown2:=own_below hown hb3 (aP _)
    have hsW:=hb3.size
    clear k0 k1 k2 k3 k4 c0 c1 c2 c3 c4 hown hb2 HC
    go_wp2_with (at_builtin;refine jU W2 rfl (.tmp 20) (.tmp 26) rfl (w.heap.size+1) _ _ _ hown2 rfl _ A2 ns.length c2' ns rfl rfl hs2 (by omega) (by omega) (by omega) ?_;intro v' W3 hown3 hg3 _)
    have hbl:=aN hown2 hg3 (by omega)
    go_roundw
    case rel=>
     refine⟨k+1,by omega,by go_num,?_,hb.trans ((hb3.mono (by omega)).trans hbl)⟩
     rw[HSN.out,←List.append_assoc,bD (bs:=ns),show aC ((ownName nm++dA (kids.take k))++ns)=aC (ownName nm++dA (kids.take k))++aC ns by simp[aC]]
     exact hown3
    case measure=>simp[intOf];omega
   ·obtain rfl:k=kids.length:=by omega
    rw[List.take_length] at hown
    obtain⟨A9,c9,rfl,hc9⟩:=aD hown
    have hkI:¬(kids.length:Int)<(kids.length:Int):=by omega
    have HO:=jI hown
    clear hown
    go_wp2
    go_ret
    exact⟨A9,c9,by rw[bD];rfl,hc9,(ak.own HO.out).mono (fun g hg _=>by omega) (by decide),hbw⟩
theorem wE(t:Tm):NmOk 58 t:=by
 have:∀(n:Nat)(t:Tm),ax t≤n→NmOk 58 t:=by
  intro n
  induction n with
  |zero=>
    intro t ht;have:0<ax t:=by (cases t;rw[ax];omega)
    omega
  |succ n ih=>intro t ht;exact ET t (fun k hk=>ih k (by have:=jw hk;omega))
 exact this _ t (aP _)
end Go.Proofs.YtmohibkomlhlaaaGreatDoor
namespace Go.Proofs.YtmohibkomlhlaaaGreatDoor
open Go.RowKit
open _root_.Go.Proofs.Tryz
theorem run_grow(w:World)(ty:TypeId)(n:Nat)(h0:0<n)(hn:n≤1000000000000):
  ∃cap w',(Builtin.append_ #[32,3] ty #[.slice none 0 0,.int .i64 n]).run prog w=.ok (.slice (some ⟨w.heap.size,0,none⟩) n cap) w'∧n≤cap∧
   w'.ownsRow w.heap.size 9 1 (.slice (some ⟨w.heap.size,0,none⟩) 0 cap) 0 []∧Below w.heap.size w w':=by
 obtain⟨i0,hi,hz0,hz1,hz2⟩:=info_parts AY
 have ht:=underlying32
 have hu:=underlying3
 have hn0:n≠0:=by omega
 have h63':¬(9223372036854775807<(n:Int)):=by omega
 have h48':¬(281474976710656<Builtin.nextslicecap n 0 * i0.bytes):=by rw[nextslicecap_zero h0,hz2];omega
 have hwr:IntKind.i64.wrap (n:Int)=n:=IntWalk.i64_in _ (by omega)
 have hb1:¬((n:Int)<0):=by omega
 have hb2:¬((281474976710656:Int)<(n:Int) * (i0.bytes:Int)):=by rw[hz2];omega
 have hge:=grownCap_ge w n 0 9
 have hcm:=grownCap_le_maxLen w n 0 9 (by unfold maxLen;omega)
 refine⟨grownCap w n 0 9,w.drew.alloc (.cells (Builtin.zeroCells #[.string ByteArray.empty] n++Builtin.zeroCells #[.string ByteArray.empty] (grownCap w n 0 9-n)) 9),?_,hge,⟨rfl,.inr ⟨w.heap.size,_,_,rfl,aP _,jR w.drew _,cu _,hcm,?_,by simp⟩⟩,?_⟩
 ·simp[Builtin.append_,run_underlying ht,run_underlying hu,sizeOf,typeInfo,zeroValue,hi,hz0,hz1,asInt,asIntOf,hwr,hb1,hb2,hn0,h63',h48',Question.forced,run_firstCells_none,newRow,grownCap,Value.cells]
 ·simp[size_zeroCells];omega
 ·exact (jQ w.heap.size w).drew.alloc (aP _) _
theorem wp_grow(w:World){ops:Array Oper}{rest:List Oper}{o:Oper}{a:Act}{Q:Exit→Act→World→Prop}(hgd:o.guard=none)(s x:Operand)
  (ho:o.op=.call { callee:=.builtin .append,args:=#[s,x],argTypes:=#[32,3] }) (n:Nat) (h0:0<n) (hn:n≤1000000000000) (hs:a.eval s=.slice none 0 0) (hx:a.eval x=.int .i64 n)
  (h:∀cap w',n≤cap→w'.ownsRow w.heap.size 9 1 (.slice (some ⟨w.heap.size,0,none⟩) 0 cap) 0 []→Below w.heap.size w w'→wpList prog ops Q rest (a.put o.dst (.slice (some ⟨w.heap.size,0,none⟩) n cap)) w'):
  wpList prog ops Q (o::rest) a w:=by
 refine wpList_plain hgd fun _ hK=>?_
 obtain⟨cap,w',h1,h2,h3,h4⟩:=run_grow w o.type n h0 hn
 unfold Oper.wp execOp
 simp only[ho,resolve,invoke,builtin,Sem.run_bind,Sem.run_pure,Result.andThen_ok,List.map_toArray,List.map_cons,List.map_nil,hs,hx,h1]
 exact hK _ _ (h cap w' h2 h3 h4)
theorem grow_any(n:Nat)(hn:n≤1000000000000)(w:World):
  Calls prog 162 #[.slice none 0 0,.int .i64 n] w fun e w'=>∃v,e=.returned v∧w'.ownsRow w.heap.size 9 1 v 0 []∧Below w.heap.size w w':=by
 have hwr:IntKind.i64.wrap (n:Int)=n:=IntWalk.i64_in _ (by omega)
 have hb1:¬((n:Int)<0):=by omega
 by_cases h0:0<n
 ·have hb2:(0:Int)<(n:Int):=by omega
  go_enter func162,ntmps162
  go_wp2_with (at_builtin;refine wp_grow w rfl (.tmp 20) (.tmp 21) rfl n h0 hn rfl rfl ?_;intro cap w3 hcap hown3 hb3;have hcI:(0:Int)≤(cap:Int):=by omega)
  go_ret
  exact⟨_,rfl,hown3,hb3⟩
 ·obtain rfl:n=0:=by omega
  go_enter func162,ntmps162
  go_wp2
  go_ret
  exact⟨_,rfl,World.ownsRow_nil _ _ _ _,jQ _ _⟩
def SlAt(w:World)(S:Nat→Prop)(x:List ByteArray)(v:Value):Prop:=∃A c,v=.slice A x.length c∧ak w S 1 A x.length (aC x)
theorem sH{w:World}{S:Nat→Prop}{x:List ByteArray}{v:Value}(h:SlAt w S x v):cellsOf v=[v]:=by
 obtain⟨A,c,rfl,-⟩:=h;rfl
theorem SlAt.keep{w w':World}{S:Nat→Prop}{x:List ByteArray}{v:Value}(h:SlAt w S x v)(hk:Kept S w w'):SlAt w' S x v:=by
 obtain⟨A,c,e,h⟩:=h;exact⟨A,c,e,h.keep hk⟩
theorem mY(ll:List (List ByteArray))(k:Nat):((ll.take k).flatten).length≤ll.flatten.length:=by
 conv=>rhs;rw[←List.take_append_drop k ll,List.flatten_append,bD]
 omega
theorem Di(ll:List (List ByteArray))(k:Nat)(h:k<ll.length):(ll.take (k+1)).flatten=(ll.take k).flatten++ll[k]:=by
 rw[cO h,List.flatten_append];simp
theorem JF(ll:List (List ByteArray))(A:Option Addr)(c:Nat)(w:World)(S:Nat→Prop)(hl:aO (SlAt w S) w S 1 A ll)(hS:∀g,S g→g<w.heap.size)(hll:ll.length≤1000000)(hn:ll.flatten.length≤1000000000):
  Calls prog 121 #[.slice A ll.length c] w fun e w'=>∃v,e=.returned v∧w'.ownsRow w.heap.size 9 1 v ll.flatten.length (aC ll.flatten)∧Below w.heap.size w w':=by
 have HL:=jI hl
 clear hl
 go_enter func121,ntmps121
 go_wp2
 go_loopw [3,11] (fun s x wr=>∃k:Nat,k≤ll.length∧x=.int .i64 k∧s=.int .i64 ((ll.take k).flatten.length:Nat)∧wr=w) (fun _ x _=>ll.length-(intOf x).toNat)
 case atStart=>exact⟨0,cu _,rfl,rfl,rfl⟩
 case round=>
  obtain⟨k,hk,rfl,rfl,hwq⟩:=hrel
  subst wr
  have hfl:=mY ll k
  by_cases hlt:k<ll.length
  ·obtain⟨g,o,v,rfl,hSg,hp,hc⟩:=dB (fun _ _ h=>by rw[sH h];rfl) HL.out hlt
   have hp2:=hp
   obtain⟨A2,c2,rfl,hs2⟩:=hp2
   have hc0:=hc 0 _ rfl
   rw[Nat.mul_one,Nat.add_zero] at hc0
   have hkI:(k:Int)<(ll.length:Int):=by omega
   have hk0:(0:Int)≤(k:Int):=by omega
   have hsn:=Di ll k hlt
   have hfl2:=mY ll (k+1)
   have hlen:(ll.take (k+1)).flatten.length=(ll.take k).flatten.length+ll[k].length:=by rw[hsn,bD]
   obtain⟨m,hm⟩:=kE (ll[k].length)
   obtain⟨q,hq⟩:=kE ((ll.take k).flatten.length)
   rw[←hm,←hq] at hlen
   rw[←hm] at hc0
   rw[←hq]
   rw[hlen] at hfl2
   have HLN:=jI hlen
   clear hp hs2 hc hsn hlen hm hq hfl
   have hwr:IntKind.i64.wrap ((q:Int)+(m:Int))=(q:Int)+(m:Int):=IntWalk.i64_in _ (by omega)
   have hng:¬((q:Int)+(m:Int)<0):=by omega
   go_wp2
   go_roundw
   case rel=>exact⟨k+1,by omega,by go_num,by rw[HLN.out];go_num,by trivial⟩
   case measure=>simp[intOf];omega
  ·obtain rfl:k=ll.length:=by omega
   have hkI:¬(ll.length:Int)<(ll.length:Int):=by omega
   rw[List.take_length]
   obtain⟨q,hq⟩:=kE ll.flatten.length
   rw[←hq] at hn ⊢
   have HG:=jI (grow_any q (by omega) w)
   have HQ:=jI hq
   clear hq hfl
   go_wp2_with fail
   refine HG.out.mono ?_
   rintro e w1 ⟨v1,rfl,hown1,hb1⟩
   have hs1:=hb1.size
   go_wp2
   go_loopw [6,27] (fun v x wr=>∃k:Nat,k≤ll.length∧x=.int .i64 k∧wr.ownsRow w.heap.size 9 1 v ((ll.take k).flatten.length) (aC (ll.take k).flatten)∧Below w.heap.size w wr) (fun _ x _=>ll.length-(intOf x).toNat)
   case atStart=>exact⟨0,cu _,rfl,by simpa [aC] using hown1,hb1⟩
   case round=>
    obtain⟨k,hk,rfl,hown,hb⟩:=hrel
    have hsr:=hb.size
    by_cases hlt:k<ll.length
    ·obtain⟨g,o,v2,rfl,hSg,hp,hc⟩:=dB (fun _ _ h=>by rw[sH h];rfl) (HL.out.keep (P':=SlAt wr S) (aj hb hS) (fun _ _ h=>h.keep (aj hb hS))) hlt
     have hp2:=hp
     obtain⟨A2,c2,rfl,hs2⟩:=hp2
     have hc0:=hc 0 _ rfl
     rw[Nat.mul_one,Nat.add_zero] at hc0
     have hkI2:(k:Int)<(ll.length:Int):=by omega
     have hk0:(0:Int)≤(k:Int):=by omega
     have hsn:=Di ll k hlt
     have hfl2:=mY ll (k+1)
     rw[←HQ.out] at hfl2
     rw[hsn,bD] at hfl2
     have HSN:=jI hsn
     have HS2:=jI hs2
     clear hp hc hsn hs2
     go_wp2_with (at_builtin;refine jU wr rfl (.tmp 31) (.tmp 32) rfl w.heap.size _ _ _ hown rfl S A2 _ c2 ll[k] rfl rfl HS2.out (by omega) (by omega) hsr ?_;intro v3 w3 hown3 hg3 hv3)
     go_roundw
     case rel=>
      refine⟨k+1,by omega,by go_num,?_,hb.trans (aN hown hg3 hsr)⟩
      rw[HSN.out,bD]
      have e:aC ((ll.take k).flatten++ll[k])=aC (ll.take k).flatten++aC ll[k]:=by simp[aC]
      rw[e];exact hown3
     case measure=>simp[intOf];omega
    ·obtain rfl:k=ll.length:=by omega
     go_wp2
     go_ret
     rw[List.take_length] at hown
     exact⟨_,rfl,hown,hb⟩
end Go.Proofs.YtmohibkomlhlaaaGreatDoor
namespace Go.Proofs
open Go.Shelf
open _root_.Go.Proofs.Tryz
def Tryz.lays110_ren:Go.Shelf.Ren:=⟨fun|110=>87|109=>47|n=>n,fun|31=>32|9=>9|4=>4|3=>3|0=>0|n=>n,fun|n=>n⟩
theorem Tryz.lays110:Go.Proofs.Lays.n110 prog Tryz.lays110_ren:={
 mixed:=by kernel_rfl
 f109:=func47.trans (congrArg some (by kernel_rfl))
 f110:=func87.trans (congrArg some (by kernel_rfl))
 t0:=underlying0
 a0:=Tryz.isAgg0
 z0:=Tryz.sizeOf0
 v0:=Tryz.zeroValue0
 t3:=underlying3
 a3:=Tryz.isAgg3
 z3:=Tryz.sizeOf3
 v3:=Tryz.zeroValue3
 t4:=underlying4
 a4:=Tryz.isAgg4
 z4:=Tryz.sizeOf4
 v4:=Tryz.zeroValue4
 t9:=underlying9
 a9:=Tryz.isAgg9
 z9:=Tryz.sizeOf9
 v9:=Tryz.zeroValue9
 t31:=underlying32
 a31:=Tryz.isAgg32
 z31:=Tryz.sizeOf32
 v31:=Tryz.zeroValue32 }
open Go.Lib in
theorem Tryz.slices_Contains_string(b off n c:Nat)(zs:List ByteArray)(x:ByteArray)(w:World)(hz:n≤zs.length)(hbig:n≤9223372036854775807)(hc:∀j,j<zs.length→w.cell? ⟨b,off+j,none⟩=some (.string (zs.getD j ByteArray.empty))):
  Calls prog 87 #[.slice (some ⟨b,off,none⟩) n c,.string x] w fun e w'=>e=.returned (.bool (Lib.containsS (zs.take n) x))∧w'=w:=Any.slices_Contains_string Tryz.lays110 b off n c zs x w hz hbig hc
end Go.Proofs
namespace Go.Proofs
open Go.Shelf
end Go.Proofs
