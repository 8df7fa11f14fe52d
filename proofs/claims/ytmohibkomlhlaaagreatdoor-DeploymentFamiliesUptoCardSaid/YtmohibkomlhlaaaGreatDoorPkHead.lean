/- A declaration's cells as a loop reads them. No condition. The contracts of the bg kind and find: the kind that a declaration declares, the kind of a name in a table. Tables of a length up to a bound. The contract of the bg Table: what declarations declare, in order. Declarations of a size up to a bound. -/
import Derived.Test.YtmohibkomlhlaaaGreatDoorPkTya
import Derived.Test.YtmohibkomlhlaaaGreatDoorPkEq
set_option maxRecDepth 100000
set_option maxHeartbeats 8000000
namespace Go.Proofs.YtmohibkomlhlaaaGreatDoor
section
open Go.RowKit
theorem j4{w:World}{S:Nat→Prop}{d:Dc}{v:Value}(h:dS w S d v):∃(cs:List Value)(nA:Option Addr)(nc:Nat),cs.length=22∧cs.toArray.all (·.oneCell')=true∧v=.agg cs.toArray∧
  cs[0]?=some (.int .i64 d.kind)∧cs[1]?=some (.int .i64 d.line)∧cs[2]?=some (.string d.name)∧cs[3]?=some (.slice nA d.names.length nc)∧cs[21]?=some (.string d.use)∧ak w S 1 nA d.names.length (aC d.names)∧d.names.length≤nc:=by
 obtain⟨nA,nc,fA,fc,vt,vr,vw,hv,h1,h2,-,-,h5,h6,h7⟩:=h
 obtain⟨o1,m1,d1,wA1,wn1,wc1,kA1,kn1,kc1,rfl⟩:=h5.form
 obtain⟨o2,m2,d2,wA2,wn2,wc2,kA2,kn2,kc2,rfl⟩:=h6.form
 obtain⟨o3,m3,d3,wA3,wn3,wc3,kA3,kn3,kc3,rfl⟩:=h7.form
 clear h5 h6 h7
 simp only[Value.cells,List.append_toArray,List.cons_append,List.nil_append] at hv
 refine⟨[.int .i64 d.kind,.int .i64 d.line,.string d.name,.slice nA d.names.length nc,.slice fA d.faults.length fc,.int .i64 o1,.string m1,.int .i64 d1,.slice wA1 wn1 wc1,.slice kA1 kn1 kc1,.string d.proto,.int .i64 o2,.string m2,.int .i64 d2,.slice wA2 wn2 wc2,.slice kA2 kn2 kc2,.int .i64 o3,.string m3,.int .i64 d3,.slice wA3 wn3 wc3,.slice kA3 kn3 kc3,.string d.use],nA,nc,rfl,all_oneCell_toArray ?_,hv,rfl,rfl,rfl,rfl,rfl,h1,h2⟩
 intro u hu
 simp only[List.mem_cons,List.not_mem_nil,or_false] at hu
 rcases hu with rfl|rfl|rfl|rfl|rfl|rfl|rfl|rfl|rfl|rfl|rfl|rfl|rfl|rfl|rfl|rfl|rfl|rfl|rfl|rfl|rfl|rfl<;>rfl
theorem aY{W:World}{b j:Nat}{cs:List Value}{T:TypeId}{u:Value}(h:W.heap[b]?=some (.cells cs.toArray T (0,0)))(hj:cs[j]?=some u):W.cell? ⟨b,j,none⟩=some u:=by
 rw[j5 W b j _ _ _ h];simpa using hj
theorem pY(a b:List ByteArray):aC (a++b)=aC a++aC b:=by simp[aC]
theorem zl{w:World}{b:Nat}{v0 v1 v2 v3 v4:Value}{t:TypeId}(h:w.heap[b]?=some (.cells #[v0,v1,v2,v3,v4] t (0,0))):w.cell? ⟨b,0,none⟩=some v0∧w.cell? ⟨b,1,none⟩=some v1∧w.cell? ⟨b,2,none⟩=some v2∧w.cell? ⟨b,3,none⟩=some v3∧w.cell? ⟨b,4,none⟩=some v4:=by
 obtain⟨h0,h1,h2,h3,h4,-⟩:=uL h
 exact⟨h0,h1,h2,h3,h4⟩
theorem F9(l:List Dc)(k:Nat)(h:k<l.length):l.take (k+1)=l.take k++[l[k]]:=cO h
theorem sum_takeA{α:Type}(f:α→Nat)(l:List α)(k:Nat):((l.take k).map f).sum≤(l.map f).sum:=by
 conv=>rhs;rw[←List.take_append_drop k l,List.map_append,List.sum_append]
 omega
theorem mD{α β:Type}(f:α→List β)(l:List α)(k:Nat):((l.take k).flatMap f).length≤(l.flatMap f).length:=by
 conv=>rhs;rw[←List.take_append_drop k l,List.flatMap_append,bD]
 omega
end
section
open Go.RowKit
open _root_.Go.Proofs.Tryz
def jN(t:List (ByteArray × Int)):List Value:=t.flatMap fun p=>[.string p.1,.int .i64 p.2]
theorem wu(t:List (ByteArray × Int))(p:ByteArray × Int):jN (t++[p])=jN t++[.string p.1,.int .i64 p.2]:=by simp[jN]
theorem Ip:∀(t:List (ByteArray × Int))(k:Nat)(h:k<t.length),(jN t)[k * 2]?=some (.string t[k].1)∧(jN t)[k * 2+1]?=some (.int .i64 t[k].2):=by
 intro t
 induction t with
 |nil=>intro k h;simp at h
 |cons p r ih=>
  intro k h
  cases k with
  |zero=>exact⟨rfl,rfl⟩
  |succ k=>
   have:=ih k (by simpa using h)
   have e:jN (p::r)=.string p.1::.int .i64 p.2::jN r:=rfl
   rw[e,show (k+1) * 2=k * 2+1+1 by omega]
   simpa using this
theorem zi:(prog.info? 172).map (fun i=>(i.zero,i.size,i.bytes))=some (some (.agg #[.string ByteArray.empty,.int .i64 0]),2,24):=by kernel_rfl
theorem Ib(w:World){ops:Array Oper}{rest:List Oper}{o:Oper}{a:Act}{Q:Exit→Act→World→Prop}(hgd:o.guard=none)(s x:Operand)
  (ho:o.op=.call { callee:=.builtin .append,args:=#[s,x],argTypes:=#[139,139] })
  (base:Nat) (v:Value) (n:Nat) (xs:List Value) (hown:w.ownsRow base 172 2 v n xs) (hs:a.eval s=v)
  (u:ByteArray) (k:Int) (hx:a.eval x=.slice (some ⟨w.heap.size,0,none⟩) 1 1)
  (hlim:n≤1000000000) (hbase:base≤w.heap.size)
  (h:∀v' w',w'.ownsRow base 172 2 v' (n+1) (xs++[.string u,.int .i64 k])→w.grownBy w' v.ownBlock→(v'.ownBlock=v.ownBlock∨v'.ownBlock=some (w.heap.size+1))→wpList prog ops Q rest (a.put o.dst v') w'):
  wpList prog ops Q (o::rest) a (w.alloc (.cells #[.string u,.int .i64 k] 172)):=by
 obtain⟨i0,hi,hz0,hz1,hz2⟩:=info_parts zi
 exact eB w hgd s x _ ho base 172 i0 _ 2 24 underlying139 hi hz0 hz1 hz2 rfl (by decide) v n xs hown hs [.string u,.int .i64 k] hx rfl (by simp[Value.oneCell']) (by omega) (by omega) hbase h
theorem He(w:World){ops:Array Oper}{o:Oper}{a:Act}{K:Act→World→Prop}{Q:Exit→Act→World→Prop}{E:Prop}(hgd:o.guard=none)(s x:Operand)
  (ho:o.op=.call { callee:=.builtin .append,args:=#[s,x],argTypes:=#[139,139] })
  (base:Nat) (v:Value) (n:Nat) (xs:List Value) (hown:w.ownsRow base 172 2 v n xs) (hs:a.eval s=v)
  (g cc:Nat) (u:ByteArray) (k:Int)
  (hblk:w.heap[g]?=some (.cells #[.string u,.int .i64 k] 172 (0,0))) (hx:a.eval x=.slice (some ⟨g,0,none⟩) 1 cc)
  (hlim:n≤1000000000) (hbase:base≤w.heap.size)
  (h:∀v' w',w'.ownsRow base 172 2 v' (n+1) (xs++[.string u,.int .i64 k])→w.grownBy w' v.ownBlock→K (a.put o.dst v') w'):
  if Region.wanted o (yielded ops a.tmps)=true then Oper.wp prog o a w K Q else E:=by
 obtain⟨i0,hi,hz0,hz1,hz2⟩:=info_parts zi
 have hcell:∀j u',[Value.string u,.int .i64 k][j]?=some u'→w.cell? ((⟨g,0,none⟩:Addr).add j)=some u':=by
  intro j u' hu
  have hadd:(⟨g,0,none⟩:Addr).add j=⟨g,j,none⟩:=by unfold Addr.add;split<;>simp_all
  rw[hadd,j5 _ g j _ _ (0,0) hblk]
  simpa using hu
 refine step_append_lies w hgd s x _ ho base 172 i0 _ 2 24 underlying139 hi hz0 hz1 hz2 rfl (by decide) v n xs hs hown ⟨g,0,none⟩ 1 cc _ hx rfl hcell (by simp[Value.oneCell']) (by omega) (by unfold maxLen;omega) (by omega) hbase w.heap.size rfl ?_
 intro g' cap w' h2 h3 h4 _
 exact h _ w' h2 h3
theorem kind_ref(d:Dc)(v:Value)(w:World)(S:Nat→Prop)(hd:dS w S d v):
  Calls prog 101 #[v] w fun e w'=>e=.returned (.int .i64 (dI d.kind))∧Below w.heap.size w w':=by
 obtain⟨cs,nA,nc,hcl,hone,rfl,c0,-⟩:=j4 hd
 have e0:(w.alloc (.cells cs.toArray 35)).cell? ⟨w.heap.size,0,none⟩=some (.int .i64 d.kind):=aY (jR w _) c0
 have hfin:=(jQ w.heap.size w).alloc (aP _) (.cells cs.toArray 35)
 obtain⟨k,hk⟩:=kE d.kind
 rw[←hk] at e0 ⊢
 clear hd c0 hcl hone hk
 by_cases h1:k=1
 ·subst h1
  go_enter func101,ntmps101
  go_wp2
  go_ret
  exact⟨rfl,hfin⟩
 by_cases h2:k=2
 ·subst h2
  go_enter func101,ntmps101
  go_wp2
  go_ret
  exact⟨rfl,hfin⟩
 by_cases h3:k=3
 ·subst h3
  go_enter func101,ntmps101
  go_wp2
  go_ret
  exact⟨rfl,hfin⟩
 by_cases h4:k=4
 ·subst h4
  go_enter func101,ntmps101
  go_wp2
  go_ret
  exact⟨rfl,hfin⟩
 by_cases h6:k=6
 ·subst h6
  go_enter func101,ntmps101
  go_wp2
  go_ret
  exact⟨rfl,hfin⟩
 have q1:(k==(1:Int))=false:=by rw[bP];exact h1
 have q2:(k==(2:Int))=false:=by rw[bP];exact h2
 have q3:(k==(3:Int))=false:=by rw[bP];exact h3
 have q4:(k==(4:Int))=false:=by rw[bP];exact h4
 have q6:(k==(6:Int))=false:=by rw[bP];exact h6
 have HK:=jI (show dI k=0 by unfold dI;rw[if_neg h1,if_neg h2,if_neg h3,if_neg h4,if_neg h6])
 clear h1 h2 h3 h4 h6
 go_enter func101,ntmps101
 go_wp2
 go_ret
 exact⟨by rw[HK.out];rfl,hfin⟩
section
variable {t:List (ByteArray × Int)} {A:Option Addr} {w:World} {S:Nat→Prop}
theorem EU(h:ak w S 2 A t.length (jN t)){k:Nat}(hk:k<t.length):∃g o,A=some ⟨g,o,none⟩∧w.cell? ⟨g,o+k * 2,none⟩=some (.string t[k].1)∧w.cell? ⟨g,o+k * 2+1,none⟩=some (.int .i64 t[k].2):=by
 obtain⟨g,o,e,-,hc⟩:=h.cells (by omega)
 obtain⟨h1,h2⟩:=Ip t k hk
 exact⟨g,o,e,hc _ _ h1,by rw[Nat.add_assoc];exact hc _ _ h2⟩
theorem ba_tl(a b:ByteArray):(a==b)=(a.toList==b.toList):=by
 rw[Bool.eq_iff_iff,eT,beq_iff_eq,ByteArray.toList_eq,ByteArray.toList_eq]
 exact⟨fun h=>by rw[h],fun h=>ByteArray.ext (Array.toList_inj.1 h)⟩
theorem Je(t:List (ByteArray × Int))(k:Nat)(h:k<t.length)(x:ByteArray):aQ (t.drop k) x=if t[k].1==x then t[k].2 else aQ (t.drop (k+1)) x:=by
 rw[fE h,aQ]
theorem find_ref(hs:ak w S 2 A t.length (jN t))(c:Nat)(x:ByteArray)(hl:t.length≤1000000000):
  Calls prog 72 #[.slice A t.length c,.string x] w fun e w'=>e=.returned (.int .i64 (aQ t x))∧w=w':=by
 have HS:=jI hs
 obtain⟨r,hr⟩:=kE (aQ t x)
 have HR0:=jI (show r=aQ (t.drop 0) x by rw[List.drop_zero];exact hr)
 rw[←hr]
 clear hs hr
 go_enter func72,ntmps72
 go_wp2
 go_loop [5] (fun i=>∃k:Nat,k≤t.length∧i=.int .i64 k∧Hid (r=aQ (t.drop k) x)) (fun i=>t.length-(intOf i).toNat)
 case atStart=>exact⟨0,cu _,rfl,HR0⟩
 case round=>
  obtain⟨k,hk,rfl,hr⟩:=hrel
  by_cases hlt:k<t.length
  ·obtain⟨g,o,rfl,k0,k1⟩:=EU HS.out hlt
   have hd:=Je t k hlt x
   obtain⟨p,hp⟩:=kE (t[k])
   rw[←hp] at k0 k1 hd
   obtain⟨p1,p2⟩:=p
   simp only at k0 k1 hd
   have hkI:(k:Int)<(t.length:Int):=by omega
   have hk0:(0:Int)≤(k:Int):=by omega
   clear hp
   rw[ba_tl] at hd
   cases hq:(p1.toList==x.toList)
   ·have HR:=jI (show r=aQ (t.drop (k+1)) x by have:=hr.out;rw[hd,hq] at this;exact this)
    clear hd hr
    go_wp2
    go_round
    case rel=>exact⟨k+1,by omega,by go_num,HR⟩
    case measure=>simp[intOf];omega
   ·have HR:=jI (show r=p2 by have:=hr.out;rw[hd,hq] at this;exact this)
    clear hd hr
    go_wp2
    go_ret
    exact⟨by rw[HR.out];rfl,rfl⟩
  ·obtain rfl:k=t.length:=by omega
   have hkI:¬(t.length:Int)<(t.length:Int):=by omega
   have HR:=jI (show r=0 by have:=hr.out;rw[List.drop_length] at this;exact this)
   clear hr
   go_wp2
   go_ret
   exact⟨by rw[HR.out];rfl,rfl⟩
end
end
section
open Go.RowKit
open _root_.Go.Proofs.Tryz
def TabPost(l:List Dc)(w:World)(e:Ending)(w':World):Prop:=∃v,e=.returned v∧w'.ownsRow w.heap.size 172 2 v (tab l).length (jN (tab l))∧Below w.heap.size w w'
theorem Ga(l:List Dc)(d:Dc):tab (l++[d])=tab l++rT d:=by unfold tab;rw[List.flatMap_append];simp
theorem Ai{w W:World}{g o:Nat}{cs:List Value}(h:w.rangeAt g o cs)(hb:Below w.heap.size w W)(hg:g<w.heap.size):W.rangeAt g o cs:=fun j v hv=>(hb.cell (p:=⟨g,o+j,none⟩) hg).trans (h j v hv)
attribute [local go_sem ↓] zq in
theorem table_ref(l:List Dc)(A:Option Addr)(c:Nat)(w:World)(S:Nat→Prop)(hl:aO (dS w S) w S 22 A l)(hS:∀g,S g→g<w.heap.size)(hsz:(tab l).length≤100000000)(hll:l.length≤100000000):
  Calls prog 73 #[.slice A l.length c] w (TabPost l w):=by
 have HL:=jI hl
 clear hl
 go_enter func73,ntmps73
 go_wp2
 go_loopw [3,4] (fun v x wr=>∃k:Nat,k≤l.length∧x=.int .i64 k∧wr.ownsRow w.heap.size 172 2 v (tab (l.take k)).length (jN (tab (l.take k)))∧Below w.heap.size w wr) (fun _ x _=>l.length-(intOf x).toNat)
 case atStart=>exact⟨0,cu _,rfl,World.ownsRow_nil _ _ _ _,jQ _ _⟩
 case round=>
  obtain⟨k,hk,rfl,hown,hb⟩:=hrel
  have hsr:=hb.size
  by_cases hlt:k<l.length
  ·obtain⟨g,o,v2,rfl,hSg,hp,hc⟩:=dB (fun _ _ h=>lD h) HL.out hlt
   have hgs:g<w.heap.size:=hS g hSg
   obtain⟨d,hd⟩:=kE (l[k])
   have htk:=F9 l k hlt
   rw[←hd] at hp htk
   have hq2:=mD rT l (k+1)
   have hq3:(tab (l.take (k+1))).length≤100000000:=cK hq2 hsz
   rw[htk,Ga,bD] at hq3
   have hp2:=hp
   obtain⟨cs,nA,nc,hcl,hone,rfl,c0,-,c2,c3,-,hsn,hnc⟩:=j4 hp2
   have hrange:w.rangeAt g (o+k * 22) cs:=fun j u hu=>hc j u (by simpa [cellsOf,Value.cells] using hu)
   have hrr:wr.rangeAt g (o+k * 22) cs:=Ai hrange hb hgs
   have mW:(prog.info? 35).map (·.size)=some cs.length:=by rw[hcl];exact cZ
   have HRG:=jI (show ∀W,Below w.heap.size w W→W.rangeAt g (o+k * 22) cs from fun W hW=>Ai hrange hW hgs)
   have HKD:=jI (fun(W:World)(hW:Below w.heap.size w W)=>kind_ref d _ W S (hp.keep (aj hW hS)))
   have HCL:=jI hcl
   have hkI:(k:Int)<(l.length:Int):=by omega
   have hk0:(0:Int)≤(k:Int):=by omega
   obtain⟨cur,hcur⟩:=kE (tab (l.take k))
   have HTK:=jI (show tab (l.take (k+1))=cur++rT d by rw[htk,Ga,hcur])
   rw[←hcur] at hown hq3
   have C0:=jI c0
   have C2:=jI c2
   have C3:=jI c3
   have HSN:=jI hsn
   clear hcur hp htk hd hc hcl c0 c2 c3 hone hsn hq2
   by_cases hz:dI d.kind=0
   ·have HN:=jI (show rT d=[] by unfold rT;rw[if_pos hz,if_neg (fun h=>by rw[h] at hz;exact absurd hz (by decide))];rfl)
    obtain⟨kd,hkd⟩:=kE (dI d.kind)
    rw[←hkd] at HKD hz
    subst hz
    clear hkd
    go_wp2_with (first|(with_reducible refine wpList_load_mid rfl 35 (.tmp 14) rfl g (o+k * 22) rfl cs _ hrr underlying35 rfl mW ?_)|(go_at_call 101;refine (HKD.out wr hb).mono ?_;rintro e w3 ⟨rfl,hb3⟩))
    go_roundw
    case rel=>
     refine⟨k+1,by omega,by go_num,?_,hb.trans (hb3.mono hsr)⟩
     rw[HTK.out,HN.out,List.append_nil]
     exact own_below hown hb3 (aP _)
    case measure=>simp[intOf];omega
   ·have hzb:(dI d.kind==(0:Int))=false:=by rw[bP];exact hz
    obtain⟨kd,hkd⟩:=kE (dI d.kind)
    have HDT:=jI (show rT d=[(d.name,kd)]++(if d.kind=1 then d.names.map (fun x=>(x,2)) else []) by rw[hkd];unfold rT;rw[if_neg hz])
    rw[HDT.out] at hq3
    rw[←hkd] at HKD hzb
    clear hkd hz
    have hql:cur.length+1≤100000000:=by rw[bD] at hq3;simp at hq3;omega
    go_upto_region 6 with (first|(with_reducible refine wpList_load_mid rfl 35 (.tmp 14) rfl g (o+k * 22) rfl cs _ hrr underlying35 rfl mW ?_)|(go_at_call 101;refine (HKD.out wr hb).mono ?_;rintro e w3 ⟨rfl,hb3⟩))
    have hb3w:Below w.heap.size w w3:=hb.trans (hb3.mono hsr)
    have hown3:=own_below hown hb3 (aP _)
    have hs3:=hb3w.size
    clear hown hrr
    go_cut [3] (fun s3 wx=>wx.ownsRow w.heap.size 172 2 s3 (cur.length+1) (jN (cur++[(d.name,kd)]))∧Below w.heap.size w wx)
    case first=>
     have ra:=fun(W:World)(h:W.rangeAt g (o+k * 22) cs)=>Cg W g (o+k * 22) _ h HCL.out
     have KP:=jI (fun(W:World)(hW:Below w.heap.size w W)=>show W.rangeAt g (o+k * 22) cs∧W.cell? ⟨g,o+k * 22+2,none⟩=some (.string d.name) from ⟨HRG.out W hW,HRG.out W hW 2 _ C2.out⟩)
     have hr3:w3.rangeAt g (o+k * 22) cs:=HRG.out w3 hb3w
     have e2:w3.cell? ⟨g,o+k * 22+2,none⟩=some (.string d.name):=hr3 2 _ C2.out
     have HP1:=jI (fun(W:World)(v:Value)(h:W.ownsRow w.heap.size 172 2 v (cur.length+1) (jN cur++[.string d.name,.int .i64 kd]))=>show W.ownsRow w.heap.size 172 2 v (cur.length+1) (jN (cur++[(d.name,kd)])) by rw[wu];exact h)
     clear hrange hp2 hb hb3 mW hzb
     go_region_held3 (fun w'=>w'.rangeAt g (o+k * 22) cs∧w'.cell? ⟨g,o+k * 22+2,none⟩=some (.string d.name)) (first|exact⟨hr3,e2⟩|exact hkeep4|exact hkeep5|exact hkeep6|go_keep)
      (first|(go_at_call 101;(refine (HKD.out _ (below_drewN hb3w _)).mono ?_;rintro e w4 ⟨rfl,hb4⟩;have hbw4:Below w.heap.size w w4:=(below_drewN hb3w _).trans (hb4.mono (show w.heap.size≤w3.heap.size from hs3));have hkeep4:=KP.out w4 hbw4;have jX:=own_below (own_drewN hown3 _) hb4 (aP _);have hs4:=hbw4.size;have hkeep5:=KP.out _ (hbw4.trans ((jQ _ _).alloc hs4 (.cells #[.string d.name,.int .i64 kd] 172 (0,0))))))|(refine He _ rfl (.tmp 18) (.tmp 30) rfl w.heap.size _ _ _ (jX.alloc _) rfl _ _ d.name kd (jR w4 _) rfl (by omega) (by simp;omega) ?_;intro v5 w5 hown5 hg5;have hb5:Below w.heap.size w w5:=(hbw4.trans ((jQ _ _).alloc hs4 (.cells #[.string d.name,.int .i64 kd] 172 (0,0)))).trans (aN (jX.alloc _) hg5 (by simp;omega));have hkeep6:=KP.out w5 hb5))
     all_goals (
      go_wp2
      go_meet
      exact⟨HP1.out _ _ hown5,hb5⟩)
    case rest=>
     obtain⟨hown1,hb1⟩:=hcut
     obtain⟨W1,hW1⟩:=kE wc
     rw[←hW1] at hown1 hb1
     rw[←hW1]
     clear hW1 hb hb3 hown3 hb3w hs3 hsr
     have hs1:=hb1.size
     have e0:W1.cell? ⟨g,o+k * 22,none⟩=some (.int .i64 d.kind):=HRG.out W1 hb1 0 _ C0.out
     have e3:W1.cell? ⟨g,o+k * 22+3,none⟩=some (.slice nA d.names.length nc):=HRG.out W1 hb1 3 _ C3.out
     by_cases hk1:d.kind=1
     ·have HD1:=jI (show rT d=[(d.name,kd)]++d.names.map (fun x=>(x,2)) by rw[HDT.out,if_pos hk1])
      rw[if_pos hk1] at hq3
      have hkb:(d.kind==(1:Int))=true:=by rw[hk1];rfl
      have hnl:cur.length+1+d.names.length≤100000000:=by rw[bD,List.length_map] at hq3;simp at hq3;omega
      clear hk1 hq3
      go_wp2_with fail
      clear e0 e3
      go_loopw [3,5] (fun v x wi=>∃j:Nat,j≤d.names.length∧x=.int .i64 j∧wi.ownsRow w.heap.size 172 2 v (cur.length+1+j) (jN (cur++[(d.name,kd)]++(d.names.take j).map (fun x=>(x,2))))∧Below w.heap.size w wi) (fun _ x _=>d.names.length-(intOf x).toNat)
      case atStart=>exact⟨0,cu _,rfl,by simpa using hown1,hb1⟩
      case round=>
       obtain⟨j,hj,rfl,hownj,hbj⟩:=hrel
       have hsj:=hbj.size
       have e0:wr.cell? ⟨g,o+k * 22,none⟩=some (.int .i64 d.kind):=HRG.out wr hbj 0 _ C0.out
       have e3:wr.cell? ⟨g,o+k * 22+3,none⟩=some (.slice nA d.names.length nc):=HRG.out wr hbj 3 _ C3.out
       by_cases hltj:j<d.names.length
       ·obtain⟨g2,o2,rfl,hSg2,hcn⟩:=one_cell (HSN.out.keep (aj hbj hS)) hltj
        have hjI:(j:Int)<(d.names.length:Int):=by omega
        have hj0:(0:Int)≤(j:Int):=by omega
        obtain⟨x,hx⟩:=kE (d.names[j])
        rw[←hx] at hcn
        have HNX:=jI (show cur++[(d.name,kd)]++(d.names.take (j+1)).map (fun x=>(x,(2:Int)))=(cur++[(d.name,kd)]++(d.names.take j).map (fun x=>(x,2)))++[(x,2)] by rw[cO hltj,←hx,List.map_append,←List.append_assoc];rfl)
        clear hx
        go_wp2_with (at_builtin;refine Ib wr rfl (.tmp 50) (.tmp 60) rfl w.heap.size _ _ _ hownj rfl x 2 rfl (by omega) hsj ?_;intro v' w' hown' hg' hv')
        go_roundw
        case rel=>
         refine⟨j+1,by omega,by go_num,?_,hbj.trans (aN hownj hg' hsj)⟩
         rw[HNX.out,wu]
         exact hown'
        case measure=>simp[intOf];omega
       ·obtain rfl:j=d.names.length:=by omega
        have hjI:¬(d.names.length:Int)<(d.names.length:Int):=by omega
        rw[List.take_length] at hownj
        have HO:=jI (show wr.ownsRow w.heap.size 172 2 u3 (tab (l.take (k+1))).length (jN (tab (l.take (k+1)))) by
         rw[HTK.out,HD1.out,←List.append_assoc]
         have e:(cur++[(d.name,kd)]++d.names.map (fun x=>(x,(2:Int)))).length=cur.length+1+d.names.length:=by simp;omega
         rw[e];exact hownj)
        clear hownj
        go_wp2
        go_roundw
        case rel=>exact⟨k+1,by omega,by go_num,HO.out,hbj⟩
        case measure=>simp[intOf];omega
     ·have HO:=jI (show W1.ownsRow w.heap.size 172 2 u3 (tab (l.take (k+1))).length (jN (tab (l.take (k+1)))) by
       rw[HTK.out,HDT.out,if_neg hk1,List.append_nil]
       have e:(cur++[(d.name,kd)]).length=cur.length+1:=by simp
       rw[e];exact hown1)
      have hkb:(d.kind==(1:Int))=false:=by rw[bP];exact hk1
      clear hk1 hq3
      go_wp2_with fail
      clear e0 e3
      go_loopw [3,5] (fun v x wi=>v=u3∧x=.int .i64 ((0:Nat):Int)∧W1=wi) (fun _ _ _=>0)
      case atStart=>exact⟨rfl,rfl,rfl⟩
      case round=>
       obtain⟨rfl,rfl,rfl⟩:=hrel
       have e0:W1.cell? ⟨g,o+k * 22,none⟩=some (.int .i64 d.kind):=HRG.out W1 hb1 0 _ C0.out
       have e3:W1.cell? ⟨g,o+k * 22+3,none⟩=some (.slice nA d.names.length nc):=HRG.out W1 hb1 3 _ C3.out
       by_cases hl0:0<d.names.length
       ·have hl1:(0:Int)<(d.names.length:Int):=by omega
        go_wp2
        go_roundw
        case rel=>exact⟨k+1,by omega,by go_num,HO.out,hb1⟩
        case measure=>simp[intOf];omega
       ·have hl1:¬(0:Int)<(d.names.length:Int):=by omega
        go_wp2
        go_roundw
        case rel=>exact⟨k+1,by omega,by go_num,HO.out,hb1⟩
        case measure=>simp[intOf];omega
  ·obtain rfl:k=l.length:=by omega
   have hkI:¬(l.length:Int)<(l.length:Int):=by omega
   rw[List.take_length] at hown
   go_wp2
   go_ret
   exact⟨_,rfl,hown,hb⟩
end
end Go.Proofs.YtmohibkomlhlaaaGreatDoor
