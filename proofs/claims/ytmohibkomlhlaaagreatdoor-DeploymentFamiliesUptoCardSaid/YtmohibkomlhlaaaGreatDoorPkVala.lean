/- The contracts of slices.IndexFunc and slices.ContainsFunc at five element types, for any test. The contracts of slices.IndexFunc and slices.ContainsFunc at declarations. The contracts of the program's tests of terms: mq, bare, small, validTerm. -/
import Derived.Test.YtmohibkomlhlaaaGreatDoorPkPare
import Derived.Deep.MidRow
import Derived.Deep.CutBlock
set_option maxRecDepth 100000
set_option maxHeartbeats 8000000
namespace Go.Proofs.YtmohibkomlhlaaaGreatDoor
open Go.RowKit
open _root_.Go.Proofs.Tryz
def Tests{α:Type}(P:World→α→Value→Prop)(w:World)(fid:Nat)(l:List α)(q:α→Bool):Prop:=
 ∀x∈l,∀(v:Value)(W:World),P W x v→Below w.heap.size w W→Calls prog fid #[v] W fun e W'=>e=.returned (.bool (q x))∧Below W.heap.size W W'
def IPost{α:Type}(l:List α)(q:α→Bool)(w:World)(e:Ending)(w':World):Prop:=(∃z:Int,e=.returned (.int .i64 z)∧decide (0≤z)=l.any q)∧Below w.heap.size w w'
theorem zO{α:Type}{l:List α}{q:α→Bool}{k:Nat}(h:k<l.length)(hq:q l[k]=true):l.any q=true:=List.any_eq_true.2 ⟨l[k],bQ h,hq⟩
theorem any_none{α:Type}{l:List α}{q:α→Bool}(h:∀j (hj:j<l.length),q l[j]=false):l.any q=false:=by
 rw[List.any_eq_false]
 intro x hx
 obtain⟨j,hj,rfl⟩:=List.getElem_of_mem hx
 rw[h j hj];simp
theorem aj{S:Nat→Prop}{w W:World}(hb:Below w.heap.size w W)(hS:∀g,S g→g<w.heap.size):Kept S w W:=fun g hg _=>hb.block g (hS g hg)
theorem one_cell{α:Type}{w:World}{S:Nat→Prop}{A:Option Addr}{l:List α}{f:α→Value}{i:Nat}(h:ak w S 1 A l.length (l.map f))(hi:i<l.length):∃g o,A=some ⟨g,o,none⟩∧S g∧w.cell? ⟨g,o+i,none⟩=some (f l[i]):=by
 obtain⟨g,o,e,hS,hc⟩:=h.cells (by omega)
 exact⟨g,o,e,hS,hc i _ (by rw[List.getElem?_map,dD hi];rfl)⟩
theorem flatN{m:Nat}{vs:List Value}(h:∀(i:Nat)(u:Value),vs[i]?=some u→(cellsOf u).length=m):∀(i j:Nat)(u:Value),vs[i]?=some u→j<m→(vs.flatMap cellsOf)[i * m+j]?=(cellsOf u)[j]?:=by
 induction vs with
 |nil=>intro i j u hu;simp at hu
 |cons v r ih=>
  intro i j u hu hj
  have hv:=h 0 v rfl
  rw[List.flatMap_cons]
  cases i with
  |zero=>
   simp at hu
   subst hu
   rw[gL (by omega)];simp
  |succ i=>
   rw[gM (by rw[hv,Nat.succ_mul];omega)]
   rw[show (i+1) * m+j-(cellsOf v).length=i * m+j by rw[hv,Nat.succ_mul];omega]
   exact ih (fun i u hu=>h (i+1) u (by simpa using hu)) i j u (by simpa using hu) hj
theorem dB{α:Type}{m:Nat}{P:α→Value→Prop}{w:World}{S:Nat→Prop}{A:Option Addr}{l:List α}(hP:∀x v,P x v→(cellsOf v).length=m)(h:aO P w S m A l){i:Nat}(hi:i<l.length):
  ∃g o v,A=some ⟨g,o,none⟩∧S g∧P l[i] v∧∀j u,(cellsOf v)[j]?=some u→w.cell? ⟨g,o+i * m+j,none⟩=some u:=by
 obtain⟨vs,h1,h2,h3⟩:=h
 obtain⟨g,o,hA,hS,hc⟩:=h2.cells (by omega)
 have hp:=h3 i l[i] (vs[i]'(by omega)) (dD hi) (dD _)
 refine⟨g,o,_,hA,hS,hp,fun j u hu=>?_⟩
 have hj:j<m:=by rw[←hP _ _ hp];exact (List.getElem?_eq_some_iff.1 hu).1
 have:=hc (i * m+j) u ((flatN (m:=m) (fun i u hu=>by
  have hi2:=(List.getElem?_eq_some_iff.1 hu).1
  exact hP _ _ (h3 i (l[i]'(by omega)) u (dD _) hu)) i j _ (dD (by omega)) hj).trans hu)
 rw[←Nat.add_assoc] at this
 exact this
theorem mZ{w:World}{S:Nat→Prop}{A:Option Addr}{l:List Ft}(h:aO (ng w S) w S 6 A l){i:Nat}(hi:i<l.length):
  ∃g o op nm by_ cr bA bn bc cA cn cc,A=some ⟨g,o,none⟩∧S g∧ng w S l[i] (.agg #[.int .i64 op,.string nm,.int .i64 by_,.int .i64 cr,.slice bA bn bc,.slice cA cn cc])∧w.cell? ⟨g,o+i * 6,none⟩=some (.int .i64 op)∧w.cell? ⟨g,o+i * 6+1,none⟩=some (.string nm)∧
   w.cell? ⟨g,o+i * 6+2,none⟩=some (.int .i64 by_)∧w.cell? ⟨g,o+i * 6+3,none⟩=some (.int .i64 cr)∧w.cell? ⟨g,o+i * 6+4,none⟩=some (.slice bA bn bc)∧w.cell? ⟨g,o+i * 6+5,none⟩=some (.slice cA cn cc):=by
 obtain⟨g,o,v,hA,hS,hp,hc⟩:=dB (fun x v h=>by obtain⟨bA,bc,cA,cc,rfl,-⟩:=h;rfl) h hi
 have hp2:=hp
 obtain⟨bA,bc,cA,cc,rfl,-⟩:=hp
 exact⟨g,o,_,_,_,_,_,_,_,_,_,_,hA,hS,hp2,hc 0 _ rfl,hc 1 _ rfl,hc 2 _ rfl,hc 3 _ rfl,hc 4 _ rfl,hc 5 _ rfl⟩
theorem lD{w:World}{S:Nat→Prop}{d:Dc}{v:Value}(h:dS w S d v):(cellsOf v).length=22:=by
 obtain⟨nA,nc,fA,fc,o1,m1,d1,wA1,wn1,wc1,kA1,kn1,kc1,o2,m2,d2,wA2,wn2,wc2,kA2,kn2,kc2,o3,m3,d3,wA3,wn3,wc3,kA3,kn3,kc3,rfl⟩:=qo h
 rfl
theorem index_int(l:List Int)(S:Nat→Prop)(A:Option Addr)(c:Nat)(w:World)(hl:ak w S 1 A l.length (l.map (Value.int .i64)))(hS:∀g,S g→g<w.heap.size)(hlim:l.length≤1000000000000)
  (fid:Nat) (he:∀(args:Array Value)(w:World),(callFunc fid args).run prog w=.ok (.enter fid args) w) (q:Int→Bool) (hf:Tests (fun _ x v=>v=.int .i64 x) w fid l q):
  Calls prog 166 #[.slice A l.length c,.func (.func fid) #[] #[]] w (IPost l q w):=by
 have HF:=jI hf
 have HLS:=jI hl
 clear hf hl
 go_enter func166,ntmps166
 go_wp2
 go_loopw [8] (fun x wr=>∃k:Nat,k≤l.length∧x=.int .i64 k∧Hid (∀j (hj:j<l.length),j<k→q l[j]=false)∧Below w.heap.size w wr) (fun x _=>l.length-(intOf x).toNat)
 case atStart=>exact⟨0,cu _,rfl,(fun j _ h=>absurd h (by omega)),jQ _ _⟩
 case round=>
  obtain⟨k,hk,rfl,hno,hb⟩:=hrel
  have hsz:=hb.size
  by_cases hlt:k<l.length
  ·have hlr:=HLS.out.keep (aj hb hS)
   obtain⟨g,o,rfl,hSg,k0⟩:=one_cell hlr hlt
   have hgs:g<wr.heap.size:=by have:=hS g hSg;omega
   have hc:=HF.out l[k] (bQ hlt) _ wr rfl hb
   have hkI:(k:Int)<(l.length:Int):=by omega
   have hk0:(0:Int)≤(k:Int):=by omega
   cases hq:q l[k]
   ·rw[hq] at hc
    have HC:=jI hc
    have HQ:=jI hq
    clear hc hq hlr
    go_wp2_with fail
    refine HC.out.mono ?_
    rintro e W2 ⟨rfl,hb2⟩
    go_wp2
    go_roundw
    case rel=>
     refine⟨k+1,by omega,by go_num,?_,hb.trans (hb2.mono hsz)⟩
     intro j hj hjk
     by_cases h9:j<k
     ·exact hno.out j hj h9
     ·obtain rfl:j=k:=by omega
      exact HQ.out
    case measure=>simp[intOf];omega
   ·rw[hq] at hc
    have HC:=jI hc
    have HQ:=jI (zO hlt hq)
    clear hc hq hlr
    go_wp2_with fail
    refine HC.out.mono ?_
    rintro e W2 ⟨rfl,hb2⟩
    go_wp2
    go_ret
    refine⟨⟨k,rfl,?_⟩,hb.trans (hb2.mono hsz)⟩
    rw[HQ.out];simp
  ·have HQ:Hid (l.any q=false):=jI (any_none (fun j hj=>hno.out j hj (by omega)))
   have hkI:¬(k:Int)<(l.length:Int):=by omega
   go_wp2
   go_ret
   refine⟨⟨-1,rfl,?_⟩,hb⟩
   rw[HQ.out];rfl
theorem ug(l:List Int)(S:Nat→Prop)(A:Option Addr)(c:Nat)(w:World)(hl:ak w S 1 A l.length (l.map (Value.int .i64)))(hS:∀g,S g→g<w.heap.size)(hlim:l.length≤1000000000000)
  (fid:Nat) (he:∀(args:Array Value)(w:World),(callFunc fid args).run prog w=.ok (.enter fid args) w) (q:Int→Bool) (hf:Tests (fun _ x v=>v=.int .i64 x) w fid l q):
  Calls prog 128 #[.slice A l.length c,.func (.func fid) #[] #[]] w fun e w'=>e=.returned (.bool (l.any q))∧Below w.heap.size w w':=by
 have HC:=jI (index_int l S A c w hl hS hlim fid he q hf)
 clear hl hf
 go_enter func128,ntmps128
 go_wp2_with fail
 refine HC.out.mono ?_
 rintro e w' ⟨⟨z,rfl,hz⟩,hb⟩
 have HZ:=jI hz
 clear hz
 go_wp2
 go_ret
 refine⟨?_,hb⟩
 show Ending.returned (.bool (decide (0≤z)))=_
 rw[HZ.out]
theorem index_str(l:List ByteArray)(S:Nat→Prop)(A:Option Addr)(c:Nat)(w:World)(hl:ak w S 1 A l.length (l.map Value.string))(hS:∀g,S g→g<w.heap.size)(hlim:l.length≤1000000000000)
  (fid:Nat) (he:∀(args:Array Value)(w:World),(callFunc fid args).run prog w=.ok (.enter fid args) w) (q:ByteArray→Bool) (hf:Tests (fun _ x v=>v=.string x) w fid l q):
  Calls prog 216 #[.slice A l.length c,.func (.func fid) #[] #[]] w (IPost l q w):=by
 have HF:=jI hf
 have HLS:=jI hl
 clear hf hl
 go_enter func216,ntmps216
 go_wp2
 go_loopw [8] (fun x wr=>∃k:Nat,k≤l.length∧x=.int .i64 k∧Hid (∀j (hj:j<l.length),j<k→q l[j]=false)∧Below w.heap.size w wr) (fun x _=>l.length-(intOf x).toNat)
 case atStart=>exact⟨0,cu _,rfl,(fun j _ h=>absurd h (by omega)),jQ _ _⟩
 case round=>
  obtain⟨k,hk,rfl,hno,hb⟩:=hrel
  have hsz:=hb.size
  by_cases hlt:k<l.length
  ·have hlr:=HLS.out.keep (aj hb hS)
   obtain⟨g,o,rfl,hSg,k0⟩:=one_cell hlr hlt
   have hgs:g<wr.heap.size:=by have:=hS g hSg;omega
   have hc:=HF.out l[k] (bQ hlt) _ wr rfl hb
   have hkI:(k:Int)<(l.length:Int):=by omega
   have hk0:(0:Int)≤(k:Int):=by omega
   cases hq:q l[k]
   ·rw[hq] at hc
    have HC:=jI hc
    have HQ:=jI hq
    clear hc hq hlr
    go_wp2_with fail
    refine HC.out.mono ?_
    rintro e W2 ⟨rfl,hb2⟩
    go_wp2
    go_roundw
    case rel=>
     refine⟨k+1,by omega,by go_num,?_,hb.trans (hb2.mono hsz)⟩
     intro j hj hjk
     by_cases h9:j<k
     ·exact hno.out j hj h9
     ·obtain rfl:j=k:=by omega
      exact HQ.out
    case measure=>simp[intOf];omega
   ·rw[hq] at hc
    have HC:=jI hc
    have HQ:=jI (zO hlt hq)
    clear hc hq hlr
    go_wp2_with fail
    refine HC.out.mono ?_
    rintro e W2 ⟨rfl,hb2⟩
    go_wp2
    go_ret
    refine⟨⟨k,rfl,?_⟩,hb.trans (hb2.mono hsz)⟩
    rw[HQ.out];simp
  ·have HQ:Hid (l.any q=false):=jI (any_none (fun j hj=>hno.out j hj (by omega)))
   have hkI:¬(k:Int)<(l.length:Int):=by omega
   go_wp2
   go_ret
   refine⟨⟨-1,rfl,?_⟩,hb⟩
   rw[HQ.out];rfl
theorem DN(l:List ByteArray)(S:Nat→Prop)(A:Option Addr)(c:Nat)(w:World)(hl:ak w S 1 A l.length (l.map Value.string))(hS:∀g,S g→g<w.heap.size)(hlim:l.length≤1000000000000)
  (fid:Nat) (he:∀(args:Array Value)(w:World),(callFunc fid args).run prog w=.ok (.enter fid args) w) (q:ByteArray→Bool) (hf:Tests (fun _ x v=>v=.string x) w fid l q):
  Calls prog 197 #[.slice A l.length c,.func (.func fid) #[] #[]] w fun e w'=>e=.returned (.bool (l.any q))∧Below w.heap.size w w':=by
 have HC:=jI (index_str l S A c w hl hS hlim fid he q hf)
 clear hl hf
 go_enter func197,ntmps197
 go_wp2_with fail
 refine HC.out.mono ?_
 rintro e w' ⟨⟨z,rfl,hz⟩,hb⟩
 have HZ:=jI hz
 clear hz
 go_wp2
 go_ret
 refine⟨?_,hb⟩
 show Ending.returned (.bool (decide (0≤z)))=_
 rw[HZ.out]
theorem IQ(l:List Tm)(S:Nat→Prop)(A:Option Addr)(c:Nat)(w:World)(hl:aO (dX w S) w S 5 A l)(hS:∀g,S g→g<w.heap.size)(hlim:l.length≤1000000000000)
  (fid:Nat) (he:∀(args:Array Value)(w:World),(callFunc fid args).run prog w=.ok (.enter fid args) w) (q:Tm→Bool) (hf:Tests (fun W x v=>dX W S x v) w fid l q):
  Calls prog 167 #[.slice A l.length c,.func (.func fid) #[] #[]] w (IPost l q w):=by
 have HF:=jI hf
 have HLS:=jI hl
 clear hf hl
 go_enter func167,ntmps167
 go_wp2
 go_loopw [8] (fun x wr=>∃k:Nat,k≤l.length∧x=.int .i64 k∧Hid (∀j (hj:j<l.length),j<k→q l[j]=false)∧Below w.heap.size w wr) (fun x _=>l.length-(intOf x).toNat)
 case atStart=>exact⟨0,cu _,rfl,(fun j _ h=>absurd h (by omega)),jQ _ _⟩
 case round=>
  obtain⟨k,hk,rfl,hno,hb⟩:=hrel
  have hsz:=hb.size
  by_cases hlt:k<l.length
  ·have hlr:=HLS.out.keep (P':=dX wr S) (aj hb hS) (fun _ _ h=>h.keep (aj hb hS))
   obtain⟨g,o,op2,nm2,nd2,wA2,wn2,wc2,kA2,kn2,kc2,rfl,hSg,htm,k0,k1,k2,k3,k4⟩:=nO (fun t v h=>⟨_,h⟩) hlr k hlt
   have hgs:g<wr.heap.size:=by have:=hS g hSg;omega
   have hc:=HF.out l[k] (bQ hlt) _ wr htm hb
   have hkI:(k:Int)<(l.length:Int):=by omega
   have hk0:(0:Int)≤(k:Int):=by omega
   cases hq:q l[k]
   ·rw[hq] at hc
    have HC:=jI hc
    have HQ:=jI hq
    clear hc hq hlr
    go_wp2_with fail
    refine HC.out.mono ?_
    rintro e W2 ⟨rfl,hb2⟩
    go_wp2
    go_roundw
    case rel=>
     refine⟨k+1,by omega,by go_num,?_,hb.trans (hb2.mono hsz)⟩
     intro j hj hjk
     by_cases h9:j<k
     ·exact hno.out j hj h9
     ·obtain rfl:j=k:=by omega
      exact HQ.out
    case measure=>simp[intOf];omega
   ·rw[hq] at hc
    have HC:=jI hc
    have HQ:=jI (zO hlt hq)
    clear hc hq hlr
    go_wp2_with fail
    refine HC.out.mono ?_
    rintro e W2 ⟨rfl,hb2⟩
    go_wp2
    go_ret
    refine⟨⟨k,rfl,?_⟩,hb.trans (hb2.mono hsz)⟩
    rw[HQ.out];simp
  ·have HQ:Hid (l.any q=false):=jI (any_none (fun j hj=>hno.out j hj (by omega)))
   have hkI:¬(k:Int)<(l.length:Int):=by omega
   go_wp2
   go_ret
   refine⟨⟨-1,rfl,?_⟩,hb⟩
   rw[HQ.out];rfl
theorem Bt(l:List Tm)(S:Nat→Prop)(A:Option Addr)(c:Nat)(w:World)(hl:aO (dX w S) w S 5 A l)(hS:∀g,S g→g<w.heap.size)(hlim:l.length≤1000000000000)
  (fid:Nat) (he:∀(args:Array Value)(w:World),(callFunc fid args).run prog w=.ok (.enter fid args) w) (q:Tm→Bool) (hf:Tests (fun W x v=>dX W S x v) w fid l q):
  Calls prog 130 #[.slice A l.length c,.func (.func fid) #[] #[]] w fun e w'=>e=.returned (.bool (l.any q))∧Below w.heap.size w w':=by
 have HC:=jI (IQ l S A c w hl hS hlim fid he q hf)
 clear hl hf
 go_enter func130,ntmps130
 go_wp2_with fail
 refine HC.out.mono ?_
 rintro e w' ⟨⟨z,rfl,hz⟩,hb⟩
 have HZ:=jI hz
 clear hz
 go_wp2
 go_ret
 refine⟨?_,hb⟩
 show Ending.returned (.bool (decide (0≤z)))=_
 rw[HZ.out]
theorem Fe(l:List Ft)(S:Nat→Prop)(A:Option Addr)(c:Nat)(w:World)(hl:aO (ng w S) w S 6 A l)(hS:∀g,S g→g<w.heap.size)(hlim:l.length≤1000000000000)
  (fid:Nat) (he:∀(args:Array Value)(w:World),(callFunc fid args).run prog w=.ok (.enter fid args) w) (q:Ft→Bool) (hf:Tests (fun W x v=>ng W S x v) w fid l q):
  Calls prog 164 #[.slice A l.length c,.func (.func fid) #[] #[]] w (IPost l q w):=by
 have HF:=jI hf
 have HLS:=jI hl
 clear hf hl
 go_enter func164,ntmps164
 go_wp2
 go_loopw [8] (fun x wr=>∃k:Nat,k≤l.length∧x=.int .i64 k∧Hid (∀j (hj:j<l.length),j<k→q l[j]=false)∧Below w.heap.size w wr) (fun x _=>l.length-(intOf x).toNat)
 case atStart=>exact⟨0,cu _,rfl,(fun j _ h=>absurd h (by omega)),jQ _ _⟩
 case round=>
  obtain⟨k,hk,rfl,hno,hb⟩:=hrel
  have hsz:=hb.size
  by_cases hlt:k<l.length
  ·have hlr:=HLS.out.keep (P':=ng wr S) (aj hb hS) (fun _ _ h=>h.keep (aj hb hS))
   obtain⟨g,o,op2,nm2,by2,cr2,bA2,bn2,bc2,cA2,cn2,cc2,rfl,hSg,htm,k0,k1,k2,k3,k4,k5⟩:=mZ hlr hlt
   have hgs:g<wr.heap.size:=by have:=hS g hSg;omega
   have hc:=HF.out l[k] (bQ hlt) _ wr htm hb
   have hkI:(k:Int)<(l.length:Int):=by omega
   have hk0:(0:Int)≤(k:Int):=by omega
   cases hq:q l[k]
   ·rw[hq] at hc
    have HC:=jI hc
    have HQ:=jI hq
    clear hc hq hlr
    go_wp2_with fail
    refine HC.out.mono ?_
    rintro e W2 ⟨rfl,hb2⟩
    go_wp2
    go_roundw
    case rel=>
     refine⟨k+1,by omega,by go_num,?_,hb.trans (hb2.mono hsz)⟩
     intro j hj hjk
     by_cases h9:j<k
     ·exact hno.out j hj h9
     ·obtain rfl:j=k:=by omega
      exact HQ.out
    case measure=>simp[intOf];omega
   ·rw[hq] at hc
    have HC:=jI hc
    have HQ:=jI (zO hlt hq)
    clear hc hq hlr
    go_wp2_with fail
    refine HC.out.mono ?_
    rintro e W2 ⟨rfl,hb2⟩
    go_wp2
    go_ret
    refine⟨⟨k,rfl,?_⟩,hb.trans (hb2.mono hsz)⟩
    rw[HQ.out];simp
  ·have HQ:Hid (l.any q=false):=jI (any_none (fun j hj=>hno.out j hj (by omega)))
   have hkI:¬(k:Int)<(l.length:Int):=by omega
   go_wp2
   go_ret
   refine⟨⟨-1,rfl,?_⟩,hb⟩
   rw[HQ.out];rfl
theorem yA(l:List Ft)(S:Nat→Prop)(A:Option Addr)(c:Nat)(w:World)(hl:aO (ng w S) w S 6 A l)(hS:∀g,S g→g<w.heap.size)(hlim:l.length≤1000000000000)
  (fid:Nat) (he:∀(args:Array Value)(w:World),(callFunc fid args).run prog w=.ok (.enter fid args) w) (q:Ft→Bool) (hf:Tests (fun W x v=>ng W S x v) w fid l q):
  Calls prog 123 #[.slice A l.length c,.func (.func fid) #[] #[]] w fun e w'=>e=.returned (.bool (l.any q))∧Below w.heap.size w w':=by
 have HC:=jI (Fe l S A c w hl hS hlim fid he q hf)
 clear hl hf
 go_enter func123,ntmps123
 go_wp2_with fail
 refine HC.out.mono ?_
 rintro e w' ⟨⟨z,rfl,hz⟩,hb⟩
 have HZ:=jI hz
 clear hz
 go_wp2
 go_ret
 refine⟨?_,hb⟩
 show Ending.returned (.bool (decide (0≤z)))=_
 rw[HZ.out]
theorem IU(l:List Dc)(S:Nat→Prop)(A:Option Addr)(c:Nat)(w:World)(hl:aO (dS w S) w S 22 A l)(hS:∀g,S g→g<w.heap.size)(hlim:l.length≤1000000000000)
  (fid:Nat) (he:∀(args:Array Value)(w:World),(callFunc fid args).run prog w=.ok (.enter fid args) w) (q:Dc→Bool) (hf:Tests (fun W x v=>dS W S x v) w fid l q):
  Calls prog 96 #[.slice A l.length c,.func (.func fid) #[] #[]] w (IPost l q w):=by
 have HF:=jI hf
 have HLS:=jI hl
 clear hf hl
 go_enter func96,ntmps96
 go_wp2
 go_loopw [8] (fun x wr=>∃k:Nat,k≤l.length∧x=.int .i64 k∧Hid (∀j (hj:j<l.length),j<k→q l[j]=false)∧Below w.heap.size w wr) (fun x _=>l.length-(intOf x).toNat)
 case atStart=>exact⟨0,cu _,rfl,(fun j _ h=>absurd h (by omega)),jQ _ _⟩
 case round=>
  obtain⟨k,hk,rfl,hno,hb⟩:=hrel
  have hsz:=hb.size
  by_cases hlt:k<l.length
  ·have hlr:=HLS.out.keep (P':=dS wr S) (aj hb hS) (fun _ _ h=>h.keep (aj hb hS))
   obtain⟨g,o,v,rfl,hSg,htm,hcs⟩:=dB (fun _ _ h=>lD h) hlr hlt
   have hgs:g<wr.heap.size:=by have:=hS g hSg;omega
   obtain⟨cs,hcl,rfl⟩:∃cs:List Value,cs.length=22∧v=.agg cs.toArray:=by
    obtain⟨nA,nc,fA,fc,o1,m1,d1,wA1,wn1,wc1,kA1,kn1,kc1,o2,m2,d2,wA2,wn2,wc2,kA2,kn2,kc2,o3,m3,d3,wA3,wn3,wc3,kA3,kn3,kc3,hv⟩:=qo htm
    exact⟨_,rfl,hv⟩
   have hrange:wr.rangeAt g (o+k * 22) cs:=fun j u hu=>hcs j u (by simpa [cellsOf,Value.cells] using hu)
   have mW:(prog.info? 35).map (·.size)=some cs.length:=by rw[hcl];exact cZ
   clear hcs
   have hc:=HF.out l[k] (bQ hlt) _ wr htm hb
   have hkI:(k:Int)<(l.length:Int):=by omega
   have hk0:(0:Int)≤(k:Int):=by omega
   cases hq:q l[k]
   ·rw[hq] at hc
    have HC:=jI hc
    have HQ:=jI hq
    clear hc hq hlr
    go_wp2_with (with_reducible refine wpList_load_mid rfl 35 (.tmp 14) rfl g (o+k * 22) rfl cs _ hrange underlying35 rfl mW ?_)
    refine HC.out.mono ?_
    rintro e W2 ⟨rfl,hb2⟩
    go_wp2
    go_roundw
    case rel=>
     refine⟨k+1,by omega,by go_num,?_,hb.trans (hb2.mono hsz)⟩
     intro j hj hjk
     by_cases h9:j<k
     ·exact hno.out j hj h9
     ·obtain rfl:j=k:=by omega
      exact HQ.out
    case measure=>simp[intOf];omega
   ·rw[hq] at hc
    have HC:=jI hc
    have HQ:=jI (zO hlt hq)
    clear hc hq hlr
    go_wp2_with (with_reducible refine wpList_load_mid rfl 35 (.tmp 14) rfl g (o+k * 22) rfl cs _ hrange underlying35 rfl mW ?_)
    refine HC.out.mono ?_
    rintro e W2 ⟨rfl,hb2⟩
    go_wp2
    go_ret
    refine⟨⟨k,rfl,?_⟩,hb.trans (hb2.mono hsz)⟩
    rw[HQ.out];simp
  ·have HQ:Hid (l.any q=false):=jI (any_none (fun j hj=>hno.out j hj (by omega)))
   have hkI:¬(k:Int)<(l.length:Int):=by omega
   go_wp2
   go_ret
   refine⟨⟨-1,rfl,?_⟩,hb⟩
   rw[HQ.out];rfl
theorem Bv(l:List Dc)(S:Nat→Prop)(A:Option Addr)(c:Nat)(w:World)(hl:aO (dS w S) w S 22 A l)(hS:∀g,S g→g<w.heap.size)(hlim:l.length≤1000000000000)
  (fid:Nat) (he:∀(args:Array Value)(w:World),(callFunc fid args).run prog w=.ok (.enter fid args) w) (q:Dc→Bool) (hf:Tests (fun W x v=>dS W S x v) w fid l q):
  Calls prog 115 #[.slice A l.length c,.func (.func fid) #[] #[]] w fun e w'=>e=.returned (.bool (l.any q))∧Below w.heap.size w w':=by
 have HC:=jI (IU l S A c w hl hS hlim fid he q hf)
 clear hl hf
 go_enter func115,ntmps115
 go_wp2_with fail
 refine HC.out.mono ?_
 rintro e w' ⟨⟨z,rfl,hz⟩,hb⟩
 have HZ:=jI hz
 clear hz
 go_wp2
 go_ret
 refine⟨?_,hb⟩
 show Ending.returned (.bool (decide (0≤z)))=_
 rw[HZ.out]
theorem jA(s:ByteArray)(w:World):Calls prog 125 #[.string s] w fun e w'=>e=.returned (.bool (dP s))∧w=w':=by
 have hl:=IK s w
 have hr:=tN s w
 unfold dP
 cases h:kR s.data.toList
 ·rw[h] at hl
  have HL:=jI hl
  clear hl hr h
  go_enter func125,ntmps125
  go_wp2_with fail
  refine HL.out.mono ?_
  rintro e w' ⟨rfl,rfl⟩
  go_wp2
  go_ret
  exact⟨rfl,rfl⟩
 ·rw[h] at hl
  have HL:=jI hl
  have HR:=jI hr
  clear hl hr h
  go_enter func125,ntmps125
  go_wp2_with fail
  refine HL.out.mono ?_
  rintro e w' ⟨rfl,rfl⟩
  go_wp2_with fail
  refine HR.out.mono ?_
  rintro e w' ⟨rfl,rfl⟩
  go_wp2
  go_ret
  exact⟨by rw[Bool.true_and];rfl,rfl⟩
theorem qM(n:Int)(w:World):Calls prog 127 #[.int .i64 n] w fun e w'=>e=.returned (.bool (small n))∧w=w':=by
 have key:∀r:Bool,(r=true↔(0≤n∧n≤100000))→r=small n:=by
  intro r h
  rw[Bool.eq_iff_iff,h]
  simp[small]
 have HK:=jI key
 clear key
 go_enter func127,ntmps127
 go_wp2
 all_goals go_ret
 all_goals refine⟨congrArg (fun b=>Ending.returned (.bool b)) (HK.out _ ?_),rfl⟩
 all_goals simp
 all_goals omega
theorem rW(op need:Int)(nm:ByteArray)(wA kA:Option Addr)(wn wc kn kc:Nat)(w:World)(hw:wn≤1000000000000)(hk:kn≤1000000000000):
  Calls prog 126 #[.agg #[.int .i64 op,.string nm,.int .i64 need,.slice wA wn wc,.slice kA kn kc]] w fun e w'=>e=.returned (.bool (decide (need=0)&&decide (wn+kn=0)))∧Below w.heap.size w w':=by
 by_cases h0:need=0
 ·subst h0
  by_cases h1:wn+kn=0
  ·obtain⟨rfl,rfl⟩:wn=0∧kn=0:=by omega
   go_enter func126,ntmps126
   go_wp2
   go_ret
   exact⟨rfl,(jQ _ _).alloc (aP _) _⟩
  ·have hz:(((wn:Int)+(kn:Int))==0)=false:=by rw[bP];omega
   have e:(decide ((0:Int)=0)&&decide (wn+kn=0))=false:=by simp;omega
   rw[e]
   clear e h1
   go_enter func126,ntmps126
   go_wp2
   go_ret
   refine⟨?_,(jQ _ _).alloc (aP _) _⟩
   first|rfl|(show Ending.returned (.bool (((wn:Int)+(kn:Int))==0))=_;rw[hz])
 ·have hz:(need==0)=false:=by rw[bP];exact h0
  have e:(decide (need=0)&&decide (wn+kn=0))=false:=by simp[h0]
  rw[e]
  clear e h0
  go_enter func126,ntmps126
  go_wp2
  go_ret
  exact⟨rfl,(jQ _ _).alloc (aP _) _⟩
theorem Ee(w:World)(l:List Int):Tests (fun _ x v=>v=.int .i64 x) w 129 l (fun n=>!small n):=by
 rintro x-v W rfl -
 have HS:=jI (qM x W)
 go_enter func129,ntmps129
 go_wp2_with fail
 refine HS.out.mono ?_
 rintro e w' ⟨rfl,rfl⟩
 go_wp2
 go_ret
 exact⟨rfl,jQ _ _⟩
theorem jw{t k:Tm}(h:k∈t.kids):ax k<ax t:=by
 cases t with
 |mk op name need ws kids=>
  have:∀l:List Tm,k∈l→ax k≤dG l:=by
   intro l
   induction l with
   |nil=>intro h;simp at h
   |cons a r ih=>
    intro h
    rw[dG]
    rcases List.mem_cons.1 h with rfl|h
    ·omega
    ·have:=ih h;omega
  have:=this kids h
  rw[ax];omega
theorem lJ(t:Tm):t.kids.length+t.ws.length<ax t:=by
 cases t with
 |mk op name need ws kids=>
  have:∀l:List Tm,l.length≤dG l:=by
   intro l
   induction l with
   |nil=>simp
   |cons a r ih=>
    rw[dG,fM]
    have:0<ax a:=by cases a;rw[ax];omega
    omega
  have:=this kids
  rw[ax]
  show kids.length+ws.length<_
  omega
def VOk(t:Tm):Prop:=∀(v:Value)(w:World)(S:Nat→Prop),dX w S t v→(∀g,S g→g<w.heap.size)→ax t≤1000000000000→
 Calls prog 93 #[v] w fun e w'=>e=.returned (.bool (lT t))∧Below w.heap.size w w'
theorem term_test(w:World)(S:Nat→Prop)(l:List Tm)(hS:∀g,S g→g<w.heap.size)(hl:∀k∈l,VOk k)(hz:∀k∈l,ax k≤1000000000000):Tests (fun W x v=>dX W S x v) w 131 l (fun k=>!lT k):=by
 intro x hx v W htm hb
 obtain⟨op,nm,nd,wA,wn,wc,kA,kn,kc,rfl⟩:=htm.form
 have hsz:=hb.size
 have hbA:∀o,Below W.heap.size W (W.alloc o):=fun o=>(jQ _ _).alloc (aP _) o
 have HV:=jI (fun o=>hl x hx _ (W.alloc o) S (htm.keep (aA (hbA o))) (fun g hg=>by have:=hS g hg;simp;omega) (hz x hx))
 go_enter func131,ntmps131
 go_wp2_with fail
 refine (HV.out _).mono ?_
 rintro e w' ⟨rfl,hb2⟩
 go_wp2
 go_ret
 exact⟨rfl,(hbA _).trans (hb2.mono (by simp))⟩
theorem ok2(need:Int)(ws:List Int)(kids:List Tm):bJ (.mk 2 ⟨#[]⟩ need ws kids)=(small need&&decide (0<kids.length)&&(decide (ws.length=0) || decide (ws.length=kids.length))):=rfl
theorem ok3(need:Int)(ws:List Int)(kids:List Tm):bJ (.mk 3 ⟨#[]⟩ need ws kids)=(decide (need=0)&&decide (ws.length=0)&&decide (2≤kids.length)):=rfl
theorem ok4(need:Int)(ws:List Int)(kids:List Tm):bJ (.mk 4 ⟨#[]⟩ need ws kids)=(decide (need=0)&&decide (ws.length=0)&&decide (2≤kids.length)):=rfl
theorem ok5(need:Int)(ws:List Int)(kids:List Tm):bJ (.mk 5 ⟨#[]⟩ need ws kids)=(decide (need=0)&&decide (ws.length=0)&&decide (kids.length=1)):=rfl
theorem xZ(t:Tm)(ih:∀k∈t.kids,VOk k):VOk t:=by
 intro v w S hv hS hsz
 have hkl:=lJ t
 cases hv with
 |mk op nm need ws kids wA kA cw kc vs hw hwc hk hkc hl h=>
  have hkl:kids.length+ws.length<ax (.mk op nm need ws kids):=hkl
  have IH:=jI ih
  have hkw:kids.length+ws.length<1000000000000:=by omega
  clear ih
  go_enter func93,ntmps93
  go_upto_block 0 with fail
  obtain⟨W0,hW0⟩:=kE (w.alloc (.cells #[.int .i64 op,.string nm,.int .i64 need,.slice wA ws.length cw,.slice kA kids.length kc] 26))
  have hb0:Below w.heap.size w W0:=by rw[hW0];exact (jQ _ _).alloc (aP _) _
  have hs0:w.heap.size<W0.heap.size:=by rw[hW0];simp
  have hr0:W0.heap[w.heap.size]?=some (.cells #[.int .i64 op,.string nm,.int .i64 need,.slice wA ws.length cw,.slice kA kids.length kc] 26 (0,0)):=by rw[hW0];exact jR w _
  rw[←hW0]
  clear hW0
  go_cut [4] (fun s4 wx=>s4=.bool (bJ (.mk op nm need ws kids))∧Below W0.heap.size W0 wx)
  case first=>
   obtain⟨c0,c1,c2,c3,c4,-⟩:=uL hr0
   clear hr0 hw hk hl h IH
   by_cases h1:op=1
   ·subst h1
    have HN:=jI (jA nm W0)
    have HB:=jI (rW 1 need nm wA kA ws.length cw kids.length kc W0 (by omega) (by omega))
    have e:bJ (.mk 1 nm need ws kids)=((dP nm)&&(decide (need=0)&&decide (ws.length+kids.length=0))):=rfl
    have E:=jI e
    clear e
    generalize (decide (need=0)&&decide (ws.length+kids.length=0))=bq at HB E
    cases hn:dP nm
    ·rw[hn] at HN E
     go_wp2_with fail
     refine HN.out.mono ?_
     rintro e w' ⟨rfl,rfl⟩
     go_wp2_with fail
     go_meet
     exact⟨congrArg Value.bool (by rw[E.out];rfl),jQ _ _⟩
    ·rw[hn] at HN E
     go_wp2_with fail
     refine HN.out.mono ?_
     rintro e w' ⟨rfl,rfl⟩
     go_wp2_with fail
     refine HB.out.mono ?_
     rintro e w2 ⟨rfl,hb2⟩
     go_wp2_with fail
     go_meet
     exact⟨congrArg Value.bool (by rw[E.out];rfl),hb2⟩
   ·have q1:(op==1)=false:=by rw[bP];exact h1
    by_cases h6:op=6
    ·subst h6
     have HN:=jI (jA nm W0)
     have HB:=jI (rW 6 need nm wA kA ws.length cw kids.length kc W0 (by omega) (by omega))
     have e:bJ (.mk 6 nm need ws kids)=((dP nm || nm==(⟨#[115,101,114,118,101,114,115]⟩:ByteArray))&&(decide (need=0)&&decide (ws.length+kids.length=0))):=rfl
     have E:=jI e
     clear e
     generalize (decide (need=0)&&decide (ws.length+kids.length=0))=bq at HB E
     cases hn:dP nm
     ·rw[hn] at HN E
      cases hs:(nm==(⟨#[115,101,114,118,101,114,115]⟩:ByteArray))
      ·rw[hs] at E
       have hs2:(nm.toList==((⟨#[115,101,114,118,101,114,115]⟩:ByteArray)).toList)=false:=by rw[kJ];exact hs
       have hs6:¬nm=(⟨#[115,101,114,118,101,114,115]⟩:ByteArray):=fun e9=>by rw[(nJ _ _).2 e9] at hs;exact absurd hs (by simp)
       have hs3:¬nm.toList=[115,101,114,118,101,114,115]:=fun e9=>hs6 (by rw[ByteArray.toList_eq] at e9;rw[←gN nm,e9];rfl)
       have hs4:(nm.toList==[115,101,114,118,101,114,115])=false:=by rw[bP];exact hs3
       go_wp2_with fail
       refine HN.out.mono ?_
       rintro e w' ⟨rfl,rfl⟩
       go_wp2_with fail
       go_meet
       exact⟨congrArg Value.bool (by rw[E.out];rfl),jQ _ _⟩
      ·rw[hs] at E
       obtain rfl:=(nJ _ _).1 hs
       go_wp2_with fail
       refine HN.out.mono ?_
       rintro e w' ⟨rfl,rfl⟩
       go_wp2_with fail
       refine HB.out.mono ?_
       rintro e w2 ⟨rfl,hb2⟩
       go_wp2_with fail
       go_meet
       exact⟨congrArg Value.bool (by rw[E.out];rfl),hb2⟩
     ·rw[hn] at HN E
      go_wp2_with fail
      refine HN.out.mono ?_
      rintro e w' ⟨rfl,rfl⟩
      go_wp2_with fail
      refine HB.out.mono ?_
      rintro e w2 ⟨rfl,hb2⟩
      go_wp2_with fail
      go_meet
      exact⟨congrArg Value.bool (by rw[E.out];rfl),hb2⟩
    have q6:(op==6)=false:=by rw[bP];exact h6
    by_cases h7:op=7
    ·subst h7
     have HN:=jI (jA nm W0)
     have HB:=jI (rW 7 need nm wA kA ws.length cw kids.length kc W0 (by omega) (by omega))
     have e:bJ (.mk 7 nm need ws kids)=((dP nm || nm==(⟨#[115,101,114,118,101,114,115]⟩:ByteArray))&&(decide (need=0)&&decide (ws.length+kids.length=0))):=rfl
     have E:=jI e
     clear e
     generalize (decide (need=0)&&decide (ws.length+kids.length=0))=bq at HB E
     cases hn:dP nm
     ·rw[hn] at HN E
      cases hs:(nm==(⟨#[115,101,114,118,101,114,115]⟩:ByteArray))
      ·rw[hs] at E
       have hs2:(nm.toList==((⟨#[115,101,114,118,101,114,115]⟩:ByteArray)).toList)=false:=by rw[kJ];exact hs
       have hs6:¬nm=(⟨#[115,101,114,118,101,114,115]⟩:ByteArray):=fun e9=>by rw[(nJ _ _).2 e9] at hs;exact absurd hs (by simp)
       have hs3:¬nm.toList=[115,101,114,118,101,114,115]:=fun e9=>hs6 (by rw[ByteArray.toList_eq] at e9;rw[←gN nm,e9];rfl)
       have hs4:(nm.toList==[115,101,114,118,101,114,115])=false:=by rw[bP];exact hs3
       go_wp2_with fail
       refine HN.out.mono ?_
       rintro e w' ⟨rfl,rfl⟩
       go_wp2_with fail
       go_meet
       exact⟨congrArg Value.bool (by rw[E.out];rfl),jQ _ _⟩
      ·rw[hs] at E
       obtain rfl:=(nJ _ _).1 hs
       go_wp2_with fail
       refine HN.out.mono ?_
       rintro e w' ⟨rfl,rfl⟩
       go_wp2_with fail
       refine HB.out.mono ?_
       rintro e w2 ⟨rfl,hb2⟩
       go_wp2_with fail
       go_meet
       exact⟨congrArg Value.bool (by rw[E.out];rfl),hb2⟩
     ·rw[hn] at HN E
      go_wp2_with fail
      refine HN.out.mono ?_
      rintro e w' ⟨rfl,rfl⟩
      go_wp2_with fail
      refine HB.out.mono ?_
      rintro e w2 ⟨rfl,hb2⟩
      go_wp2_with fail
      go_meet
      exact⟨congrArg Value.bool (by rw[E.out];rfl),hb2⟩
    have q7:(op==7)=false:=by rw[bP];exact h7
    by_cases h8:op=8
    ·subst h8
     have HN:=jI (jA nm W0)
     have HB:=jI (rW 8 need nm wA kA ws.length cw kids.length kc W0 (by omega) (by omega))
     have e:bJ (.mk 8 nm need ws kids)=((dP nm || nm==(⟨#[115,101,114,118,101,114,115]⟩:ByteArray))&&(decide (need=0)&&decide (ws.length+kids.length=0))):=rfl
     have E:=jI e
     clear e
     generalize (decide (need=0)&&decide (ws.length+kids.length=0))=bq at HB E
     cases hn:dP nm
     ·rw[hn] at HN E
      cases hs:(nm==(⟨#[115,101,114,118,101,114,115]⟩:ByteArray))
      ·rw[hs] at E
       have hs2:(nm.toList==((⟨#[115,101,114,118,101,114,115]⟩:ByteArray)).toList)=false:=by rw[kJ];exact hs
       have hs6:¬nm=(⟨#[115,101,114,118,101,114,115]⟩:ByteArray):=fun e9=>by rw[(nJ _ _).2 e9] at hs;exact absurd hs (by simp)
       have hs3:¬nm.toList=[115,101,114,118,101,114,115]:=fun e9=>hs6 (by rw[ByteArray.toList_eq] at e9;rw[←gN nm,e9];rfl)
       have hs4:(nm.toList==[115,101,114,118,101,114,115])=false:=by rw[bP];exact hs3
       go_wp2_with fail
       refine HN.out.mono ?_
       rintro e w' ⟨rfl,rfl⟩
       go_wp2_with fail
       go_meet
       exact⟨congrArg Value.bool (by rw[E.out];rfl),jQ _ _⟩
      ·rw[hs] at E
       obtain rfl:=(nJ _ _).1 hs
       go_wp2_with fail
       refine HN.out.mono ?_
       rintro e w' ⟨rfl,rfl⟩
       go_wp2_with fail
       refine HB.out.mono ?_
       rintro e w2 ⟨rfl,hb2⟩
       go_wp2_with fail
       go_meet
       exact⟨congrArg Value.bool (by rw[E.out];rfl),hb2⟩
     ·rw[hn] at HN E
      go_wp2_with fail
      refine HN.out.mono ?_
      rintro e w' ⟨rfl,rfl⟩
      go_wp2_with fail
      refine HB.out.mono ?_
      rintro e w2 ⟨rfl,hb2⟩
      go_wp2_with fail
      go_meet
      exact⟨congrArg Value.bool (by rw[E.out];rfl),hb2⟩
    have q8:(op==8)=false:=by rw[bP];exact h8
    have key2:nm.size≠0→0<nm.size:=fun h=>by omega
    by_cases h2:op=2
    ·subst h2
     by_cases hz:nm.size=0
     ·obtain rfl:nm=⟨#[]⟩:=by
       have:nm.data.toList=[]:=List.length_eq_zero_iff.1 (by simpa using hz)
       rw[←gN nm,this];rfl
      have HSM:=jI (qM need W0)
      cases hsm:small need
      ·rw[hsm] at HSM
       have E:=jI (show bJ (.mk 2 ⟨#[]⟩ need ws kids)=false by rw[ok2];simp[hsm])
       go_wp2_with fail
       refine HSM.out.mono ?_
       rintro e w' ⟨rfl,rfl⟩
       go_wp2_with fail
       go_meet
       exact⟨congrArg Value.bool E.out.symm,jQ _ _⟩
      ·rw[hsm] at HSM
       by_cases gk0:0<kids.length
       ·have zk0:(0:Int)<(kids.length:Int):=by omega
        by_cases gw0:ws.length=0
        ·have zw0:((ws.length:Int)==0)=true:=J2 gw0
         have E:=jI (show bJ (.mk 2 ⟨#[]⟩ need ws kids)=true by rw[ok2];simp[hsm,gk0,gw0])
         clear gk0 gw0
         go_wp2_with fail
         refine HSM.out.mono ?_
         rintro e w' ⟨rfl,rfl⟩
         go_wp2_with fail
         go_meet
         exact⟨congrArg Value.bool E.out.symm,jQ _ _⟩
        ·have zw0:((ws.length:Int)==0)=false:=lM gw0
         by_cases gwk:ws.length=kids.length
         ·have zwk:((ws.length:Int)==(kids.length:Int))=true:=J2 gwk
          have E:=jI (show bJ (.mk 2 ⟨#[]⟩ need ws kids)=true by rw[ok2];simp[hsm,gk0,gwk])
          clear gk0 gw0 gwk
          go_wp2_with fail
          refine HSM.out.mono ?_
          rintro e w' ⟨rfl,rfl⟩
          go_wp2_with fail
          go_meet
          exact⟨congrArg Value.bool E.out.symm,jQ _ _⟩
         ·have zwk:((ws.length:Int)==(kids.length:Int))=false:=lM gwk
          have E:=jI (show bJ (.mk 2 ⟨#[]⟩ need ws kids)=false by rw[ok2];simp[hsm,gk0,gw0,gwk])
          clear gk0 gw0 gwk
          go_wp2_with fail
          refine HSM.out.mono ?_
          rintro e w' ⟨rfl,rfl⟩
          go_wp2_with fail
          go_meet
          exact⟨congrArg Value.bool E.out.symm,jQ _ _⟩
       ·have zk0:¬(0:Int)<(kids.length:Int):=by omega
        have E:=jI (show bJ (.mk 2 ⟨#[]⟩ need ws kids)=false by rw[ok2];simp[hsm,gk0])
        clear gk0
        go_wp2_with fail
        refine HSM.out.mono ?_
        rintro e w' ⟨rfl,rfl⟩
        go_wp2_with fail
        go_meet
        exact⟨congrArg Value.bool E.out.symm,jQ _ _⟩
     ·have hp:=key2 hz
      have hne2:=gP hp
      have hne:=dK hp
      have E:=jI (show bJ (.mk 2 nm need ws kids)=false by simp[bJ,Tm.op,Tm.name,hz])
      go_wp2_with fail
      go_meet
      exact⟨congrArg Value.bool E.out.symm,jQ _ _⟩
    have q2:(op==2)=false:=by rw[bP];exact h2
    by_cases h3:op=3
    ·subst h3
     by_cases hz:nm.size=0
     ·obtain rfl:nm=⟨#[]⟩:=by
       have:nm.data.toList=[]:=List.length_eq_zero_iff.1 (by simpa using hz)
       rw[←gN nm,this];rfl
      by_cases gn0:need=0
      ·have zn0:(need==0)=true:=by rw[beq_iff_eq];exact gn0
       by_cases gw0:ws.length=0
       ·have zw0:((ws.length:Int)==0)=true:=J2 gw0
        by_cases gk2:2≤kids.length
        ·have zk2:(2:Int)≤(kids.length:Int):=by omega
         have E:=jI (show bJ (.mk 3 ⟨#[]⟩ need ws kids)=true by rw[ok3];simp[gn0,gw0,gk2])
         clear gn0 gw0 gk2
         go_wp2_with fail
         go_meet
         exact⟨congrArg Value.bool E.out.symm,jQ _ _⟩
        ·have zk2:¬(2:Int)≤(kids.length:Int):=by omega
         have E:=jI (show bJ (.mk 3 ⟨#[]⟩ need ws kids)=false by rw[ok3];simp[gn0,gw0,gk2])
         clear gn0 gw0 gk2
         go_wp2_with fail
         go_meet
         exact⟨congrArg Value.bool E.out.symm,jQ _ _⟩
       ·have zw0:((ws.length:Int)==0)=false:=lM gw0
        have E:=jI (show bJ (.mk 3 ⟨#[]⟩ need ws kids)=false by rw[ok3];simp[gn0,gw0])
        clear gn0 gw0
        go_wp2_with fail
        go_meet
        exact⟨congrArg Value.bool E.out.symm,jQ _ _⟩
      ·have zn0:(need==0)=false:=by rw[bP];exact gn0
       have E:=jI (show bJ (.mk 3 ⟨#[]⟩ need ws kids)=false by rw[ok3];simp[gn0])
       clear gn0
       go_wp2_with fail
       go_meet
       exact⟨congrArg Value.bool E.out.symm,jQ _ _⟩
     ·have hp:=key2 hz
      have hne2:=gP hp
      have hne:=dK hp
      have E:=jI (show bJ (.mk 3 nm need ws kids)=false by simp[bJ,Tm.op,Tm.name,hz])
      go_wp2_with fail
      go_meet
      exact⟨congrArg Value.bool E.out.symm,jQ _ _⟩
    have q3:(op==3)=false:=by rw[bP];exact h3
    by_cases h4:op=4
    ·subst h4
     by_cases hz:nm.size=0
     ·obtain rfl:nm=⟨#[]⟩:=by
       have:nm.data.toList=[]:=List.length_eq_zero_iff.1 (by simpa using hz)
       rw[←gN nm,this];rfl
      by_cases gn0:need=0
      ·have zn0:(need==0)=true:=by rw[beq_iff_eq];exact gn0
       by_cases gw0:ws.length=0
       ·have zw0:((ws.length:Int)==0)=true:=J2 gw0
        by_cases gk2:2≤kids.length
        ·have zk2:(2:Int)≤(kids.length:Int):=by omega
         have E:=jI (show bJ (.mk 4 ⟨#[]⟩ need ws kids)=true by rw[ok4];simp[gn0,gw0,gk2])
         clear gn0 gw0 gk2
         go_wp2_with fail
         go_meet
         exact⟨congrArg Value.bool E.out.symm,jQ _ _⟩
        ·have zk2:¬(2:Int)≤(kids.length:Int):=by omega
         have E:=jI (show bJ (.mk 4 ⟨#[]⟩ need ws kids)=false by rw[ok4];simp[gn0,gw0,gk2])
         clear gn0 gw0 gk2
         go_wp2_with fail
         go_meet
         exact⟨congrArg Value.bool E.out.symm,jQ _ _⟩
       ·have zw0:((ws.length:Int)==0)=false:=lM gw0
        have E:=jI (show bJ (.mk 4 ⟨#[]⟩ need ws kids)=false by rw[ok4];simp[gn0,gw0])
        clear gn0 gw0
        go_wp2_with fail
        go_meet
        exact⟨congrArg Value.bool E.out.symm,jQ _ _⟩
      ·have zn0:(need==0)=false:=by rw[bP];exact gn0
       have E:=jI (show bJ (.mk 4 ⟨#[]⟩ need ws kids)=false by rw[ok4];simp[gn0])
       clear gn0
       go_wp2_with fail
       go_meet
       exact⟨congrArg Value.bool E.out.symm,jQ _ _⟩
     ·have hp:=key2 hz
      have hne2:=gP hp
      have hne:=dK hp
      have E:=jI (show bJ (.mk 4 nm need ws kids)=false by simp[bJ,Tm.op,Tm.name,hz])
      go_wp2_with fail
      go_meet
      exact⟨congrArg Value.bool E.out.symm,jQ _ _⟩
    have q4:(op==4)=false:=by rw[bP];exact h4
    by_cases h5:op=5
    ·subst h5
     by_cases hz:nm.size=0
     ·obtain rfl:nm=⟨#[]⟩:=by
       have:nm.data.toList=[]:=List.length_eq_zero_iff.1 (by simpa using hz)
       rw[←gN nm,this];rfl
      by_cases gn0:need=0
      ·have zn0:(need==0)=true:=by rw[beq_iff_eq];exact gn0
       by_cases gw0:ws.length=0
       ·have zw0:((ws.length:Int)==0)=true:=J2 gw0
        by_cases gk1:kids.length=1
        ·have zk1:((kids.length:Int)==1)=true:=J2 gk1
         have E:=jI (show bJ (.mk 5 ⟨#[]⟩ need ws kids)=true by rw[ok5];simp[gn0,gw0,gk1])
         clear gn0 gw0 gk1
         go_wp2_with fail
         go_meet
         exact⟨congrArg Value.bool E.out.symm,jQ _ _⟩
        ·have zk1:((kids.length:Int)==1)=false:=lM gk1
         have E:=jI (show bJ (.mk 5 ⟨#[]⟩ need ws kids)=false by rw[ok5];simp[gn0,gw0,gk1])
         clear gn0 gw0 gk1
         go_wp2_with fail
         go_meet
         exact⟨congrArg Value.bool E.out.symm,jQ _ _⟩
       ·have zw0:((ws.length:Int)==0)=false:=lM gw0
        have E:=jI (show bJ (.mk 5 ⟨#[]⟩ need ws kids)=false by rw[ok5];simp[gn0,gw0])
        clear gn0 gw0
        go_wp2_with fail
        go_meet
        exact⟨congrArg Value.bool E.out.symm,jQ _ _⟩
      ·have zn0:(need==0)=false:=by rw[bP];exact gn0
       have E:=jI (show bJ (.mk 5 ⟨#[]⟩ need ws kids)=false by rw[ok5];simp[gn0])
       clear gn0
       go_wp2_with fail
       go_meet
       exact⟨congrArg Value.bool E.out.symm,jQ _ _⟩
     ·have hp:=key2 hz
      have hne2:=gP hp
      have hne:=dK hp
      have E:=jI (show bJ (.mk 5 nm need ws kids)=false by simp[bJ,Tm.op,Tm.name,hz])
      go_wp2_with fail
      go_meet
      exact⟨congrArg Value.bool E.out.symm,jQ _ _⟩
    have q5:(op==5)=false:=by rw[bP];exact h5
    have E:=jI (show bJ (.mk op nm need ws kids)=false by simp[bJ,Tm.op,h1,h2,h3,h4,h5,h6,h7,h8])
    go_wp2_with fail
    go_meet
    exact⟨congrArg Value.bool E.out.symm,jQ _ _⟩
  case rest=>
   obtain⟨rfl,hbc⟩:=hcut
   have hsc:=hbc.size
   have hbw:Below w.heap.size w wc:=hb0.trans (hbc.mono (dF hs0))
   have hrW:=(hbc.block _ hs0).trans hr0
   obtain⟨c0,c1,c2,c3,c4,-⟩:=uL hrW
   have hSc:∀g,S g→g<wc.heap.size:=fun g hg=>by have:=hS g hg;omega
   have hkw:Kept S w wc:=aj hbw hS
   have e:lT (.mk op nm need ws kids)=(bJ (.mk op nm need ws kids)&&ws.all small&&kids.all lT):=okTm_eq _
   have E:=jI e
   clear e hrW
   cases hok:bJ (.mk op nm need ws kids)
   ·rw[hok] at E
    go_wp2
    go_ret
    exact⟨congrArg (fun b=>Ending.returned (.bool b)) (by rw[E.out];rfl),hbw⟩
   ·rw[hok] at E
    have hcw:=ug ws S wA cw wc (hw.keep hkw) hSc (by omega) 129 (enters_of func129 (by kernel_rfl) rfl) _ (Ee wc ws)
    have e1:ws.all small=!ws.any (fun n=>!small n):=by rw[List.not_any_eq_all_not];simp
    have e2:kids.all lT=!kids.any (fun n=>!lT n):=by rw[List.not_any_eq_all_not];simp
    rw[e1,e2,Bool.true_and] at E
    clear e1 e2
    cases hwt:ws.any (fun n=>!small n)
    ·rw[hwt] at hcw E
     have HCW:=jI hcw
     clear hcw
     go_wp2_with fail
     refine HCW.out.mono ?_
     rintro e W2 ⟨rfl,hb2⟩
     have hs2:=hb2.size
     have hbw2:Below w.heap.size w W2:=hbw.trans (hb2.mono hbw.size)
     have hlt2:w.heap.size<wc.heap.size:=by omega
     have d4:=(hb2.cell (p:=⟨w.heap.size,4,none⟩) hlt2).trans c4
     have hSc2:∀g,S g→g<W2.heap.size:=fun g hg=>by have:=hS g hg;have:=hbw2.size;omega
     have yt:aO (dX W2 S) W2 S 5 kA kids:=⟨vs,hl,hk.keep (aj hbw2 hS),fun i x u hx hu=>(h i x u hx hu).keep (aj hbw2 hS)⟩
     have HCK:=jI (Bt kids S kA kc W2 yt hSc2 (by omega) 131 (enters_of func131 (by kernel_rfl) rfl) _ (term_test W2 S kids hSc2 IH.out (fun k hk=>by have:=jw (t:=.mk op nm need ws kids) hk;omega)))
     clear c0 c1 c2 c3 c4
     go_wp2_with fail
     refine HCK.out.mono ?_
     rintro e W3 ⟨rfl,hb3⟩
     go_wp2
     go_ret
     exact⟨congrArg (fun b=>Ending.returned (.bool b)) (by rw[E.out];simp),hbw2.trans (hb3.mono hbw2.size)⟩
    ·rw[hwt] at hcw E
     have HCW:=jI hcw
     clear hcw
     go_wp2_with fail
     refine HCW.out.mono ?_
     rintro e W2 ⟨rfl,hb2⟩
     go_wp2
     go_ret
     exact⟨congrArg (fun b=>Ending.returned (.bool b)) (by rw[E.out];simp),hbw.trans (hb2.mono hbw.size)⟩
theorem kr(t:Tm):VOk t:=by
 have:∀(n:Nat)(t:Tm),ax t≤n→VOk t:=by
  intro n
  induction n with
  |zero=>intro t ht;exact absurd ht (by cases t;rw[ax];omega)
  |succ n ih=>intro t ht;exact xZ t (fun k hk=>ih k (by have:=jw hk;omega))
 exact this _ t (aP _)
end Go.Proofs.YtmohibkomlhlaaaGreatDoor
