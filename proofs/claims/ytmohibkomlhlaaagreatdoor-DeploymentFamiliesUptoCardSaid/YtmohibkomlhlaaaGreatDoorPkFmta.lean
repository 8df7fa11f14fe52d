/- The contracts of the library's functions at this seat's program, as the kit's tool lays them (lay-shelf, lay-plain); each by one application. The contracts of the program's texts of lists and terms: list, joinedText, termText. The contract of the program's text of a fault with sets of names: faultText at FaultSets. The contract of the program's text of a fault: faultText. -/
import Derived.Test.YtmohibkomlhlaaaGreatDoorPkValc
import Derived.Lib.SmallJoins
import Derived.Lib.AppendIntMem
set_option maxRecDepth 100000
set_option maxHeartbeats 4000000
namespace Go.Proofs
open Go.Shelf
open _root_.Go.Proofs.Tryz
def Tryz.laysM171_ren:Go.Shelf.Ren:=⟨fun|171=>133|243=>168|246=>201|283=>218|284=>219|285=>220|286=>221|129=>232|317=>239|318=>240|319=>241|320=>242|337=>251|338=>252|n=>n,fun|3=>3|9=>9|2=>2|4=>4|171=>271|0=>0|53=>272|37=>190|5=>5|173=>275|212=>288|51=>259|20=>20|213=>289|46=>260|232=>290|233=>302|n=>n,fun|17=>1|18=>2|19=>3|n=>n⟩
theorem Tryz.laysM171:Go.Proofs.LaysM.n171 prog Tryz.laysM171_ren:={
 mixed:=by kernel_rfl
 f129:=func232.trans (congrArg some (by kernel_rfl))
 f171:=func133.trans (congrArg some (by kernel_rfl))
 f243:=func168.trans (congrArg some (by kernel_rfl))
 f246:=func201.trans (congrArg some (by kernel_rfl))
 f283:=func218.trans (congrArg some (by kernel_rfl))
 f284:=func219.trans (congrArg some (by kernel_rfl))
 f285:=func220.trans (congrArg some (by kernel_rfl))
 f286:=func221.trans (congrArg some (by kernel_rfl))
 f317:=func239.trans (congrArg some (by kernel_rfl))
 f318:=func240.trans (congrArg some (by kernel_rfl))
 f319:=func241.trans (congrArg some (by kernel_rfl))
 f320:=func242.trans (congrArg some (by kernel_rfl))
 f337:=func251.trans (congrArg some (by kernel_rfl))
 f338:=func252.trans (congrArg some (by kernel_rfl))
 t0:=underlying0
 a0:=Tryz.isAgg0
 z0:=Tryz.sizeOf0
 v0:=Tryz.zeroValue0
 t2:=underlying2
 a2:=Tryz.isAgg2
 z2:=Tryz.sizeOf2
 v2:=Tryz.zeroValue2
 t3:=underlying3
 a3:=Tryz.isAgg3
 z3:=Tryz.sizeOf3
 v3:=Tryz.zeroValue3
 t4:=underlying4
 a4:=Tryz.isAgg4
 z4:=Tryz.sizeOf4
 v4:=Tryz.zeroValue4
 t5:=underlying5
 a5:=Tryz.isAgg5
 z5:=Tryz.sizeOf5
 v5:=Tryz.zeroValue5
 t9:=underlying9
 a9:=Tryz.isAgg9
 z9:=Tryz.sizeOf9
 v9:=Tryz.zeroValue9
 t20:=underlying20
 a20:=Tryz.isAgg20
 z20:=Tryz.sizeOf20
 v20:=Tryz.zeroValue20
 t37:=underlying190
 a37:=Tryz.isAgg190
 z37:=Tryz.sizeOf190
 v37:=Tryz.zeroValue190
 t46:=underlying260
 a46:=Tryz.isAgg260
 z46:=Tryz.sizeOf260
 v46:=Tryz.zeroValue260
 t51:=underlying259
 a51:=Tryz.isAgg259
 z51:=Tryz.sizeOf259
 v51:=Tryz.zeroValue259
 t53:=underlying272
 a53:=Tryz.isAgg272
 z53:=Tryz.sizeOf272
 v53:=Tryz.zeroValue272
 t171:=underlying271
 a171:=Tryz.isAgg271
 z171:=Tryz.sizeOf271
 v171:=Tryz.zeroValue271
 t173:=underlying275
 a173:=Tryz.isAgg275
 z173:=Tryz.sizeOf275
 v173:=Tryz.zeroValue275
 t212:=underlying288
 a212:=Tryz.isAgg288
 z212:=Tryz.sizeOf288
 v212:=Tryz.zeroValue288
 t213:=underlying289
 a213:=Tryz.isAgg289
 z213:=Tryz.sizeOf289
 t232:=underlying290
 a232:=Tryz.isAgg290
 z232:=Tryz.sizeOf290
 v232:=Tryz.zeroValue290
 t233:=underlying302
 a233:=Tryz.isAgg302
 z233:=Tryz.sizeOf302
 v233:=Tryz.zeroValue302
 g17:=by kernel_rfl
 g18:=by kernel_rfl
 g19:=by kernel_rfl
 i0:=by kernel_rfl
 i2:=by kernel_rfl
 i3:=by kernel_rfl
 i4:=by kernel_rfl
 i5:=by kernel_rfl
 i9:=by kernel_rfl
 i20:=by kernel_rfl
 i37:=by kernel_rfl
 i46:=by kernel_rfl
 i51:=by kernel_rfl
 i53:=by kernel_rfl
 i171:=by kernel_rfl
 i173:=by kernel_rfl
 i212:=by kernel_rfl
 i232:=by kernel_rfl
 i233:=by kernel_rfl
 m17:=by kernel_rfl
 m18:=by kernel_rfl
 m19:=by kernel_rfl }
open Go.RowKit Go.Sort Go.Lib in
theorem Tryz.strconv_Itoa(n:Int)(h0:-9223372036854775808≤n)(h1:n≤9223372036854775807)(w:World) (htab:Lib.TabIs prog w "internal/strconv.uint64pow10" .u64 Lib.pow10Tab) :
  Calls prog 133 #[.int .i64 n] w fun e w'=>e=.returned (.string ⟨(Lib.itoa n).toArray⟩)∧∃k os,w'=grow (w.drewN k) os:=Any.strconv_Itoa Tryz.laysM171 n h0 h1 w htab
def Tryz.lays107_ren:Go.Shelf.Ren:=⟨fun|107=>122|108=>163|n=>n,fun|28=>23|3=>3|4=>4|0=>0|n=>n,fun|n=>n⟩
theorem Tryz.lays107:Go.Proofs.Lays.n107 prog Tryz.lays107_ren:={
 mixed:=by kernel_rfl
 f107:=func122.trans (congrArg some (by kernel_rfl))
 f108:=func163.trans (congrArg some (by kernel_rfl))
 t0:=underlying0
 a0:=Tryz.isAgg0
 z0:=Tryz.sizeOf0
 v0:=Tryz.zeroValue0
 t3:=underlying3
 a3:=Tryz.isAgg3
 z3:=Tryz.sizeOf3
 v3:=Tryz.zeroValue3
 t4:=underlying4
 a4:=Tryz.isAgg4
 z4:=Tryz.sizeOf4
 v4:=Tryz.zeroValue4
 t28:=underlying23
 a28:=Tryz.isAgg23
 z28:=Tryz.sizeOf23
 v28:=Tryz.zeroValue23 }
open Go.Lib in
theorem Tryz.slices_Contains_int(b off n c:Nat)(zs:List Int)(x:Int)(w:World)(hz:n≤zs.length)(hbig:n≤9223372036854775807)(hc:∀j,j<zs.length→w.cell? ⟨b,off+j,none⟩=some (.int .i64 (zs.getD j 0))):
  Calls prog 122 #[.slice (some ⟨b,off,none⟩) n c,.int .i64 x] w fun e w'=>e=.returned (.bool ((zs.take n).contains x))∧w'=w:=Any.slices_Contains_int Tryz.lays107 b off n c zs x w hz hbig hc
end Go.Proofs
namespace Go.Proofs.YtmohibkomlhlaaaGreatDoor
open Go.RowKit
open _root_.Go.Proofs.Tryz
def Pow(w:World):Prop:=Lib.TabIs prog w "internal/strconv.uint64pow10" .u64 Lib.pow10Tab
theorem gPow:prog.globalNamed "internal/strconv.uint64pow10" = some 1 := by kernel_rfl
theorem Pow.below{w w':World}(h:Pow w)(hb:Below w.heap.size w w'):Pow w':=Joins.tab_stays gPow h hb (aP _)
theorem uO(n:Int)(h:small n=true)(w:World)(hp:Pow w):Calls prog 133 #[.int .i64 n] w fun e w'=>e=.returned (.string (bs (Lib.itoa n)))∧Below w.heap.size w w':=by
 have:=vJ h
 refine (Tryz.strconv_Itoa n (by omega) (by omega) w hp).mono ?_
 rintro e w' ⟨rfl,k,os,rfl⟩
 exact⟨rfl,Lib.below_grow _ _ (aP _) k os⟩
theorem oQ(xs:List ByteArray)(A:Option Addr)(c:Nat)(sep:ByteArray)(w:World)(S:Nat→Prop)(h:ak w S 1 A xs.length (aC xs))(hS:∀g,S g→g<w.heap.size)(hc:xs.length≤c)(hlen:(joined xs sep.data.toList).length≤100000000000000)(hn:xs.length≤1000000000000):
  Calls prog 161 #[.slice A xs.length c,.string sep] w fun e w'=>e=.returned (.string (bs (joined xs sep.data.toList)))∧Below w.heap.size w w':=by
 cases hx:xs with
 |nil=>
  refine (Tryz.strings_Join_none A c sep w).mono ?_
  rintro e w' ⟨rfl,rfl⟩
  exact⟨rfl,jQ _ _⟩
 |cons y r=>
  rw[←hx]
  obtain⟨g,o,rfl,hSg,hcell⟩:=h.cells (by rw[hx];simp)
  refine (Tryz.strings_Join g o c xs sep w (fun j x hj=>hcell j _ (by simp[aC,hj])) (hS g hSg) (by omega) hc ?_).mono ?_
  ·exact cK hlen (by omega)
  ·rintro e w' ⟨rfl,hb⟩
   exact⟨rfl,hb⟩
theorem oO(xs:List ByteArray)(A:Option Addr)(c:Nat)(w:World)(S:Nat→Prop)(h:ak w S 1 A xs.length (aC xs))(hS:∀g,S g→g<w.heap.size)(hc:xs.length≤c)(hlen:(eO xs).length≤100000000000000)(hn:xs.length≤1000000000000):
  Calls prog 134 #[.slice A xs.length c] w fun e w'=>e=.returned (.string (bs (eO xs)))∧Below w.heap.size w w':=by
 have HJ:=jI (oQ xs A c ⟨#[44,32]⟩ w S h hS hc hlen hn)
 clear h
 go_enter func134,ntmps134
 go_wp2_with fail
 refine HJ.out.mono ?_
 rintro e w' ⟨rfl,hb⟩
 go_wp2
 go_ret
 exact⟨rfl,hb⟩
def TOk(t:Tm):Prop:=∀(v:Value)(w:World)(S:Nat→Prop),dX w S t v→(∀g,S g→g<w.heap.size)→lT t=true→ax t≤1000000000→Pow w→
 Calls prog 95 #[v] w fun e w'=>e=.returned (.string (bs (aS t)))∧Below w.heap.size w w'
def jK(ops:List Int)(l:List Tm):List ByteArray:=l.map fun k=>bs (par ops k (aS k))
theorem rE(ops:List Int)(l:List Tm)(k:Nat)(h:k<l.length):jK ops (l.take (k+1))=jK ops (l.take k)++[bs (par ops l[k] (aS l[k]))]:=by
 unfold jK;rw[cO h,List.map_append];rfl
theorem nP(ops:List Int)(l:List Tm)(sep:List UInt8):joined (jK ops l) sep=Lib.join (l.map fun k=>par ops k (aS k)) sep:=by
 unfold joined jK lst
 rw[List.map_map]
 congr 1
theorem kG{w:World}{S:Nat→Prop}{A:Option Addr}{l:List Tm}(h:aO (dX w S) w S 5 A l){i:Nat}(hi:i<l.length):
  ∃g o op nm nd wA wn wc kA kn kc,A=some ⟨g,o,none⟩∧S g∧dX w S l[i] (.agg #[.int .i64 op,.string nm,.int .i64 nd,.slice wA wn wc,.slice kA kn kc])∧w.cell? ⟨g,o+i * 5,none⟩=some (.int .i64 op)∧w.cell? ⟨g,o+i * 5+1,none⟩=some (.string nm)∧
   w.cell? ⟨g,o+i * 5+2,none⟩=some (.int .i64 nd)∧w.cell? ⟨g,o+i * 5+3,none⟩=some (.slice wA wn wc)∧w.cell? ⟨g,o+i * 5+4,none⟩=some (.slice kA kn kc)∧op=l[i].op:=by
 obtain⟨g,o,v,hA,hS,hp,hc⟩:=dB (fun x v h=>by obtain⟨op,nm,nd,wA,wn,wc,kA,kn,kc,rfl⟩:=h.form;rfl) h hi
 have hp2:=hp
 obtain⟨op,nm,nd,wA,wn,wc,kA,kn,kc,rfl⟩:=hp.form
 refine⟨g,o,_,_,_,_,_,_,_,_,_,hA,hS,hp2,hc 0 _ rfl,hc 1 _ rfl,hc 2 _ rfl,hc 3 _ rfl,hc 4 _ rfl,?_⟩
 generalize l[i]=t at hp
 cases hp
 rfl
theorem pI(l:List Tm)(ops:List Int)(sep:ByteArray)(S:Nat→Prop)(A oA:Option Addr)(c oc:Nat)(w:World)(hl:aO (dX w S) w S 5 A l)(hS:∀g,S g→g<w.heap.size)
  (ho:ak w (·<w.heap.size) 1 oA ops.length (ops.map (Value.int .i64))) (hon:0<ops.length) (hol:ops.length≤10) (hok:∀k∈l,lT k=true) (hT:∀k∈l,TOk k) (hsz:dG l≤1000000000) (hsep:sep.size≤3) (hpw:Pow w):
  Calls prog 132 #[.slice A l.length c,.string sep,.slice oA ops.length oc] w fun e w'=>e=.returned (.string (bs (Lib.join (l.map fun k=>par ops k (aS k)) sep.data.toList)))∧Below w.heap.size w w':=by
 have HL:=jI hl
 have HO:=jI ho
 have HK:=jI hok
 have HT:=jI hT
 have HP:=jI hpw
 have hll:=lW l
 clear hl ho hok hT hpw
 go_enter func132,ntmps132
 go_wp2
 go_loopw [7,13] (fun v x wr=>∃k:Nat,k≤l.length∧x=.int .i64 k∧wr.ownsRow w.heap.size 9 1 v k (aC (jK ops (l.take k)))∧Below w.heap.size w wr) (fun _ x _=>l.length-(intOf x).toNat)
 case atStart=>exact⟨0,cu _,rfl,World.ownsRow_nil _ _ _ _,jQ _ _⟩
 case round=>
  obtain⟨k,hk,rfl,hown,hb⟩:=hrel
  have hsr:=hb.size
  by_cases hlt:k<l.length
  ·have hlr:=HL.out.keep (P':=dX wr S) (aj hb hS) (fun _ _ h=>h.keep (aj hb hS))
   obtain⟨g,o,op,nm,nd,wA,wn,wc,kA,kn,kc,rfl,hSg,htm,k0,k1,k2,k3,k4,hop⟩:=kG hlr hlt
   have hgs:g<wr.heap.size:=by have:=hS g hSg;omega
   have hkI:(k:Int)<(l.length:Int):=by omega
   have hk0:(0:Int)≤(k:Int):=by omega
   obtain⟨t,ht⟩:=kE (l[k])
   have hmem:t∈l:=by rw[ht];exact bQ hlt
   rw[←ht] at htm hop
   have HTX:=jI ht
   have HOP:=jI hop
   have htl:=gT (HK.out t hmem)
   have hts:=eZ hmem
   have hbA:∀o,Below wr.heap.size wr (wr.alloc o):=fun o=>(jQ _ _).alloc (aP _) o
   have HC:=jI (fun o=>HT.out t hmem _ (wr.alloc o) S (htm.keep (aA (hbA o))) (fun g hg=>by have:=hS g hg;simp;omega) (HK.out t hmem) (by omega) ((HP.out.below hb).below (hbA o)))
   clear ht hop hlr htm
   go_wp2_with fail
   refine (HC.out _).mono ?_
   rintro e W1 ⟨rfl,hb1⟩
   have hs1:=hb1.size
   rw[show (wr.alloc (.cells #[.int .i64 op,.string nm,.int .i64 nd,.slice wA wn wc,.slice kA kn kc] 26)).heap.size=wr.heap.size+1 by simp] at hs1 hb1
   have hw1:Below wr.heap.size wr W1:=(hbA _).trans (hb1.mono (by omega))
   have iC:Below w.heap.size w W1:=hb.trans (hw1.mono hsr)
   have c0:W1.cell? ⟨wr.heap.size,0,none⟩=some (.int .i64 op):=(hb1.cell (p:=⟨wr.heap.size,0,none⟩) (by simp)).trans (by simp)
   obtain⟨g2,o2,rfl,hg2,hoc⟩:=(HO.out.keep (IG (B:=w.heap.size) iC)).cells hon
   have HCI:=jI (Tryz.slices_Contains_int g2 o2 ops.length oc ops op W1 (aP _) (by omega) (fun j hj=>by
    have:=hoc j (.int .i64 (ops.getD j 0)) (by simp[hj])
    exact this))
   obtain⟨T,hTT⟩:∃T:ByteArray,T=bs (aS t):=⟨_,rfl⟩
   have hTs:T.size≤48000000000:=by rw[hTT,fD];omega
   rw[←hTT]
   have HTT:=jI hTT
   have hown1:=own_below hown hw1 (aP _)
   have hsw1:w.heap.size≤W1.heap.size:=iC.size
   clear hTT k0 k1 k2 k3 k4 hoc HC hown
   rw[List.take_length] at HCI
   go_wp2_with fail
   refine HCI.out.mono ?_
   rintro e W2 ⟨rfl,rfl⟩
   cases hpo:ops.contains op
   ·have EQ:=jI (show T=bs (par ops t (aS t)) by rw[HTT.out];unfold par;rw[←HOP.out,hpo];rfl)
    go_wp2_with (at_builtin;refine gK W2 rfl (.tmp 26) (.tmp 28) rfl w.heap.size _ _ _ hown1 rfl T rfl (by omega) hsw1 ?_;intro v' w3 hown3 hg3 hv3)
    go_roundw
    case rel=>
     refine⟨k+1,by omega,by go_num,?_,iC.trans (aN hown1 hg3 hsw1)⟩
     rw[rE _ _ _ hlt,iZ,←HTX.out,←EQ.out];exact hown3
    case measure=>simp[intOf];omega
   ·have EQ:=jI (show (⟨#[40]⟩:ByteArray)++T++(⟨#[41]⟩:ByteArray)=bs (par ops t (aS t)) by
     rw[HTT.out];unfold par;rw[←HOP.out,hpo]
     rw[show (⟨#[40]⟩:ByteArray)=bs [40] from rfl,show (⟨#[41]⟩:ByteArray)=bs [41] from rfl,iL,iL];rfl)
    go_wp2_with (at_builtin;refine gK W2 rfl (.tmp 26) (.tmp 28) rfl w.heap.size _ _ _ hown1 rfl ((⟨#[40]⟩:ByteArray)++T++(⟨#[41]⟩:ByteArray)) rfl (by omega) hsw1 ?_;intro v' w3 hown3 hg3 hv3)
    go_roundw
    case rel=>
     refine⟨k+1,by omega,by go_num,?_,iC.trans (aN hown1 hg3 hsw1)⟩
     rw[rE _ _ _ hlt,iZ,←HTX.out,←EQ.out];exact hown3
    case measure=>simp[intOf];omega
  ·obtain rfl:k=l.length:=by omega
   obtain⟨A9,c9,rfl,hc9⟩:=aD hown
   rw[List.take_length] at hown
   have hlen:(jK ops l).length=l.length:=by simp[jK]
   have hjl:(joined (jK ops l) sep.data.toList).length≤48 * dG l:=by rw[nP];exact parts_le HK.out ops _ (by simpa using hsep)
   have hj:=oQ (jK ops l) A9 c9 sep wr (·<wr.heap.size) (by rw[hlen];exact (ak.own hown).mono (fun g _ h=>h) (by decide)) (fun g h=>h) (by rw[hlen];exact hc9) (by omega) (by omega)
   rw[hlen,nP] at hj
   have HJ:=jI hj
   clear hj hjl hlen
   have hkI:¬(l.length:Int)<(l.length:Int):=by omega
   go_wp2_with fail
   refine HJ.out.mono ?_
   rintro e w' ⟨rfl,hb9⟩
   go_wp2
   go_ret
   exact⟨rfl,hb.trans (hb9.mono hsr)⟩
theorem text3(name:ByteArray)(need:Int)(ws:List Int)(kids:List Tm):aS (.mk 3 name need ws kids)=Lib.join (kids.map fun k=>par [3,4] k (aS k)) [32,38,32]:=by rw[iF];show Lib.join (List.zipWith (par [3,4]) kids (kids.map aS)) [32,38,32]=_;rw[zip_map]
theorem text4(name:ByteArray)(need:Int)(ws:List Int)(kids:List Tm):aS (.mk 4 name need ws kids)=Lib.join (kids.map fun k=>par [4] k (aS k)) [32,124,32]:=by rw[iF];show Lib.join (List.zipWith (par [4]) kids (kids.map aS)) [32,124,32]=_;rw[zip_map]
theorem text5(name:ByteArray)(need:Int)(ws:List Int)(k:Tm):aS (.mk 5 name need ws [k])=[100,117,97,108,40]++aS k++[41]:=by rw[iF];rfl
theorem text2(name:ByteArray)(need:Int)(ws:List Int)(kids:List Tm):aS (.mk 2 name need ws kids)=Lib.itoa need++[40]++Lib.join (weighed ws (kids.map aS)) [44,32]++[41]:=by rw[iF];rfl
theorem text6(name:ByteArray)(need:Int)(ws:List Int)(kids:List Tm):aS (.mk 6 name need ws kids)=[109,97,106,111,114,105,116,121,40]++name.data.toList++[41]:=by rw[iF];rfl
theorem text7(name:ByteArray)(need:Int)(ws:List Int)(kids:List Tm):aS (.mk 7 name need ws kids)=[97,108,108,40]++name.data.toList++[41]:=by rw[iF];rfl
theorem text8(name:ByteArray)(need:Int)(ws:List Int)(kids:List Tm):aS (.mk 8 name need ws kids)=[97,110,121,40]++name.data.toList++[41]:=by rw[iF];rfl
theorem text1(name:ByteArray)(need:Int)(ws:List Int)(kids:List Tm):aS (.mk 1 name need ws kids)=name.data.toList:=by rw[iF];rfl
theorem JK(a b c:List UInt8)(A B C:ByteArray)(ha:A=bs a)(hb:B=bs b)(hc:C=bs c):A++B++C=bs (a++b++c):=by rw[ha,hb,hc,iL,iL]
theorem cat2(a b:List UInt8)(A B:ByteArray)(ha:A=bs a)(hb:B=bs b):A++B=bs (a++b):=by rw[ha,hb,iL]
def lU(ws:List Int)(l:List Tm):List ByteArray:=(weighed ws (l.map aS)).map bs
theorem qE(ws:List Int)(l:List Tm)(sep:List UInt8):joined (lU ws l) sep=Lib.join (weighed ws (l.map aS)) sep:=by
 unfold joined lU lst
 rw[List.map_map]
 congr 1
 exact List.map_id'' (fun x=>jH x) _
theorem Eg(l:List Tm)(k:Nat)(h:k<l.length):lU [] (l.take (k+1))=lU [] (l.take k)++[bs (aS l[k])]:=by
 show ((l.take (k+1)).map aS).map bs=((l.take k).map aS).map bs++_
 rw[cO h,List.map_append,List.map_append];rfl
theorem Ef(ws:List Int)(l:List Tm)(k:Nat)(hw:k<ws.length)(h:k<l.length):lU (ws.take (k+1)) (l.take (k+1))=lU (ws.take k) (l.take k)++[bs (aS l[k]++([42]++Lib.itoa ws[k]))]:=by
 unfold lU
 have e:∀(a:List Int)(b:List Tm),a.length=b.length→weighed a (b.map aS)=List.zipWith (fun x w=>x++([42]++Lib.itoa w)) (b.map aS) a:=by
  intro a b hab
  unfold weighed
  by_cases h0:a.length=0
  ·have ha:a=[]:=List.length_eq_zero_iff.1 h0
   have hb:b=[]:=List.length_eq_zero_iff.1 (by omega)
   subst ha hb;rfl
  ·rw[if_neg h0]
 rw[e _ _ (by simp;omega),e _ _ (by simp;omega),cO h,cO hw,List.map_append,List.zipWith_append (by simp;omega),List.map_append]
 rfl
theorem zU(ws:List Int)(l:List Tm)(h:ws.length=0∨ws.length=l.length):(lU ws l).length=l.length:=by
 unfold lU weighed
 split
 ·simp
 ·simp;omega
theorem Ab(t:Tm)(ih:∀k∈t.kids,TOk k):TOk t:=by
 intro v w S hv hS hok hsz hpw
 obtain⟨hhead,hws,hks⟩:=oL hok
 have hss:=gQ t
 have htl:=gT hok
 cases hv with
 |mk op nm need ws kids wA kA cw kc vs hw hwc hk hkc hl h=>
 have hss:ax (.mk op nm need ws kids)=1+nm.size+ws.length+dG kids:=hss
 have hnm:nm.size≤1000000000:=by omega
 have hkz:dG kids≤1000000000:=by omega
 have hkl:=lW kids
 have hwl:ws.length≤1000000000:=by omega
 have IH:=jI (show ∀k∈kids,TOk k from ih)
 have HKok:=jI (show ∀k∈kids,lT k=true from hks)
 have HWok:=jI (show ∀k∈ws,small k=true from hws)
 have HH:=jI hhead
 have HWs:=jI hw
 have HKs:=jI hk
 have HLv:=jI hl
 have HV:=jI h
 have HP:=jI hpw
 have HTL:=jI (show (aS (.mk op nm need ws kids)).length≤48000000000 by omega)
 have hbA:∀o,Below w.heap.size w (w.alloc o):=fun o=>(jQ _ _).alloc (aP _) o
 clear ih hks hws hhead hw hk hl h hpw htl hss hok hsz
 by_cases h3:op=3
 ·subst h3
  have E:=jI (text3 nm need ws kids)
  have hj:Calls prog 132 #[.slice kA kids.length kc,.string ⟨#[32,38,32]⟩,.slice (some ⟨w.heap.size+1,0,none⟩) 2 2] ((w.alloc (.cells #[.int .i64 3,.string nm,.int .i64 need,.slice wA ws.length cw,.slice kA kids.length kc] 26)).alloc (.cells #[.int .i64 3,.int .i64 4] 3)) (fun e w'=>e=.returned (.string (bs (Lib.join (kids.map fun k=>par [3,4] k (aS k)) [32,38,32])))∧Below w.heap.size w w'):=by
   obtain⟨W0,hW0⟩:=kE (w.alloc (.cells #[.int .i64 3,.string nm,.int .i64 need,.slice wA ws.length cw,.slice kA kids.length kc] 26))
   rw[←hW0]
   have hs0:W0.heap.size=w.heap.size+1:=by rw[hW0];simp
   have hb0:Below w.heap.size w W0:=by rw[hW0];exact hbA _
   have hb1:Below w.heap.size w (W0.alloc (.cells #[.int .i64 3,.int .i64 4] 3)):=hb0.alloc hb0.size _
   have hr1:=jR W0 (.cells #[.int .i64 3,.int .i64 4] 3)
   have hs1:(W0.alloc (.cells #[.int .i64 3,.int .i64 4] 3)).heap.size=w.heap.size+1+1:=by simp[hs0]
   rw[hs0] at hr1
   clear hW0
   generalize W0.alloc (.cells #[.int .i64 3,.int .i64 4] 3)=W1 at hr1 hs1 hb1
   exact (pI kids [3,4] ⟨#[32,38,32]⟩ S kA (some ⟨w.heap.size+1,0,none⟩) kc 2 W1 ⟨vs,HLv.out,HKs.out.keep (aj hb1 hS),fun i x u hx hu=>(HV.out i x u hx hu).keep (aj hb1 hS)⟩ (fun g hg=>by have:=hS g hg;omega)
    ⟨rfl,fun _=>⟨w.heap.size+1,0,rfl,by omega,fun j u hu=>by rw[Nat.zero_add,j5 _ _ j _ _ _ hr1];simpa using hu⟩⟩ (by decide) (by decide) HKok.out IH.out (by omega) (by decide) (HP.out.below hb1)).mono fun e w' h=>⟨h.1,hb1.trans (h.2.mono hb1.size)⟩
  have HJ:=jI hj
  clear hj
  go_enter func95,ntmps95
  go_wp2_with fail
  refine HJ.out.mono ?_
  rintro e w' ⟨rfl,hb2⟩
  go_wp2
  go_ret
  exact⟨congrArg (fun b=>Ending.returned (.string (bs b))) E.out.symm,hb2⟩
 have q3:(op==3)=false:=by rw[bP];exact h3
 by_cases h4:op=4
 ·subst h4
  have E:=jI (text4 nm need ws kids)
  have hj:Calls prog 132 #[.slice kA kids.length kc,.string ⟨#[32,124,32]⟩,.slice (some ⟨w.heap.size+1,0,none⟩) 1 1] ((w.alloc (.cells #[.int .i64 4,.string nm,.int .i64 need,.slice wA ws.length cw,.slice kA kids.length kc] 26)).alloc (.cells #[.int .i64 4] 3)) (fun e w'=>e=.returned (.string (bs (Lib.join (kids.map fun k=>par [4] k (aS k)) [32,124,32])))∧Below w.heap.size w w'):=by
   obtain⟨W0,hW0⟩:=kE (w.alloc (.cells #[.int .i64 4,.string nm,.int .i64 need,.slice wA ws.length cw,.slice kA kids.length kc] 26))
   rw[←hW0]
   have hs0:W0.heap.size=w.heap.size+1:=by rw[hW0];simp
   have hb0:Below w.heap.size w W0:=by rw[hW0];exact hbA _
   have hb1:Below w.heap.size w (W0.alloc (.cells #[.int .i64 4] 3)):=hb0.alloc hb0.size _
   have hr1:=jR W0 (.cells #[.int .i64 4] 3)
   have hs1:(W0.alloc (.cells #[.int .i64 4] 3)).heap.size=w.heap.size+1+1:=by simp[hs0]
   rw[hs0] at hr1
   clear hW0
   generalize W0.alloc (.cells #[.int .i64 4] 3)=W1 at hr1 hs1 hb1
   exact (pI kids [4] ⟨#[32,124,32]⟩ S kA (some ⟨w.heap.size+1,0,none⟩) kc 1 W1 ⟨vs,HLv.out,HKs.out.keep (aj hb1 hS),fun i x u hx hu=>(HV.out i x u hx hu).keep (aj hb1 hS)⟩ (fun g hg=>by have:=hS g hg;omega)
    ⟨rfl,fun _=>⟨w.heap.size+1,0,rfl,by omega,fun j u hu=>by rw[Nat.zero_add,j5 _ _ j _ _ _ hr1];simpa using hu⟩⟩ (by decide) (by decide) HKok.out IH.out (by omega) (by decide) (HP.out.below hb1)).mono fun e w' h=>⟨h.1,hb1.trans (h.2.mono hb1.size)⟩
  have HJ:=jI hj
  clear hj
  go_enter func95,ntmps95
  go_wp2_with fail
  refine HJ.out.mono ?_
  rintro e w' ⟨rfl,hb2⟩
  go_wp2
  go_ret
  exact⟨congrArg (fun b=>Ending.returned (.string (bs b))) E.out.symm,hb2⟩
 have q4:(op==4)=false:=by rw[bP];exact h4
 by_cases h5:op=5
 ·subst h5
  obtain⟨k,rfl⟩:∃k,kids=[k]:=by
   have h5:=HH.out
   have e:bJ (.mk 5 nm need ws kids)=(decide (nm.size=0)&&decide (need=0)&&decide (ws.length=0)&&decide (kids.length=1)):=rfl
   rw[e] at h5
   simp only[Bool.and_eq_true,decide_eq_true_eq] at h5
   exact List.length_eq_one_iff.1 h5.2
  obtain⟨g,o,op,nm2,nd,wA2,wn,wc2,kA2,kn,kc2,rfl,hSg,htm,k0,k1,k2,k3,k4,-⟩:=kG (l:=[k]) (i:=0) (S:=S) (A:=kA) ⟨vs,HLv.out,HKs.out,HV.out⟩ (by simp)
  rw[Nat.zero_mul,Nat.add_zero] at k0 k1 k2 k3 k4
  have htm:dX w S k _:=htm
  have hgs:g<w.heap.size:=hS g hSg
  have hmem:k∈[k]:=by simp
  have htl:=gT (HKok.out k hmem)
  have hts:=eZ hmem
  have HC:=jI (fun o=>IH.out k hmem _ (w.alloc o) S (htm.keep (aA (hbA o))) (fun g hg=>by have:=hS g hg;simp;omega) (HKok.out k hmem) (by omega) (HP.out.below (hbA o)))
  have E:=jI (text5 nm need ws k)
  obtain⟨T,hTT⟩:∃T:ByteArray,T=bs (aS k):=⟨_,rfl⟩
  have hTs:T.size≤48000000000:=by rw[hTT,fD];omega
  have HTT:=jI hTT
  clear htm hTT
  go_enter func95,ntmps95
  go_wp2_with fail
  refine (HC.out _).mono ?_
  rintro e w' ⟨rfl,hb2⟩
  rw[←HTT.out]
  go_wp2
  go_ret
  refine⟨?_,(hbA _).trans (hb2.mono (by simp))⟩
  rw[E.out]
  exact congrArg (fun b=>Ending.returned (.string b)) (JK _ _ _ _ _ _ rfl HTT.out rfl)
 have q5:(op==5)=false:=by rw[bP];exact h5
 by_cases h6:op=6
 ·subst h6
  have E:=jI (show (⟨#[109,97,106,111,114,105,116,121,40]⟩:ByteArray)++nm++(⟨#[41]⟩:ByteArray)=bs (aS (.mk 6 nm need ws kids)) by
   rw[text6];exact JK _ _ _ _ _ _ rfl (gN nm).symm rfl)
  go_enter func95,ntmps95
  go_wp2
  go_ret
  exact⟨congrArg (fun b=>Ending.returned (.string b)) E.out,hbA _⟩
 have q6:(op==6)=false:=by rw[bP];exact h6
 by_cases h7:op=7
 ·subst h7
  have E:=jI (show (⟨#[97,108,108,40]⟩:ByteArray)++nm++(⟨#[41]⟩:ByteArray)=bs (aS (.mk 7 nm need ws kids)) by
   rw[text7];exact JK _ _ _ _ _ _ rfl (gN nm).symm rfl)
  go_enter func95,ntmps95
  go_wp2
  go_ret
  exact⟨congrArg (fun b=>Ending.returned (.string b)) E.out,hbA _⟩
 have q7:(op==7)=false:=by rw[bP];exact h7
 by_cases h8:op=8
 ·subst h8
  have E:=jI (show (⟨#[97,110,121,40]⟩:ByteArray)++nm++(⟨#[41]⟩:ByteArray)=bs (aS (.mk 8 nm need ws kids)) by
   rw[text8];exact JK _ _ _ _ _ _ rfl (gN nm).symm rfl)
  go_enter func95,ntmps95
  go_wp2
  go_ret
  exact⟨congrArg (fun b=>Ending.returned (.string b)) E.out,hbA _⟩
 have q8:(op==8)=false:=by rw[bP];exact h8
 by_cases h2:op=2
 ·subst h2
  obtain⟨hnd,hk0,hww⟩:small need=true∧0<kids.length∧(ws.length=0∨ws.length=kids.length):=by
   have h5:=HH.out
   have e:bJ (.mk 2 nm need ws kids)=(decide (nm.size=0)&&small need&&decide (0<kids.length)&&(decide (ws.length=0) || decide (ws.length=kids.length))):=rfl
   rw[e] at h5
   simp only[Bool.and_eq_true,Bool.or_eq_true,decide_eq_true_eq] at h5
   exact⟨h5.1.1.2,h5.1.2,h5.2⟩
  have E:=jI (text2 nm need ws kids)
  have HND:=jI hnd
  have HWW:=jI hww
  clear hnd hww
  go_enter func95,ntmps95
  go_wp2
  obtain⟨W0,hW0⟩:=kE (w.alloc (.cells #[.int .i64 2,.string nm,.int .i64 need,.slice wA ws.length cw,.slice kA kids.length kc] 26))
  have hb0:Below w.heap.size w W0:=by rw[hW0];exact hbA _
  have hs0:w.heap.size<W0.heap.size:=by rw[hW0];simp
  have hr0:W0.heap[w.heap.size]?=some (.cells #[.int .i64 2,.string nm,.int .i64 need,.slice wA ws.length cw,.slice kA kids.length kc] 26 (0,0)):=by rw[hW0];exact jR w _
  rw[←hW0]
  have HR0:=jI hr0
  clear hW0 hr0
  go_loopw [3,53] (fun v x wr=>∃k:Nat,k≤kids.length∧x=.int .i64 k∧wr.ownsRow W0.heap.size 9 1 v k (aC (lU (ws.take k) (kids.take k)))∧Below W0.heap.size W0 wr) (fun _ x _=>kids.length-(intOf x).toNat)
  case atStart=>exact⟨0,cu _,rfl,World.ownsRow_nil _ _ _ _,jQ _ _⟩
  case round=>
   obtain⟨k,hk,rfl,hown,hb⟩:=hrel
   have hsr:=hb.size
   have hbw:Below w.heap.size w wr:=hb0.trans (hb.mono (dF hs0))
   have hrr:=(hb.block _ hs0).trans HR0.out
   by_cases hlt:k<kids.length
   ·obtain⟨g,o,op,nm2,nd,wA2,wn,wc2,kA2,kn,kc2,rfl,hSg,htm,k0,k1,k2,k3,k4,-⟩:=kG (l:=kids) (i:=k) (S:=S) (A:=kA) (w:=wr) ⟨vs,HLv.out,HKs.out.keep (aj hbw hS),fun i x u hx hu=>(HV.out i x u hx hu).keep (aj hbw hS)⟩ hlt
    have hgs:g<wr.heap.size:=by have:=hS g hSg;omega
    have hkI:(k:Int)<(kids.length:Int):=by omega
    have hkz0:(0:Int)≤(k:Int):=by omega
    obtain⟨t,ht⟩:=kE (kids[k])
    have hmem:t∈kids:=by rw[ht];exact bQ hlt
    rw[←ht] at htm
    have HTX:=jI ht
    have htl:=gT (HKok.out t hmem)
    have hts:=eZ hmem
    have hbA:∀o,Below wr.heap.size wr (wr.alloc o):=fun o=>(jQ _ _).alloc (aP _) o
    have HC:=jI (fun o=>IH.out t hmem _ (wr.alloc o) S (htm.keep (aA (hbA o))) (fun g hg=>by have:=hS g hg;simp;omega) (HKok.out t hmem) (by omega) ((HP.out.below hbw).below (hbA o)))
    have c3r:=ah hrr 3 _ rfl
    obtain⟨T,hTT⟩:∃T:ByteArray,T=bs (aS t):=⟨_,rfl⟩
    have hTs:T.size≤48000000000:=by rw[hTT,fD];omega
    have HTT:=jI hTT
    clear ht htm hTT
    go_wp2_with fail
    refine (HC.out _).mono ?_
    rintro e W1 ⟨rfl,hb1⟩
    rw[←HTT.out]
    have hs1:=hb1.size
    rw[show (wr.alloc (.cells #[.int .i64 op,.string nm2,.int .i64 nd,.slice wA2 wn wc2,.slice kA2 kn kc2] 26)).heap.size=wr.heap.size+1 by simp] at hs1 hb1
    have hw1:Below wr.heap.size wr W1:=(hbA _).trans (hb1.mono (by omega))
    have iC:Below w.heap.size w W1:=hbw.trans (hw1.mono hbw.size)
    have hbx1:Below W0.heap.size W0 W1:=hb.trans (hw1.mono hsr)
    have hr1:=(hw1.block _ (bZ hs0 hsr)).trans hrr
    have c3:=ah hr1 3 _ rfl
    have hown1:=own_below hown hw1 (aP _)
    have hsw1:W0.heap.size≤W1.heap.size:=hbx1.size
    clear k0 k1 k2 k3 k4 HC hown hr1 hrr c3r
    by_cases hz:ws.length=0
    ·have HWN:=jI (show ws=[] from List.length_eq_zero_iff.1 hz)
     have hzI:¬(0:Int)<(ws.length:Int):=by omega
     clear hz
     go_wp2_with (at_builtin;refine gK W1 rfl (.tmp 73) (.tmp 75) rfl W0.heap.size _ _ _ hown1 rfl T rfl (by omega) hsw1 ?_;intro v' w3 hown3 hg3 hv3)
     go_roundw
     case rel=>
      refine⟨k+1,by omega,by go_num,?_,hbx1.trans (aN hown1 hg3 hsw1)⟩
      rw[HWN.out,List.take_nil] at hown3 ⊢
      rw[Eg _ _ hlt,iZ,←HTX.out,←HTT.out];exact hown3
     case measure=>simp[intOf];omega
    ·have hzI:(0:Int)<(ws.length:Int):=by omega
     have hwk:k<ws.length:=by rcases HWW.out with h|h<;>omega
     have hwkI:(k:Int)<(ws.length:Int):=by omega
     obtain⟨g2,o2,rfl,hS2,kw⟩:=one_cell (HWs.out.keep (aj iC hS)) hwk
     have hg2:g2<W1.heap.size:=by have:=hS g2 hS2;have:=iC.size;omega
     obtain⟨m,hm⟩:=kE (ws[k])
     have hsm:small m=true:=by rw[hm];exact HWok.out _ (bQ hwk)
     rw[←hm] at kw
     have HM:=jI hm
     have HI:=jI (uO m hsm W1 (HP.out.below iC))
     obtain⟨I,hI⟩:∃I:ByteArray,I=bs (Lib.itoa m):=⟨_,rfl⟩
     have hIs:I.size≤21:=by rw[hI,fD];exact jb hsm
     have HIE:=jI hI
     clear hm hsm hI
     go_wp2_with fail
     refine HI.out.mono ?_
     rintro e W2 ⟨rfl,hb2⟩
     rw[←HIE.out]
     have hs2:=hb2.size
     have hown2:=own_below hown1 hb2 (aP _)
     have hbx2:Below W0.heap.size W0 W2:=hbx1.trans (hb2.mono hsw1)
     have hsw2:=hbx2.size
     clear c3 kw hown1
     go_wp2_with (at_builtin;refine gK W2 rfl (.tmp 73) (.tmp 75) rfl W0.heap.size _ _ _ hown2 rfl (T++((⟨#[42]⟩:ByteArray)++I)) rfl (by omega) hsw2 ?_;intro v' w3 hown3 hg3 hv3)
     go_roundw
     case rel=>
      refine⟨k+1,by omega,by go_num,?_,hbx2.trans (aN hown2 hg3 hsw2)⟩
      rw[Ef _ _ _ hwk hlt,iZ,←HTX.out,←HM.out,←cat2 _ _ _ _ HTT.out (cat2 _ _ _ _ (rfl:(⟨#[42]⟩:ByteArray)=bs [42]) HIE.out)];exact hown3
     case measure=>simp[intOf];omega
   ·obtain rfl:k=kids.length:=by omega
    obtain⟨A9,c9,rfl,hc9⟩:=aD hown
    have hwt:ws.take kids.length=ws:=List.take_of_length_le (by rcases HWW.out with h|h<;>omega)
    rw[List.take_length,hwt] at hown
    have hlen:=zU ws kids HWW.out
    have hjl:(eO (lU ws kids)).length≤48000000000:=by
     have:=HTL.out
     rw[E.out] at this
     unfold eO
     rw[qE]
     simp only[bD] at this
     omega
    have c2:=ah hrr 2 _ rfl
    have HI:=jI (uO need HND.out wr (HP.out.below hbw))
    obtain⟨I,hI⟩:∃I:ByteArray,I=bs (Lib.itoa need):=⟨_,rfl⟩
    have hIs:I.size≤21:=by rw[hI,fD];exact jb HND.out
    have HIE:=jI hI
    have HOWN:=jI hown
    have HLEN:=jI hlen
    have HHT:=jI hwt
    have hkI:¬(kids.length:Int)<(kids.length:Int):=by omega
    clear hI hrr hown hlen hwt
    go_wp2_with fail
    refine HI.out.mono ?_
    rintro e W1 ⟨rfl,hb1⟩
    rw[←HIE.out]
    have hs1:=hb1.size
    have hj:=oO (lU ws kids) A9 c9 W1 (·<W1.heap.size) (by rw[HLEN.out];exact (ak.own (own_below HOWN.out hb1 (aP _))).mono (fun g _ h=>h) (by decide)) (fun g h=>h) (by rw[HLEN.out];exact hc9) (by omega) (by rw[HLEN.out];omega)
    rw[HLEN.out] at hj
    obtain⟨L,hL⟩:∃L:ByteArray,L=bs (eO (lU ws kids)):=⟨_,rfl⟩
    have hLs:L.size≤48000000000:=by rw[hL,fD];exact hjl
    rw[←hL] at hj
    have HJ:=jI hj
    have HLE:=jI hL
    clear hj hL c2 hjl
    go_wp2_with fail
    refine HJ.out.mono ?_
    rintro e W2 ⟨rfl,hb2⟩
    go_wp2
    go_ret
    refine⟨?_,(hbw.trans (hb1.mono hbw.size)).trans (hb2.mono (cK hbw.size hs1))⟩
    rw[E.out]
    refine congrArg (fun b=>Ending.returned (.string b)) ?_
    refine cat2 _ _ _ _ (JK _ _ _ _ _ _ HIE.out rfl ?_) rfl
    rw[HLE.out];unfold eO;rw[qE]
 have q2:(op==2)=false:=by rw[bP];exact h2
 by_cases h1:op=1
 ·subst h1
  have E:=jI (show nm=bs (aS (.mk 1 nm need ws kids)) by rw[text1];exact (gN nm).symm)
  go_enter func95,ntmps95
  go_wp2
  go_ret
  exact⟨congrArg (fun b=>Ending.returned (.string b)) E.out,hbA _⟩
 have:=HH.out
 simp[bJ,Tm.op,h1,h2,h3,h4,h5,h6,h7,h8] at this
theorem lm(t:Tm):TOk t:=by
 have:∀(n:Nat)(t:Tm),ax t≤n→TOk t:=by
  intro n
  induction n with
  |zero=>
    intro t ht;have:0<ax t:=by (cases t;rw[ax];omega)
    omega
  |succ n ih=>intro t ht;exact Ab t (fun k hk=>ih k (by have:=jw hk;omega))
 exact this _ t (aP _)
theorem kP{x:ByteArray}(h:dP x=true):x.size≤24∧0<x.size:=by
 unfold dP kR at h
 rw[Bool.and_eq_true] at h
 have h1:=h.1
 split at h1
 ·cases h1
 ·rename_i c r e
  simp only[Bool.and_eq_true,decide_eq_true_eq] at h1
  have e0:x.data.toList.length=x.size:=by simp
  have h2:x.data.toList.length≤24:=h1.1.1
  have h3:0<x.data.toList.length:=by rw[e];simp
  omega
theorem EN{l:List ByteArray}(h:dQ l=true):∀x∈l,dP x=true:=List.all_eq_true.1 h
theorem names_tot{l:List ByteArray}(h:∀x∈l,dP x=true):tot l≤24 * l.length:=by
 induction l with
 |nil=>simp[tot]
 |cons x r ih=>
  have h1:=(kP (h x (by simp))).1
  have h2:=ih (fun y hy=>h y (by simp[hy]))
  have:x.data.toList.length=x.size:=by simp
  simp only[tot,List.map_cons,List.sum_cons,fM] at h2 ⊢
  omega
theorem gV{l:List ByteArray}(h:dQ l=true):(eO l).length≤26 * l.length:=by
 have a:=mU l [44,32]
 have b:=names_tot (EN h)
 unfold eO
 simp only[fM,List.length_nil] at a
 omega
theorem ft3(nm:ByteArray)(x y:Int)(bl cl:List ByteArray):gW ⟨3,nm,x,y,bl,cl⟩=Lib.join (oH ⟨3,nm,x,y,bl,cl⟩) [32]:=rfl
theorem ft2(nm:ByteArray)(x y:Int)(bl cl:List ByteArray):gW ⟨2,nm,x,y,bl,cl⟩=[116,104,114,101,115,104,111,108,100,32]++Lib.itoa x++[32]++Lib.itoa y:=rfl
theorem rJ{f:Ft}(h:pG f=true):(gW f).length≤100+26 * (f.aI.length+f.aB.length):=by
 obtain⟨op,nm,x,y,bl,cl⟩:=f
 show (gW ⟨op,nm,x,y,bl,cl⟩).length≤100+26 * (bl.length+cl.length)
 have hnm:nm.data.toList.length=nm.size:=by simp
 by_cases h1:op=1
 ·subst h1
  show 4≤_
  omega
 by_cases h2:op=2
 ·subst h2
  have e:pG ⟨2,nm,x,y,bl,cl⟩=(decide (nm.size=0)&&small x&&small y&&!lN ⟨2,nm,x,y,bl,cl⟩):=rfl
  rw[e] at h
  simp only[Bool.and_eq_true,decide_eq_true_eq] at h
  have a:=jb h.1.1.2
  have b:=jb h.1.2
  rw[ft2]
  simp only[bD,fM,List.length_nil]
  omega
 by_cases h3:op=3
 ·subst h3
  have e:pG ⟨3,nm,x,y,bl,cl⟩=(decide (nm.size=0)&&!jc ⟨3,nm,x,y,bl,cl⟩&&lN ⟨3,nm,x,y,bl,cl⟩&&dQ bl&&dQ cl):=rfl
  rw[e] at h
  simp only[Bool.and_eq_true] at h
  have a:=gV h.1.2
  have b:=gV h.2
  rw[ft3]
  have c:=join_length_le (oH ⟨3,nm,x,y,bl,cl⟩) [32]
  refine cK c ?_
  have e2:oH ⟨3,nm,x,y,bl,cl⟩=(if bl.length=0 then [] else [rV [98,121,122] bl])++(if cl.length=0 then [] else [rV [99,114,97,115,104] cl]):=rfl
  rw[e2]
  by_cases g1:bl.length=0<;>by_cases g2:cl.length=0<;>simp[g1,g2,Lib.lens,rV]<;>omega
 by_cases h4:op=4∨op=5∨op=6
 ·have e:pG ⟨op,nm,x,y,bl,cl⟩=(dP nm&&!jc ⟨op,nm,x,y,bl,cl⟩&&!lN ⟨op,nm,x,y,bl,cl⟩):=by
   unfold pG
   simp only
   rw[if_neg h1,if_neg h2,if_neg h3,if_pos h4]
  rw[e] at h
  simp only[Bool.and_eq_true] at h
  have a:=(kP h.1.1).1
  rcases h4 with rfl|rfl|rfl
  ·show ([115,105,116,101,32]++nm.data.toList++[32,98,121,122]).length≤_
   simp only[bD,fM,List.length_nil];omega
  ·show ([115,105,116,101,32]++nm.data.toList++[32,99,114,97,115,104]).length≤_
   simp only[bD,fM,List.length_nil];omega
  ·show nm.data.toList.length≤_
   omega
 ·have e:pG ⟨op,nm,x,y,bl,cl⟩=false:=by
   unfold pG
   simp only
   rw[if_neg h1,if_neg h2,if_neg h3,if_neg h4]
  rw[e] at h
  cases h
theorem sets_any(nm:ByteArray)(x y:Int)(bl cl:List ByteArray)(bA:Option Addr)(bc:Nat)(cA:Option Addr)(cc:Nat)(w:World)(S:Nat→Prop)(hsb:ak w S 1 bA bl.length (bl.map Value.string))(hlb:bl.length≤bc)(hsc:ak w S 1 cA cl.length (cl.map Value.string))(hlc:cl.length≤cc)(hS:∀g,S g→g<w.heap.size)(hok:pG ⟨3,nm,x,y,bl,cl⟩=true)(hlim:bl.length+cl.length≤1000000000):
  Calls prog 160 #[.agg #[.int .i64 3,.string nm,.int .i64 x,.int .i64 y,.slice bA bl.length bc,.slice cA cl.length cc]] w fun e w'=>e=.returned (.string (bs (gW ⟨3,nm,x,y,bl,cl⟩)))∧Below w.heap.size w w':=by
 have hbA:∀o,Below w.heap.size w (w.alloc o):=fun o=>(jQ _ _).alloc (aP _) o
 have HB:=jI hsb
 have HC:=jI hsc
 obtain⟨hn,hob,hoc⟩:0<bl.length+cl.length∧dQ bl=true∧dQ cl=true:=by
  have h:=hok
  have e:pG ⟨3,nm,x,y,bl,cl⟩=(decide (nm.size=0)&&!jc ⟨3,nm,x,y,bl,cl⟩&&decide (0<bl.length+cl.length)&&dQ bl&&dQ cl):=rfl
  rw[e] at h
  simp only[Bool.and_eq_true,decide_eq_true_eq] at h
  exact⟨h.1.1.2,h.1.2,h.2⟩
 have hnb:=gV hob
 have hnc:=gV hoc
 obtain⟨TB,hTB⟩:∃T:ByteArray,T=bs (eO bl):=⟨_,rfl⟩
 have hTBs:TB.size≤26000000000:=by rw[hTB,fD];omega
 obtain⟨TC,hTC⟩:∃T:ByteArray,T=bs (eO cl):=⟨_,rfl⟩
 have hTCs:TC.size≤26000000000:=by rw[hTC,fD];omega
 have HLB:=jI (fun(W:World)(hb:Below w.heap.size w W)=>show Calls prog 134 #[.slice bA bl.length bc] W (fun e w'=>e=.returned (.string TB)∧Below W.heap.size W w') by rw[hTB];exact oO bl bA bc W S (HB.out.keep (aj hb hS)) (fun g hg=>by have:=hS g hg;have:=hb.size;omega) hlb (by omega) (by omega))
 have HLC:=jI (fun(W:World)(hb:Below w.heap.size w W)=>show Calls prog 134 #[.slice cA cl.length cc] W (fun e w'=>e=.returned (.string TC)∧Below W.heap.size W w') by rw[hTC];exact oO cl cA cc W S (HC.out.keep (aj hb hS)) (fun g hg=>by have:=hS g hg;have:=hb.size;omega) hlc (by omega) (by omega))
 have EB:=jI (show ((⟨#[98,121,122,32,123,32]⟩:ByteArray)++TB++(⟨#[32,125]⟩:ByteArray))=bs (rV [98,121,122] bl) from JK _ _ _ _ _ _ rfl hTB rfl)
 have EC:=jI (show ((⟨#[99,114,97,115,104,32,123,32]⟩:ByteArray)++TC++(⟨#[32,125]⟩:ByteArray))=bs (rV [99,114,97,115,104] cl) from JK _ _ _ _ _ _ rfl hTC rfl)
 have ZB:=jI (show ((⟨#[98,121,122,32,123,32]⟩:ByteArray)++TB++(⟨#[32,125]⟩:ByteArray)).size≤27000000000 by rw[ByteArray.size_append,ByteArray.size_append];show 6+TB.size+2≤_;omega)
 have ZC:=jI (show ((⟨#[99,114,97,115,104,32,123,32]⟩:ByteArray)++TC++(⟨#[32,125]⟩:ByteArray)).size≤27000000000 by rw[ByteArray.size_append,ByteArray.size_append];show 8+TC.size+2≤_;omega)
 have EF:=jI (ft3 nm x y bl cl)
 have ES:=jI (show oH ⟨3,nm,x,y,bl,cl⟩=(if bl.length=0 then [] else [rV [98,121,122] bl])++(if cl.length=0 then [] else [rV [99,114,97,115,104] cl]) from rfl)
 have one_len:∀(X:ByteArray),X.size≤27000000000→(joined [X] [32]).length≤100000000000000:=by
  intro X hX
  have:=mU [X] [32]
  simp only[tot,List.map_cons,List.map_nil,List.sum_cons,List.sum_nil,fM,List.length_nil] at this
  have e:X.data.toList.length=X.size:=by simp
  omega
 have two_len:∀(X Y:ByteArray),X.size≤27000000000→Y.size≤27000000000→(joined [X,Y] [32]).length≤100000000000000:=by
  intro X Y hX hY
  have:=mU [X,Y] [32]
  simp only[tot,List.map_cons,List.map_nil,List.sum_cons,List.sum_nil,fM,List.length_nil] at this
  have e:X.data.toList.length=X.size:=by simp
  have e:Y.data.toList.length=Y.size:=by simp
  omega
 have ONE:=jI one_len
 have TWO:=jI two_len
 clear hob hoc hnb hnc hTB hTC hsb hsc hok one_len two_len
 by_cases zb:bl.length=0
 ·have hzb:¬(0:Int)<(bl.length:Int):=by omega
  have hzc:(0:Int)<(cl.length:Int):=by omega
  have HZB:=jI zb
  have HN:=jI hn
  clear zb hn
  go_enter func160,ntmps160
  go_wp2_with fail
  refine (HLC.out _ (hbA _)).mono ?_
  rintro e W1 ⟨rfl,hb1⟩
  have hs1:=hb1.size
  rw[show (w.alloc (.cells #[.int .i64 3,.string nm,.int .i64 x,.int .i64 y,.slice bA bl.length bc,.slice cA cl.length cc] 68)).heap.size=w.heap.size+1 by simp] at hs1 hb1
  have iC:Below w.heap.size w W1:=(hbA _).trans (hb1.mono (by omega))
  have hown0:=World.ownsRow_nil W1 (w.heap.size+1) 9 1
  go_wp2_with (at_builtin;refine gK W1 rfl (.tmp 49) (.tmp 55) rfl (w.heap.size+1) _ _ _ hown0 rfl ((⟨#[99,114,97,115,104,32,123,32]⟩:ByteArray)++TC++(⟨#[32,125]⟩:ByteArray)) rfl (by omega) hs1 ?_;intro v' w3 hown3 hg3 hv3)
  have hb3:=aN hown0 hg3 hs1
  obtain⟨A9,c9,rfl,hc9⟩:=aD hown3
  have HJ:=jI (oQ [((⟨#[99,114,97,115,104,32,123,32]⟩:ByteArray)++TC++(⟨#[32,125]⟩:ByteArray))] A9 c9 ⟨#[32]⟩ w3 (·<w3.heap.size) ((ak.own hown3).mono (fun g _ h=>h) (by decide)) (fun g h=>h) hc9 (ONE.out _ ZC.out) (by simp))
  go_wp2_with fail
  refine HJ.out.mono ?_
  rintro e W4 ⟨rfl,hb4⟩
  go_wp2
  go_ret
  refine⟨congrArg (fun b=>Ending.returned (.string b)) ?_,(iC.trans (hb3.mono (by omega))).trans (hb4.mono (by have:=hb3.size;omega))⟩
  rw[EF.out,ES.out,if_pos HZB.out,if_neg (by have:=HN.out;have:=HZB.out;omega),List.nil_append,Lib.join_one,EC.out,zh,jH]
 ·have hzb:(0:Int)<(bl.length:Int):=by omega
  have HZB:=jI zb
  clear zb hn
  by_cases zc:cl.length=0
  ·have hzc:¬(0:Int)<(cl.length:Int):=by omega
   have HZC:=jI zc
   clear zc
   go_enter func160,ntmps160
   go_wp2_with fail
   refine (HLB.out _ (hbA _)).mono ?_
   rintro e W1 ⟨rfl,hb1⟩
   have hs1:=hb1.size
   rw[show (w.alloc (.cells #[.int .i64 3,.string nm,.int .i64 x,.int .i64 y,.slice bA bl.length bc,.slice cA cl.length cc] 68)).heap.size=w.heap.size+1 by simp] at hs1 hb1
   have iC:Below w.heap.size w W1:=(hbA _).trans (hb1.mono (by omega))
   have hown0:=World.ownsRow_nil W1 (w.heap.size+1) 9 1
   have c5:W1.cell? ⟨w.heap.size,5,none⟩=some (.slice cA cl.length cc):=(hb1.cell (p:=⟨w.heap.size,5,none⟩) (by simp)).trans (by simp)
   have HC5:=jI c5
   clear c5
   go_wp2_with (at_builtin;refine gK W1 rfl (.tmp 37) (.tmp 43) rfl (w.heap.size+1) _ _ _ hown0 rfl ((⟨#[98,121,122,32,123,32]⟩:ByteArray)++TB++(⟨#[32,125]⟩:ByteArray)) rfl (by omega) hs1 ?_;intro v' w3 hown3 hg3 hv3;have hb3:=aN hown0 hg3 hs1;have c5:w3.cell? ⟨w.heap.size,5,none⟩=some (.slice cA cl.length cc):=(hb3.cell (p:=⟨w.heap.size,5,none⟩) (by simp)).trans HC5.out)
   obtain⟨A9,c9,rfl,hc9⟩:=aD hown3
   have HJ:=jI (oQ [((⟨#[98,121,122,32,123,32]⟩:ByteArray)++TB++(⟨#[32,125]⟩:ByteArray))] A9 c9 ⟨#[32]⟩ w3 (·<w3.heap.size) ((ak.own hown3).mono (fun g _ h=>h) (by decide)) (fun g h=>h) hc9 (ONE.out _ ZB.out) (by simp))
   go_wp2_with fail
   refine HJ.out.mono ?_
   rintro e W4 ⟨rfl,hb4⟩
   go_wp2
   go_ret
   refine⟨congrArg (fun b=>Ending.returned (.string b)) ?_,(iC.trans (hb3.mono (by omega))).trans (hb4.mono (by have:=hb3.size;omega))⟩
   rw[EF.out,ES.out,if_neg HZB.out,if_pos HZC.out,List.append_nil,Lib.join_one,EB.out,zh,jH]
  ·have hzc:(0:Int)<(cl.length:Int):=by omega
   have HZC:=jI zc
   clear zc
   go_enter func160,ntmps160
   go_wp2_with fail
   refine (HLB.out _ (hbA _)).mono ?_
   rintro e W1 ⟨rfl,hb1⟩
   have hs1:=hb1.size
   rw[show (w.alloc (.cells #[.int .i64 3,.string nm,.int .i64 x,.int .i64 y,.slice bA bl.length bc,.slice cA cl.length cc] 68)).heap.size=w.heap.size+1 by simp] at hs1 hb1
   have iC:Below w.heap.size w W1:=(hbA _).trans (hb1.mono (by omega))
   have hown0:=World.ownsRow_nil W1 (w.heap.size+1) 9 1
   have c5:W1.cell? ⟨w.heap.size,5,none⟩=some (.slice cA cl.length cc):=(hb1.cell (p:=⟨w.heap.size,5,none⟩) (by simp)).trans (by simp)
   have HC5:=jI c5
   clear c5
   go_wp2_with (at_builtin;refine gK W1 rfl (.tmp 37) (.tmp 43) rfl (w.heap.size+1) _ _ _ hown0 rfl ((⟨#[98,121,122,32,123,32]⟩:ByteArray)++TB++(⟨#[32,125]⟩:ByteArray)) rfl (by omega) hs1 ?_;intro v' w3 hown3 hg3 hv3;have hb3:=aN hown0 hg3 hs1;have c5:w3.cell? ⟨w.heap.size,5,none⟩=some (.slice cA cl.length cc):=(hb3.cell (p:=⟨w.heap.size,5,none⟩) (by simp)).trans HC5.out)
   have hs3:=hb3.size
   have jC:=iC.trans (hb3.mono (by omega))
   go_wp2_with fail
   refine (HLC.out _ jC).mono ?_
   rintro e W4 ⟨rfl,hb4⟩
   have hs4:=hb4.size
   have hbw4:=jC.trans (hb4.mono jC.size)
   have jX:=own_below hown3 hb4 (aP _)
   have hbs:w.heap.size+1≤W4.heap.size:=by omega
   clear c5 hown3
   go_wp2_with (at_builtin;refine gK W4 rfl (.tmp 49) (.tmp 55) rfl (w.heap.size+1) _ _ _ jX rfl ((⟨#[99,114,97,115,104,32,123,32]⟩:ByteArray)++TC++(⟨#[32,125]⟩:ByteArray)) rfl (by omega) hbs ?_;intro v'' w5 hown5 hg5 hv5)
   have hb5:=aN jX hg5 hbs
   have tV:=hbw4.trans (hb5.mono (by omega))
   obtain⟨A9,c9,rfl,hc9⟩:=aD hown5
   have HJ:=jI (oQ [((⟨#[98,121,122,32,123,32]⟩:ByteArray)++TB++(⟨#[32,125]⟩:ByteArray)),((⟨#[99,114,97,115,104,32,123,32]⟩:ByteArray)++TC++(⟨#[32,125]⟩:ByteArray))] A9 c9 ⟨#[32]⟩ w5 (·<w5.heap.size) ((ak.own hown5).mono (fun g _ h=>h) (by decide)) (fun g h=>h) hc9 (TWO.out _ _ ZB.out ZC.out) (by simp))
   go_wp2_with fail
   refine HJ.out.mono ?_
   rintro e W6 ⟨rfl,hb6⟩
   go_wp2
   go_ret
   refine⟨congrArg (fun b=>Ending.returned (.string b)) ?_,tV.trans (hb6.mono tV.size)⟩
   rw[EF.out,ES.out,if_neg HZB.out,if_neg HZC.out,EB.out,EC.out]
   unfold joined lst
   simp only[List.map_cons,List.map_nil,jH];rfl
theorem Bg(f:Ft)(v:Value)(w:World)(S:Nat→Prop)(hf:ng w S f v)(hS:∀g,S g→g<w.heap.size)(hok:pG f=true)(hlim:f.aI.length+f.aB.length≤1000000000)(hpw:Pow w):
  Calls prog 160 #[v] w fun e w'=>e=.returned (.string (bs (gW f)))∧Below w.heap.size w w':=by
 have hlen:=rJ hok
 obtain⟨op,nm,x,y,bl,cl⟩:=f
 obtain⟨bA,bc,cA,cc,rfl,hsb,hlb,hsc,hlc⟩:=hf
 simp only at hsb hlb hsc hlc hlim hlen
 have hbA:∀o,Below w.heap.size w (w.alloc o):=fun o=>(jQ _ _).alloc (aP _) o
 have HB:=jI hsb
 have HC:=jI hsc
 have HP:=jI hpw
 have HOK:=jI hok
 have HLN:=jI hlen
 have hnm:nm.size≤24:=by
  by_cases h:op=4∨op=5∨op=6
  ·have e:pG ⟨op,nm,x,y,bl,cl⟩=(dP nm&&!jc ⟨op,nm,x,y,bl,cl⟩&&!lN ⟨op,nm,x,y,bl,cl⟩):=by
    unfold pG
    simp only
    rw[if_neg (by omega),if_neg (by omega),if_neg (by omega),if_pos h]
   rw[e] at hok
   simp only[Bool.and_eq_true] at hok
   exact (kP hok.1.1).1
  ·by_cases h0:nm.size=0
   ·omega
   ·have e:pG ⟨op,nm,x,y,bl,cl⟩=false:=by
     unfold pG
     simp only
     rw[if_neg h]
     simp[h0]
    rw[e] at hok
    cases hok
 clear hsb hsc hpw hok hlen
 by_cases h1:op=1
 ·subst h1
  go_enter func160,ntmps160
  go_wp2
  go_ret
  exact⟨rfl,hbA _⟩
 have q1:(op==1)=false:=by rw[bP];exact h1
 by_cases h2:op=2
 ·subst h2
  obtain⟨hx,hy⟩:small x=true∧small y=true:=by
   have h:=HOK.out
   have e:pG ⟨2,nm,x,y,bl,cl⟩=(decide (nm.size=0)&&small x&&small y&&!lN ⟨2,nm,x,y,bl,cl⟩):=rfl
   rw[e] at h
   simp only[Bool.and_eq_true] at h
   exact⟨h.1.1.2,h.1.2⟩
  obtain⟨I,hI⟩:∃I:ByteArray,I=bs (Lib.itoa x):=⟨_,rfl⟩
  have hIs:I.size≤21:=by rw[hI,fD];exact jb hx
  obtain⟨J,hJ⟩:∃J:ByteArray,J=bs (Lib.itoa y):=⟨_,rfl⟩
  have hJs:J.size≤21:=by rw[hJ,fD];exact jb hy
  have HIE:=jI hI
  have HJE:=jI hJ
  have HX:=jI (fun(W:World)(hb:Below w.heap.size w W)=>show Calls prog 133 #[.int .i64 x] W (fun e w'=>e=.returned (.string I)∧Below W.heap.size W w') by rw[hI];exact uO x hx W (HP.out.below hb))
  have HY:=jI (fun(W:World)(hb:Below w.heap.size w W)=>show Calls prog 133 #[.int .i64 y] W (fun e w'=>e=.returned (.string J)∧Below W.heap.size W w') by rw[hJ];exact uO y hy W (HP.out.below hb))
  clear hI hJ hx hy
  go_enter func160,ntmps160
  go_wp2
  obtain⟨W0,hW0⟩:=kE (w.alloc (.cells #[.int .i64 2,.string nm,.int .i64 x,.int .i64 y,.slice bA bl.length bc,.slice cA cl.length cc] 68))
  have hb0:Below w.heap.size w W0:=by rw[hW0];exact hbA _
  have hs0:w.heap.size<W0.heap.size:=by rw[hW0];simp
  have hr0:W0.heap[w.heap.size]?=some (.cells #[.int .i64 2,.string nm,.int .i64 x,.int .i64 y,.slice bA bl.length bc,.slice cA cl.length cc] 68 (0,0)):=by rw[hW0];exact jR w _
  rw[←hW0]
  have c2:W0.cell? ⟨w.heap.size,2,none⟩=some (.int .i64 x):=ah hr0 2 _ rfl
  have c3:W0.cell? ⟨w.heap.size,3,none⟩=some (.int .i64 y):=ah hr0 3 _ rfl
  clear hW0 hr0
  have hA1:=fun W=>run_string_add_sum (P:=prog) W (⟨#[116,104,114,101,115,104,111,108,100,32]⟩:ByteArray) I (by show 10+I.size≤_;omega)
  have hA2:=fun W=>run_string_add_sum (P:=prog) W ((⟨#[116,104,114,101,115,104,111,108,100,32]⟩:ByteArray)++I) (⟨#[32]⟩:ByteArray) (by rw[ByteArray.size_append];show 10+I.size+1≤_;omega)
  have hA3:=fun W=>run_string_add_sum (P:=prog) W ((⟨#[116,104,114,101,115,104,111,108,100,32]⟩:ByteArray)++I++(⟨#[32]⟩:ByteArray)) J (by rw[ByteArray.size_append,ByteArray.size_append];show 10+I.size+1+J.size≤_;omega)
  go_region_held3 (fun w'=>w'.cell? ⟨w.heap.size,2,none⟩=some (.int .i64 x)∧w'.cell? ⟨w.heap.size,3,none⟩=some (.int .i64 y)) (first|go_keep|(refine⟨?_,?_⟩<;>(rw[hb2.cell (by simp;omega)];go_keep))|(refine⟨?_,?_⟩<;>(rw[hb3.cell (by have:=hb2.size;simp at this ⊢;omega),hb2.cell (by simp;omega)];go_keep)))
   (first|(go_at_call 133;(refine (HX.out _ (below_drewN hb0 _)).mono ?_;rintro e w2 ⟨rfl,hb2⟩))|(go_at_call 133;(refine (HY.out _ ((below_drewN hb0 _).trans (hb2.mono (by simp;omega)))).mono ?_;rintro e w3 ⟨rfl,hb3⟩)))
  all_goals (
   go_wp2
   go_ret
   refine⟨congrArg (fun b=>Ending.returned (.string b)) ?_,((below_drewN hb0 _).trans (hb2.mono (by simp;omega))).trans (hb3.mono (by have:=hb2.size;simp at this;omega))⟩
   rw[ft2]
   exact cat2 _ _ _ _ (JK _ _ _ _ _ _ rfl HIE.out rfl) HJE.out)
 have q2:(op==2)=false:=by rw[bP];exact h2
 by_cases h4:op=4
 ·subst h4
  go_enter func160,ntmps160
  go_wp2
  go_ret
  refine⟨congrArg (fun b=>Ending.returned (.string b)) ?_,hbA _⟩
  exact JK _ _ _ _ _ _ rfl (gN nm).symm rfl
 have q4:(op==4)=false:=by rw[bP];exact h4
 by_cases h5:op=5
 ·subst h5
  go_enter func160,ntmps160
  go_wp2
  go_ret
  refine⟨congrArg (fun b=>Ending.returned (.string b)) ?_,hbA _⟩
  exact JK _ _ _ _ _ _ rfl (gN nm).symm rfl
 have q5:(op==5)=false:=by rw[bP];exact h5
 by_cases h3:op=3
 ·subst h3
  exact sets_any nm x y bl cl bA bc cA cc w S HB.out hlb HC.out hlc hS HOK.out hlim
 have q3:(op==3)=false:=by rw[bP];exact h3
 by_cases h6:op=6
 ·subst h6
  go_enter func160,ntmps160
  go_wp2
  go_ret
  refine⟨congrArg (fun b=>Ending.returned (.string b)) ?_,hbA _⟩
  exact (gN nm).symm
 have q6:(op==6)=false:=by rw[bP];exact h6
 have:=HOK.out
 simp[pG,h1,h2,h3,h4,h5,h6] at this
end Go.Proofs.YtmohibkomlhlaaaGreatDoor
