/- The contracts of the qh tests on bytes. The contracts of the library's functions at this seat's program, as the kit's tool lays them (lay-shelf, lay-plain); each by one application. The contracts of the qh functions space and prefix. The contract of the qh function space. The contract of the qh function number. The contract of the qh function escape. The contract of (*strings.Builder).WriteByte at a Builder of the call's own. The contract of the qh function literal, at a text that begins with a quotation mark. The contracts of the qh functions IsName and next. The contract of the qh function Tokens. -/
import Derived.Test.YtmohibkomlhlaaaGreatDoorPkPara
import Derived.Shelf.Strings.Builder1
import Derived.Shelf.Strings.Builder2
import Derived.Shelf.Strings.OnBuilder
import Derived.Shelf.Small.Bits
import Derived.Shelf.Small.Strs
import Derived.Shelf.Strings.BuilderF
import Derived.Shelf.Strconv.Itoa0
import Derived.Shelf.Strconv.Itoa1
import Derived.Shelf.LaysM
import Derived.Shelf.Strconv.Itoa2
import Derived.Shelf.Strconv.Itoa3
import Derived.Shelf.Strings.Search1
import Derived.Shelf.Strings.Search2
import Derived.Shelf.Strings.Search3
import Derived.Shelf.Strings.Count
import Derived.Shelf.Strings.Shaped
import Derived.Shelf.Strings.Prefix
import Derived.Shelf.Strings.Split
import Derived.Shelf.Slices.Turned
import Derived.Shelf.Slices.Equal
import Derived.Ground.Names2Prog
import Derived.Shelf.Slices.Clone
import Derived.Laws.DeepStrings4
import Derived.Laws.ResultCell
set_option maxRecDepth 100000
set_option maxHeartbeats 2000000
namespace Go.Proofs.YtmohibkomlhlaaaGreatDoor
open Go.RowKit
open _root_.Go.Proofs.Tryz
theorem sZ(c:Nat)(w:World):Calls prog 190 #[.int .u8 c] w fun e w'=>e=.returned (.bool (iO c))∧w=w':=by
 have key:∀r:Bool,(r=true↔(c=95∨(65≤c∧c≤90)∨(97≤c∧c≤122)))→r=iO c:=by
  intro r h
  rw[Bool.eq_iff_iff,h]
  simp[iO]
  try omega
 have HK:=jI key
 clear key
 by_cases h1:c=95
 ·have q1:((c:Int)==95)=true:=J2 h1
  go_enter func190,ntmps190
  go_wp2
  go_ret
  exact⟨congrArg (fun b=>Ending.returned (.bool b)) (HK.out true (by simp[h1])),rfl⟩
 ·have q1:((c:Int)==95)=false:=lM h1
  have H1:=jI h1
  clear h1
  go_enter func190,ntmps190
  go_wp2
  all_goals go_ret
  all_goals refine⟨congrArg (fun b=>Ending.returned (.bool b)) (HK.out _ ?_),rfl⟩
  all_goals have h1:=H1.out
  all_goals simp
  all_goals omega
theorem qm(c:Nat)(w:World):Calls prog 192 #[.int .u8 c] w fun e w'=>e=.returned (.bool (isDigit c))∧w=w':=by
 have key:∀r:Bool,(r=true↔(48≤c∧c≤57))→r=isDigit c:=by
  intro r h
  rw[Bool.eq_iff_iff,h]
  simp[isDigit]
  try omega
 have HK:=jI key
 clear key
 go_enter func192,ntmps192
 go_wp2
 all_goals go_ret
 all_goals refine⟨congrArg (fun b=>Ending.returned (.bool b)) (HK.out _ ?_),rfl⟩
 all_goals simp
 all_goals omega
theorem rU(c:Nat)(w:World):Calls prog 191 #[.int .u8 c] w fun e w'=>e=.returned (.bool (iJ c))∧w=w':=by
 have hb:=sZ c w
 have hd:=qm c w
 unfold iJ
 cases hl:iO c
 ·rw[hl] at hb
  have HB:=jI hb
  have HD:=jI hd
  clear hb hd hl
  go_enter func191,ntmps191
  go_wp2_with fail
  refine HB.out.mono ?_
  rintro e w' ⟨rfl,rfl⟩
  go_wp2_with fail
  refine HD.out.mono ?_
  rintro e w' ⟨rfl,rfl⟩
  go_wp2
  go_ret
  exact⟨rfl,rfl⟩
 ·rw[hl] at hb
  have HB:=jI hb
  clear hb hd hl
  go_enter func191,ntmps191
  go_wp2_with fail
  refine HB.out.mono ?_
  rintro e w' ⟨rfl,rfl⟩
  go_wp2
  go_ret
  exact⟨rfl,rfl⟩
end Go.Proofs.YtmohibkomlhlaaaGreatDoor
namespace Go.Proofs
open Go.Shelf
open _root_.Go.Proofs.Tryz
def Tryz.lays169_ren:Go.Shelf.Ren:=⟨fun|169=>120|n=>n,fun|70=>189|9=>9|0=>0|72=>192|37=>190|127=>229|3=>3|5=>5|n=>n,fun|n=>n⟩
theorem Tryz.lays169:Go.Proofs.Lays.n169 prog Tryz.lays169_ren:={
 mixed:=by kernel_rfl
 f169:=func120.trans (congrArg some (by kernel_rfl))
 t0:=underlying0
 a0:=Tryz.isAgg0
 z0:=Tryz.sizeOf0
 v0:=Tryz.zeroValue0
 t3:=underlying3
 a3:=Tryz.isAgg3
 z3:=Tryz.sizeOf3
 v3:=Tryz.zeroValue3
 t9:=underlying9
 a9:=Tryz.isAgg9
 z9:=Tryz.sizeOf9
 v9:=Tryz.zeroValue9
 t37:=underlying190
 a37:=Tryz.isAgg190
 z37:=Tryz.sizeOf190
 v37:=Tryz.zeroValue190
 t70:=underlying189
 a70:=Tryz.isAgg189
 z70:=Tryz.sizeOf189
 v70:=Tryz.zeroValue189
 t72:=underlying192
 a72:=Tryz.isAgg192
 z72:=Tryz.sizeOf192
 v72:=Tryz.zeroValue192
 t127:=underlying229
 a127:=Tryz.isAgg229
 z127:=Tryz.sizeOf229
 v127:=Tryz.zeroValue229 }
theorem Tryz.Builder_Extra_169:Builder.Extra prog Tryz.lays169_ren:={
 sizeBuilder:=by kernel_rfl
 liesBuilder:=by kernel_rfl
 t5:=underlying5
 a5:=Tryz.isAgg5
 z5:=Tryz.sizeOf5
 v5:=Tryz.zeroValue5
 infoByte:=by kernel_rfl
 cellsByte:=by kernel_rfl
 sizeByte:=by kernel_rfl
 neB5:=by decide }
open Go.RowKit in
theorem Tryz.Builder_String_any(B b:Nat)(l:List UInt8)(w:World)(h:Lib.IsBuilder 192 5 B b (Lib.byteCells l) w)(hBw:B≤w.heap.size):
  Calls prog 120 #[.pointer (some ⟨b,0,none⟩)] w fun e w'=>e=.returned (.string ⟨l.toArray⟩)∧Below B w w':=Any.Builder_String_any Tryz.lays169 Tryz.Builder_Extra_169 B b l w h hBw
def Tryz.lays156_ren:Go.Shelf.Ren:=⟨fun|156=>161|165=>200|166=>118|169=>120|240=>159|241=>217|276=>199|277=>238|n=>n,fun|31=>32|9=>9|3=>3|4=>4|0=>0|20=>20|72=>192|76=>195|70=>189|37=>190|75=>194|127=>229|164=>253|5=>5|80=>180|n=>n,fun|n=>n⟩
theorem Tryz.lays156:Go.Proofs.Lays.n156 prog Tryz.lays156_ren:={
 mixed:=by kernel_rfl
 f156:=func161.trans (congrArg some (by kernel_rfl))
 f165:=func200.trans (congrArg some (by kernel_rfl))
 f166:=func118.trans (congrArg some (by kernel_rfl))
 f169:=func120.trans (congrArg some (by kernel_rfl))
 f240:=func159.trans (congrArg some (by kernel_rfl))
 f241:=func217.trans (congrArg some (by kernel_rfl))
 f276:=func199.trans (congrArg some (by kernel_rfl))
 f277:=func238.trans (congrArg some (by kernel_rfl))
 t0:=underlying0
 a0:=Tryz.isAgg0
 z0:=Tryz.sizeOf0
 v0:=Tryz.zeroValue0
 t3:=underlying3
 a3:=Tryz.isAgg3
 z3:=Tryz.sizeOf3
 v3:=Tryz.zeroValue3
 t4:=underlying4
 a4:=Tryz.isAgg4
 z4:=Tryz.sizeOf4
 v4:=Tryz.zeroValue4
 t9:=underlying9
 a9:=Tryz.isAgg9
 z9:=Tryz.sizeOf9
 v9:=Tryz.zeroValue9
 t20:=underlying20
 a20:=Tryz.isAgg20
 z20:=Tryz.sizeOf20
 v20:=Tryz.zeroValue20
 t31:=underlying32
 a31:=Tryz.isAgg32
 z31:=Tryz.sizeOf32
 v31:=Tryz.zeroValue32
 t37:=underlying190
 a37:=Tryz.isAgg190
 z37:=Tryz.sizeOf190
 v37:=Tryz.zeroValue190
 t70:=underlying189
 a70:=Tryz.isAgg189
 z70:=Tryz.sizeOf189
 v70:=Tryz.zeroValue189
 t72:=underlying192
 a72:=Tryz.isAgg192
 z72:=Tryz.sizeOf192
 v72:=Tryz.zeroValue192
 t75:=underlying194
 a75:=Tryz.isAgg194
 z75:=Tryz.sizeOf194
 v75:=Tryz.zeroValue194
 t76:=underlying195
 a76:=Tryz.isAgg195
 z76:=Tryz.sizeOf195
 v76:=Tryz.zeroValue195
 t127:=underlying229
 a127:=Tryz.isAgg229
 z127:=Tryz.sizeOf229
 v127:=Tryz.zeroValue229
 t164:=underlying253
 a164:=Tryz.isAgg253
 z164:=Tryz.sizeOf253
 v164:=Tryz.zeroValue253 }
theorem Tryz.Builder_Extra_156:Builder.Extra prog Tryz.lays156_ren:={
 sizeBuilder:=by kernel_rfl
 liesBuilder:=by kernel_rfl
 t5:=underlying5
 a5:=Tryz.isAgg5
 z5:=Tryz.sizeOf5
 v5:=Tryz.zeroValue5
 infoByte:=by kernel_rfl
 cellsByte:=by kernel_rfl
 sizeByte:=by kernel_rfl
 neB5:=by decide }
open Go.RowKit in
theorem Tryz.strings_Join_none(a:Option Addr)(c:Nat)(sep:ByteArray)(w:World):
  Calls prog 161 #[.slice a 0 c,.string sep] w fun e w'=>e=.returned (.string ⟨#[]⟩)∧w'=w:=Any.strings_Join_none Tryz.lays156 Tryz.Builder_Extra_156 a c sep w
open Go.RowKit in
theorem Tryz.strings_Join(bk o c:Nat)(xs:List ByteArray)(sep:ByteArray)(w:World)(hcells:∀(j:Nat) x,xs[j]?=some x→w.cell? ⟨bk,o+j,none⟩=some (.string x))(hbk:bk<w.heap.size)(hN:xs.length≤140737488355328)(hcap:xs.length≤c)(hlen:(Lib.join (xs.map (·.data.toList)) sep.data.toList).length≤140737488355328):
  Calls prog 161 #[.slice (some ⟨bk,o,none⟩) xs.length c,.string sep] w fun e w'=>e=.returned (.string ⟨(Lib.join (xs.map (·.data.toList)) sep.data.toList).toArray⟩)∧Below w.heap.size w w':=Any.strings_Join Tryz.lays156 Tryz.Builder_Extra_156 bk o c xs sep w hcells hbk hN hcap hlen
def Tryz.lays137_ren:Go.Shelf.Ren:=⟨fun|137=>147|217=>189|266=>211|n=>n,fun|9=>9|5=>5|3=>3|n=>n,fun|n=>n⟩
theorem Tryz.lays137:Go.Proofs.Lays.n137 prog Tryz.lays137_ren:={
 mixed:=by kernel_rfl
 f137:=func147.trans (congrArg some (by kernel_rfl))
 f217:=func189.trans (congrArg some (by kernel_rfl))
 f266:=func211.trans (congrArg some (by kernel_rfl))
 t3:=underlying3
 a3:=Tryz.isAgg3
 z3:=Tryz.sizeOf3
 v3:=Tryz.zeroValue3
 t5:=underlying5
 a5:=Tryz.isAgg5
 z5:=Tryz.sizeOf5
 v5:=Tryz.zeroValue5
 t9:=underlying9
 a9:=Tryz.isAgg9
 z9:=Tryz.sizeOf9
 v9:=Tryz.zeroValue9 }
open Go.RowKit in
theorem Tryz.strings_IndexByte(s:ByteArray)(c:Int)(w:World):
  Calls prog 147 #[.string s,.int .u8 c] w fun e w'=>e=.returned (.int .i64 (Lib.indexByte s.data.toList c.toNat.toUInt8))∧w'=w:=Any.strings_IndexByte Tryz.lays137 s c w
def Tryz.lays138_ren:Go.Shelf.Ren:=⟨fun|138=>145|195=>185|218=>186|143=>187|219=>210|217=>189|225=>235|224=>236|267=>237|266=>211|314=>250|n=>n,fun|9=>9|3=>3|4=>4|5=>5|0=>0|46=>260|146=>297|51=>259|n=>n,fun|1=>0|n=>n⟩
theorem Tryz.lays138:Go.Proofs.Lays.n138 prog Tryz.lays138_ren:={
 mixed:=by kernel_rfl
 f138:=func145.trans (congrArg some (by kernel_rfl))
 f143:=func187.trans (congrArg some (by kernel_rfl))
 f195:=func185.trans (congrArg some (by kernel_rfl))
 f217:=func189.trans (congrArg some (by kernel_rfl))
 f218:=func186.trans (congrArg some (by kernel_rfl))
 f219:=func210.trans (congrArg some (by kernel_rfl))
 f224:=func236.trans (congrArg some (by kernel_rfl))
 f225:=func235.trans (congrArg some (by kernel_rfl))
 f266:=func211.trans (congrArg some (by kernel_rfl))
 f267:=func237.trans (congrArg some (by kernel_rfl))
 f314:=func250.trans (congrArg some (by kernel_rfl))
 t0:=underlying0
 a0:=Tryz.isAgg0
 z0:=Tryz.sizeOf0
 v0:=Tryz.zeroValue0
 t3:=underlying3
 a3:=Tryz.isAgg3
 z3:=Tryz.sizeOf3
 v3:=Tryz.zeroValue3
 t4:=underlying4
 a4:=Tryz.isAgg4
 z4:=Tryz.sizeOf4
 v4:=Tryz.zeroValue4
 t5:=underlying5
 a5:=Tryz.isAgg5
 z5:=Tryz.sizeOf5
 v5:=Tryz.zeroValue5
 t9:=underlying9
 a9:=Tryz.isAgg9
 z9:=Tryz.sizeOf9
 v9:=Tryz.zeroValue9
 t46:=underlying260
 a46:=Tryz.isAgg260
 z46:=Tryz.sizeOf260
 v46:=Tryz.zeroValue260
 t51:=underlying259
 a51:=Tryz.isAgg259
 z51:=Tryz.sizeOf259
 v51:=Tryz.zeroValue259
 t146:=underlying297
 a146:=Tryz.isAgg297
 z146:=Tryz.sizeOf297
 v146:=Tryz.zeroValue297
 g1:=by kernel_rfl }
open Go.RowKit Go.Lib in
theorem Tryz.strings_Count_one(s:ByteArray)(c:UInt8)(w:World):
  Calls prog 145 #[.string s,.string ⟨#[c]⟩] w fun e w'=>e=.returned (.int .i64 (Lib.countByte s.data.toList c))∧w'=w:=Any.strings_Count_one Tryz.lays138 s c w
def Tryz.lays99_ren:Go.Shelf.Ren:=⟨fun|99=>146|206=>188|n=>n,fun|9=>9|4=>4|3=>3|n=>n,fun|n=>n⟩
theorem Tryz.lays99:Go.Proofs.Lays.n99 prog Tryz.lays99_ren:={
 mixed:=by kernel_rfl
 f99:=func146.trans (congrArg some (by kernel_rfl))
 f206:=func188.trans (congrArg some (by kernel_rfl))
 t3:=underlying3
 a3:=Tryz.isAgg3
 z3:=Tryz.sizeOf3
 v3:=Tryz.zeroValue3
 t4:=underlying4
 a4:=Tryz.isAgg4
 z4:=Tryz.sizeOf4
 v4:=Tryz.zeroValue4
 t9:=underlying9
 a9:=Tryz.isAgg9
 z9:=Tryz.sizeOf9
 v9:=Tryz.zeroValue9 }
open Go.RowKit Go.Lib in
theorem Tryz.strings_HasPrefix(s p:ByteArray)(w:World):
  Calls prog 146 #[.string s,.string p] w fun e w'=>e=.returned (.bool (Lib.hasPrefix s.data.toList p.data.toList))∧w'=w:=Any.strings_HasPrefix Tryz.lays99 s p w
end Go.Proofs
namespace Go.Proofs.YtmohibkomlhlaaaGreatDoor
open Go.RowKit
open _root_.Go.Proofs.Tryz
theorem Co(p:Nat→Bool)(s:ByteArray)(k:Nat)(h:k<s.size)(hp:p (s[k].toNat)=true):pre p (s.data.toList.drop k)=1+pre p (s.data.toList.drop (k+1)):=by
 rw[fE (by simpa using h)]
 unfold pre
 rw[List.takeWhile_cons,if_pos (by exact hp)]
 simp;omega
theorem EK(p:Nat→Bool)(s:ByteArray)(k:Nat)(h:k<s.size)(hp:p (s[k].toNat)=false):pre p (s.data.toList.drop k)=0:=by
 rw[fE (by simpa using h)]
 unfold pre
 have hp':p (s.data.toList[k]'(by simpa using h)).toNat=false:=hp
 rw[List.takeWhile_cons,if_neg (by rw[hp'];simp)];rfl
theorem Cq(p:Nat→Bool)(s:ByteArray)(k:Nat)(h:s.size≤k):pre p (s.data.toList.drop k)=0:=by
 rw[List.drop_of_length_le (by simpa using h)];rfl
theorem oK(s:ByteArray)(fid:Nat)(he:∀(args:Array Value)(w:World),(callFunc fid args).run prog w=.ok (.enter fid args) w)(p:Nat→Bool)
  (hf:∀(c:Nat)(w:World),c<256→Calls prog fid #[.int .u8 c] w fun e w'=>e=.returned (.bool (p c))∧w=w') (w:World) (hs:s.size≤1000000000):
  Calls prog 144 #[.string s,.func (.func fid) #[] #[]] w fun e w'=>e=.returned (.int .i64 (pre p s.data.toList:Nat))∧w=w':=by
 have HF:=jI hf
 clear hf
 go_enter func144,ntmps144
 go_wp2
 go_loop [5] (fun x=>∃k:Nat,k≤s.size∧x=.int .i64 k∧Hid (pre p s.data.toList=k+pre p (s.data.toList.drop k))) (fun x=>s.size-(intOf x).toNat)
 case atStart=>exact⟨0,cu _,rfl,by show pre p s.data.toList=0+pre p (s.data.toList.drop 0);simp⟩
 case round=>
  obtain⟨k,hk,rfl,hpre⟩:=hrel
  by_cases hlt:k<s.size
  ·have hc:=HF.out (s[k].toNat) w s[k].toNat_lt
   cases hp:p (s[k].toNat)
   ·have hz:=EK p s k hlt hp
    rw[hp] at hc
    have HC:=jI hc
    have HZ:=jI hz
    clear hc hz hp
    go_wp2_with fail
    refine HC.out.mono ?_
    rintro e w' ⟨rfl,rfl⟩
    go_wp2
    go_ret
    exact⟨by rw[hpre.out,HZ.out];rfl,rfl⟩
   ·have hz:=Co p s k hlt hp
    rw[hp] at hc
    have HC:=jI hc
    have HZ:=jI hz
    clear hc hz hp
    go_wp2_with fail
    refine HC.out.mono ?_
    rintro e w' ⟨rfl,rfl⟩
    go_wp2
    go_round
    case rel=>exact⟨k+1,by omega,by go_num,by show pre p s.data.toList=_;rw[hpre.out,HZ.out];omega⟩
    case measure=>simp[intOf];omega
  ·have hz:=Cq p s k (by omega)
   have HZ:=jI hz
   clear hz
   go_wp2
   go_ret
   exact⟨by rw[hpre.out,HZ.out];rfl,rfl⟩
theorem Ed:∀c:Fin 256,decide (0≤Lib.indexByte [32,9,13,10] ((c.1:Int).toNat.toUInt8))=gG c.1:=by decide +kernel
theorem BV(c:Nat)(hc:c<256)(w:World):Calls prog 143 #[.int .u8 c] w fun e w'=>e=.returned (.bool (gG c))∧w=w':=by
 have h:=Ed ⟨c,hc⟩
 simp only at h
 rw[←h]
 have HI:=jI (Tryz.strings_IndexByte ⟨#[32,9,13,10]⟩ c w)
 clear h
 go_enter func143,ntmps143
 go_wp2_with fail
 refine HI.out.mono ?_
 rintro e w' ⟨rfl,rfl⟩
 obtain⟨z,hz⟩:=kE (Lib.indexByte (⟨#[32,9,13,10]⟩:ByteArray).data.toList ((c:Int).toNat.toUInt8))
 rw[←hz]
 have HZ:=jI hz
 clear hz
 go_wp2
 go_ret
 refine⟨?_,rfl⟩
 show Ending.returned (.bool (decide (0≤z)))=_
 rw[HZ.out]
def mg(l:List UInt8):Nat:=(num l).getD 0
def qf(l:List UInt8):Bool:=(num l).isSome&&!l.isEmpty
theorem jo(s:ByteArray)(k:Nat)(h:k<s.size):s.data.toList.drop k=s[k]::s.data.toList.drop (k+1):=by
 rw[fE (by simpa using h)];rfl
theorem qZ(s:ByteArray)(h:0<s.size):s.data.toList.isEmpty=false:=by
 have e:s.data.toList=s[0]::s.data.toList.drop 1:=jo s 0 h
 rw[e];rfl
theorem AU(s:ByteArray)(w:World)(hs:s.size≤1000000000)(hd:∀k (h:k<s.size),isDigit s[k].toNat=true)(h0:0<s.size):
  Calls prog 193 #[.string s] w fun e w'=>e=.returned (.tuple #[.int .i64 (mg s.data.toList),.bool (qf s.data.toList)])∧w=w':=by
 have HD:=jI hd
 clear hd
 by_cases hz:1<s.size∧s[0].toNat=48
 ·obtain⟨hz1,hz2⟩:=hz
  have q0:((s[0].toNat:Int)==48)=true:=J2 hz2
  have e:num s.data.toList=none:=by
   unfold num
   rw[if_pos]
   refine⟨by simpa using hz1,?_⟩
   have:s.data.toList=s[0]::s.data.toList.drop 1:=jo s 0 h0
   rw[this]
   simp
   have h2:s[0]=48:=UInt8.toNat_inj.1 hz2
   exact h2
  have e1:mg s.data.toList=0:=by unfold mg;rw[e];rfl
  have e2:qf s.data.toList=false:=by unfold qf;rw[e];rfl
  rw[e1,e2]
  have hz1I:(1:Int)<(s.size:Int):=by omega
  clear e e1 e2 hz2
  go_enter func193,ntmps193
  go_wp2
  go_ret2
  exact⟨rfl,rfl⟩
 ·have hn:num s.data.toList=EO 0 (s.data.toList.drop 0):=by
   unfold num
   rw[if_neg,List.drop_zero]
   intro hh
   refine hz ⟨by simpa using hh.1,?_⟩
   have e:s.data.toList=s[0]::s.data.toList.drop 1:=jo s 0 h0
   have h2:=hh.2
   rw[e] at h2
   simp at h2
   rw[h2];rfl
  have HN:=jI hn
  have hz2:1<s.size→((s[0].toNat:Int)==48)=false:=fun h=>lM (fun e=>hz ⟨h,e⟩)
  clear hn hz
  by_cases h1:1<s.size
  ·have q0:=hz2 h1
   clear hz2
   go_enter func193,ntmps193
   go_wp2
   go_loop [4,17] (fun x y=>∃k v:Nat,k≤s.size∧x=.int .i64 v∧y=.int .i64 k∧v≤9223372036854775807∧Hid (num s.data.toList=EO v (s.data.toList.drop k))) (fun _ y=>s.size-(intOf y).toNat)
   case atStart=>exact⟨0,0,cu _,rfl,rfl,by decide,HN.out⟩
   case round=>
    obtain⟨k,v,hk,rfl,rfl,hv,hgo⟩:=hrel
    by_cases hlt:k<s.size
    ·have hdk:=HD.out k hlt
     unfold isDigit at hdk
     simp only[Bool.and_eq_true,decide_eq_true_eq] at hdk
     obtain⟨hd1,hd2⟩:=hdk
     have hdr:=jo s k hlt
     have hgo2:=hgo.out
     rw[hdr,EO] at hgo2
     have HG:=jI hgo2
     clear hdr hgo2
     have hd1I:(48:Int)≤(s[k].toNat:Int):=by omega
     have hd2I:(s[k].toNat:Int)≤57:=by omega
     by_cases hbig:(9223372036854775807-(s[k].toNat-48)) / 10<v
     ·have e:num s.data.toList=none:=by
       have:=HG.out
       rw[if_pos hbig] at this;exact this
      have e1:mg s.data.toList=0:=by unfold mg;rw[e];rfl
      have e2:qf s.data.toList=false:=by unfold qf;rw[e];rfl
      have E1:=jI e1
      have E2:=jI e2
      have hbI:(9223372036854775807-((s[k].toNat:Int)-48)) / 10<(v:Int):=by omega
      clear e e1 e2
      go_wp2
      go_ret2
      rw[E1.out,E2.out]
      exact⟨rfl,rfl⟩
     ·have e:=HG.out
      rw[if_neg hbig] at e
      have HE:=jI e
      have hbI:¬(9223372036854775807-((s[k].toNat:Int)-48)) / 10<(v:Int):=by omega
      clear e HG
      go_wp2
      go_round
      case rel=>exact⟨k+1,10 * v+(s[k].toNat-48),by omega,by congr 1;omega,by go_num,by omega,HE.out⟩
      case measure=>simp[intOf];omega
    ·have e:num s.data.toList=some v:=by
      have:=hgo.out
      rw[List.drop_of_length_le (by simp;omega)] at this
      exact this
     have e1:mg s.data.toList=v:=by unfold mg;rw[e];rfl
     have e2:qf s.data.toList=true:=by
      unfold qf;rw[e,qZ s h0];rfl
     have E1:=jI e1
     have E2:=jI e2
     have hne:s.toList.isEmpty=false:=by
      rw[ByteArray.toList_eq];exact qZ s h0
     clear e e1 e2
     go_wp2
     go_ret2
     rw[E1.out,E2.out]
     exact⟨rfl,rfl⟩
  ·clear hz2
   go_enter func193,ntmps193
   go_wp2
   go_loop [4,17] (fun x y=>∃k v:Nat,k≤s.size∧x=.int .i64 v∧y=.int .i64 k∧v≤9223372036854775807∧Hid (num s.data.toList=EO v (s.data.toList.drop k))) (fun _ y=>s.size-(intOf y).toNat)
   case atStart=>exact⟨0,0,cu _,rfl,rfl,by decide,HN.out⟩
   case round=>
    obtain⟨k,v,hk,rfl,rfl,hv,hgo⟩:=hrel
    by_cases hlt:k<s.size
    ·have hdk:=HD.out k hlt
     unfold isDigit at hdk
     simp only[Bool.and_eq_true,decide_eq_true_eq] at hdk
     obtain⟨hd1,hd2⟩:=hdk
     have hdr:=jo s k hlt
     have hgo2:=hgo.out
     rw[hdr,EO] at hgo2
     have HG:=jI hgo2
     clear hdr hgo2
     have hd1I:(48:Int)≤(s[k].toNat:Int):=by omega
     have hd2I:(s[k].toNat:Int)≤57:=by omega
     by_cases hbig:(9223372036854775807-(s[k].toNat-48)) / 10<v
     ·have e:num s.data.toList=none:=by
       have:=HG.out
       rw[if_pos hbig] at this;exact this
      have e1:mg s.data.toList=0:=by unfold mg;rw[e];rfl
      have e2:qf s.data.toList=false:=by unfold qf;rw[e];rfl
      have E1:=jI e1
      have E2:=jI e2
      have hbI:(9223372036854775807-((s[k].toNat:Int)-48)) / 10<(v:Int):=by omega
      clear e e1 e2
      go_wp2
      go_ret2
      rw[E1.out,E2.out]
      exact⟨rfl,rfl⟩
     ·have e:=HG.out
      rw[if_neg hbig] at e
      have HE:=jI e
      have hbI:¬(9223372036854775807-((s[k].toNat:Int)-48)) / 10<(v:Int):=by omega
      clear e HG
      go_wp2
      go_round
      case rel=>exact⟨k+1,10 * v+(s[k].toNat-48),by omega,by congr 1;omega,by go_num,by omega,HE.out⟩
      case measure=>simp[intOf];omega
    ·have e:num s.data.toList=some v:=by
      have:=hgo.out
      rw[List.drop_of_length_le (by simp;omega)] at this
      exact this
     have e1:mg s.data.toList=v:=by unfold mg;rw[e];rfl
     have e2:qf s.data.toList=true:=by
      unfold qf;rw[e,qZ s h0];rfl
     have E1:=jI e1
     have E2:=jI e2
     have hne:s.toList.isEmpty=false:=by
      rw[ByteArray.toList_eq];exact qZ s h0
     clear e e1 e2
     go_wp2
     go_ret2
     rw[E1.out,E2.out]
     exact⟨rfl,rfl⟩
end Go.Proofs.YtmohibkomlhlaaaGreatDoor
namespace Go.Proofs.YtmohibkomlhlaaaGreatDoor
open Go.RowKit Go.Shelf
end Go.Proofs.YtmohibkomlhlaaaGreatDoor
namespace Go.Proofs.YtmohibkomlhlaaaGreatDoor
open Go.RowKit
open _root_.Go.Proofs.Tryz
theorem IB{s:ByteArray}(h:0<s.size):kR s.data.toList=(decide (s.size≤24)&&iO (s[0].toNat)&&(pre iJ s.data.toList==s.size)):=by
 have e:s.data.toList=s[0]::s.data.toList.drop 1:=jo s 0 h
 have hl:s.data.toList.length=s.size:=by simp
 rw[←hl]
 generalize s[0]=c at e
 rw[e];rfl
theorem nat_beq(a b:Nat):((a:Int)==(b:Int))=(a==b):=by rw[Bool.eq_iff_iff,beq_iff_eq,beq_iff_eq];omega
theorem gP{s:ByteArray}(h:0<s.size):¬s.toList=[]:=by
 rw[ByteArray.toList_eq]
 intro e
 have h2:s.data.toList.length=0:=by rw[e];rfl
 have h3:s.data.toList.length=s.size:=by simp
 omega
theorem dK{s:ByteArray}(h:0<s.size):s.toList.isEmpty=false:=by
 cases e:s.toList.isEmpty
 ·rfl
 ·exact absurd (List.isEmpty_iff.1 e) (gP h)
theorem IK(s:ByteArray)(w:World):Calls prog 165 #[.string s] w fun e w'=>e=.returned (.bool (kR s.data.toList))∧w=w':=by
 by_cases h0:s.size=0
 ·obtain rfl:s=⟨#[]⟩:=by
   have:s.data.toList=[]:=List.length_eq_zero_iff.1 (by simpa using h0)
   rw[←gN s,this];rfl
  go_enter func165,ntmps165
  go_wp2
  go_ret
  exact⟨rfl,rfl⟩
 ·have hp:0<s.size:=by omega
  rw[IB hp]
  have hne2:=gP hp
  have hne:=dK hp
  clear h0
  by_cases h24:s.size≤24
  ·have hb:=sZ s[0].toNat w
   have hc:=oK s 191 (enters_of func191 (by kernel_rfl) rfl) iJ (fun c w _=>rU c w) w (by omega)
   rw[show decide (s.size≤24)=true by simpa using h24,Bool.true_and]
   cases hl:iO s[0].toNat
   ·rw[hl] at hb
    have HB:=jI hb
    clear hb hc hl
    go_enter func165,ntmps165
    go_wp2_with fail
    refine HB.out.mono ?_
    rintro e w' ⟨rfl,rfl⟩
    go_wp2
    go_ret
    exact⟨rfl,rfl⟩
   ·rw[hl] at hb
    have HB:=jI hb
    have HC:=jI hc
    clear hb hc hl
    go_enter func165,ntmps165
    go_wp2_with fail
    refine HB.out.mono ?_
    rintro e w' ⟨rfl,rfl⟩
    go_wp2_with fail
    refine HC.out.mono ?_
    rintro e w' ⟨rfl,rfl⟩
    go_wp2
    go_ret
    refine⟨?_,rfl⟩
    show Ending.returned (.bool (((pre iJ s.data.toList:Nat):Int)==(s.size:Int)))=_
    rw[nat_beq,Bool.true_and]
  ·rw[show decide (s.size≤24)=false by simpa using h24,Bool.false_and,Bool.false_and]
   go_enter func165,ntmps165
   go_wp2
   go_ret
   exact⟨rfl,rfl⟩
def pR(l:List UInt8)(k:Int)(x:ByteArray)(v:Int)(y:ByteArray)(n:Nat):Prop:=
 match jm l with
 |none=>n=0
 |some (t,m)=>n=m∧k=t.kind∧x=t.text∧v=t.int∧y=t.str
def NxPost(l:List UInt8)(w:World)(e:Ending)(w':World):Prop:=
 ∃k x v y,∃n:Nat,e=.returned (.tuple #[.agg #[.int .i64 k,.string x,.int .i64 v,.string y,.int .i64 0],.int .i64 n])∧Below w.heap.size w w'∧pR l k x v y n
theorem sJ{fn:Func}{slot u:Nat}{R:Ending→World→Prop}{a:Act}{W:World}{r:Nat}{k v l:Int}{x y:ByteArray}{q:Value}(hres:fn.results=#[.cell slot 179,.tmp u])(hp:a.tmps.getD slot undef=.pointer (some ⟨r,0,none⟩))(hq:a.tmps.getD u undef=q)(hd:a.defers=[])
  (hblk:W.heap[r]?=some (.cells #[.int .i64 k,.string x,.int .i64 v,.string y,.int .i64 l] 179 (0,0))) (hR:R (.returned (.tuple #[.agg #[.int .i64 k,.string x,.int .i64 v,.string y,.int .i64 l],q])) W):bodyPost prog fn R .ret a W:=by
 obtain⟨c0,c1,c2,c3,c4,-⟩:=uL hblk
 refine bodyPost_ret (v:=.tuple #[.agg #[.int .i64 k,.string x,.int .i64 v,.string y,.int .i64 l],q]) ?_ hd hR
 rw[results_cell_tmp hres,hp,hq]
 simp[go_sem,c0,c1,c2,c3,c4]
theorem lexOne_at{s:ByteArray}(h:0<s.size):jm s.data.toList=
  (if iO s[0].toNat then (if 24<pre iJ s.data.toList then none else some (⟨1,bs (s.data.toList.take (pre iJ s.data.toList)),0,bs []⟩,pre iJ s.data.toList))
  else if isDigit s[0].toNat then (match num (s.data.toList.take (pre isDigit s.data.toList)) with
   |none=>none
   |some v=>some (⟨2,bs [],v,bs []⟩,pre isDigit s.data.toList))
  else if s[0]=34 then (match lit (s.data.toList.drop 1) with
   |none=>none
   |some (v,n)=>some (⟨3,bs [],0,bs v⟩,n))
  else if s[0]∈syms then some (⟨4,bs [s[0]],0,bs []⟩,1) else none):=by
 have e:s.data.toList=s[0]::s.data.toList.drop 1:=jo s 0 h
 have e2:(s.data.toList.drop 1).length=s.size-1:=by simp
 generalize s[0]=c at e ⊢
 generalize s.data.toList.drop 1=r at e ⊢
 rw[e];rfl
theorem sV(s:ByteArray)(n:Nat):s.extract 0 n=bs (s.data.toList.take n):=by
 rw[←gN (s.extract 0 n)]
 congr 1
 simp
theorem pre_digit(l:List UInt8):∀k,k<pre isDigit l→∀(h:k<l.length),isDigit (l[k]).toNat=true:=by
 induction l with
 |nil=>intro k _ h;simp at h
 |cons c r ih=>
  intro k hk h
  unfold pre at hk
  rw[List.takeWhile_cons] at hk
  split at hk
  ·rename_i hc
   cases k with
   |zero=>exact hc
   |succ k=>exact ih k (by unfold pre;simpa using hk) (by simpa using h)
  ·simp at hk
theorem sym_index:∀c:Fin 256,decide (0≤Lib.indexByte [123,125,40,41,91,93,44,59,58,61,47,43,45,60,62,124,38,42] ((c.1:Int).toNat.toUInt8))=decide (UInt8.ofNat c.1∈syms):=by decide +kernel
theorem sF{w W W2:World}{k v:Int}{x y:ByteArray}{o0 o1 o2 o3 o4:Value}(hb:Below w.heap.size w W)(h:W.heap[w.heap.size]?=some (.cells #[o0,o1,o2,o3,o4] 179 (0,0)))
  (he:W2=(((((W.setCell ⟨w.heap.size,0,none⟩ (.int .i64 k)).setCell ⟨w.heap.size,1,none⟩ (.string x)).setCell ⟨w.heap.size,2,none⟩ (.int .i64 v)).setCell ⟨w.heap.size,3,none⟩ (.string y)).setCell ⟨w.heap.size,4,none⟩ (.int .i64 0))):
  W2.heap[w.heap.size]?=some (.cells #[.int .i64 k,.string x,.int .i64 v,.string y,.int .i64 0] 179 (0,0))∧Below w.heap.size w W2:=by
 obtain⟨h1,h2⟩:=set5 h (.int .i64 k) (.string x) (.int .i64 v) (.string y) (.int .i64 0)
 subst he
 exact⟨h1,hb.trans (below_grown h2 (aP _) hb.size)⟩
theorem wC{l:List UInt8}(h:jm l=none)(k:Int)(x:ByteArray)(v:Int)(y:ByteArray):pR l k x v y 0:=by unfold pR;rw[h]
theorem wB{l:List UInt8}{t:Tok}{m:Nat}(h:jm l=some (t,m)):pR l t.kind t.text t.int t.str m:=by unfold pR;rw[h];exact⟨rfl,rfl,rfl,rfl,rfl⟩
theorem next_num{l:List UInt8}{n:Nat}(hn:0<n)(hl:0<l.length)(h:jm l=(match num (l.take n) with
   |none=>none
   |some v=>some (⟨2,bs [],v,bs []⟩,n))):(qf (l.take n)=true→pR l 2 (bs []) (mg (l.take n)) (bs []) n)∧(qf (l.take n)=false→jm l=none):=by
 have he:(l.take n).isEmpty=false:=by
  cases l with
  |nil=>simp at hl
  |cons c r=>
   cases n with
   |zero=>omega
   |succ n=>rfl
 unfold qf mg
 rw[he]
 cases hl:num (l.take n) with
 |none=>rw[hl] at h;exact⟨fun k=>by simp at k,fun _=>h⟩
 |some v=>rw[hl] at h;exact⟨fun _=>wB h,fun k=>by simp at k⟩
theorem uV(s:ByteArray)(n:Nat):(s.extract n s.size).data.toList=s.data.toList.drop n:=by simp[List.take_of_length_le]
theorem FN(s:ByteArray)(h:0<s.size):Lib.hasPrefix s.data.toList [47,47]=decide (s[0]=47∧(s.data.toList.drop 1).head?=some 47):=by
 have e:s.data.toList=s[0]::s.data.toList.drop 1:=jo s 0 h
 generalize s[0]=c at e ⊢
 generalize s.data.toList.drop 1=r at e ⊢
 rw[e]
 unfold Lib.hasPrefix
 cases r with
 |nil=>simp[List.isPrefixOf]
 |cons d r=>
  have h1:((47:UInt8)==c)=decide (c=47):=by rw[Bool.eq_iff_iff,beq_iff_eq,decide_eq_true_iff];exact eq_comm
  have h2:((47:UInt8)==d)=decide (d=47):=by rw[Bool.eq_iff_iff,beq_iff_eq,decide_eq_true_iff];exact eq_comm
  simp[List.isPrefixOf,h1,h2]
theorem o7(w:World)(o:Obj):(w.alloc o).heap.size=w.heap.size+1:=by simp
theorem next_zero{l:List UInt8}{k v:Int}{x y:ByteArray}(h:pR l k x v y 0):jm l=none:=by
 unfold pR at h
 cases e:jm l with
 |none=>rfl
 |some p=>
  obtain⟨t,m⟩:=p
  rw[e] at h
  have:=sP _ _ _ e
  have h1:(0:Nat)=m:=h.1
  omega
theorem next_pos{l:List UInt8}{k v:Int}{x y:ByteArray}{n:Nat}(h:pR l k x v y n)(hn:n≠0):∃t:Tok,jm l=some (t,n)∧k=t.kind∧x=t.text∧v=t.int∧y=t.str:=by
 unfold pR at h
 cases e:jm l with
 |none=>rw[e] at h;exact absurd h hn
 |some p=>
  obtain⟨t,m⟩:=p
  rw[e] at h
  obtain⟨rfl,h⟩:=h
  exact⟨t,rfl,h⟩
def KPost(s:ByteArray)(w:World)(e:Ending)(w':World):Prop:=
 Below w.heap.size w w'∧(if 65536<s.size then e=.returned (.tuple #[.slice none 0 0,.int .i64 0,.int .i64 3])
  else if (lex s.data.toList 1 []).2.2≠0 then e=.returned (.tuple #[.slice none 0 0,.int .i64 (lex s.data.toList 1 []).2.1,.int .i64 (lex s.data.toList 1 []).2.2])
  else ∃A c,e=.returned (.tuple #[.slice A (lex s.data.toList 1 []).1.length c,.int .i64 0,.int .i64 0])∧(lex s.data.toList 1 []).1.length≤c∧ak w' (w.heap.size≤·) 5 A (lex s.data.toList 1 []).1.length (jV (lex s.data.toList 1 []).1)∧(lex s.data.toList 1 []).1.length≤s.size)
theorem kpost_err{s:ByteArray}{w w':World}{line:Nat}(h:¬65536<s.size)(hb:Below w.heap.size w w')(he:lex s.data.toList 1 []=([],line,2)):KPost s w (.returned (.tuple #[.slice none 0 0,.int .i64 line,.int .i64 2])) w':=by
 refine⟨hb,?_⟩
 rw[if_neg h,he,if_pos (by simp)];rfl
theorem kpost_ok{s:ByteArray}{w w':World}{acc:cB}{A:Option Addr}{c:Nat}(h:¬65536<s.size)(hb:Below w.heap.size w w')(he:lex s.data.toList 1 []=(acc,0,0))(hc:acc.length≤c)(hs:ak w' (w.heap.size≤·) 5 A acc.length (jV acc))(hl:acc.length≤s.size):KPost s w (.returned (.tuple #[.slice A acc.length c,.int .i64 0,.int .i64 0])) w':=by
 refine⟨hb,?_⟩
 rw[if_neg h,he,if_neg (by simp)]
 exact⟨A,c,rfl,hc,hs,hl⟩
structure KInv(s:ByteArray)(w:World)(rest:ByteArray)(v:Value)(line:Nat)(acc:cB)(wr:World):Prop where
 lx:lex s.data.toList 1 []=lex rest.data.toList line acc
 own:wr.ownsRow w.heap.size 179 5 v acc.length (jV acc)
 blw:Below w.heap.size w wr
 len:acc.length+rest.size≤s.size
 lin:line+rest.size≤s.size+1
end Go.Proofs.YtmohibkomlhlaaaGreatDoor
