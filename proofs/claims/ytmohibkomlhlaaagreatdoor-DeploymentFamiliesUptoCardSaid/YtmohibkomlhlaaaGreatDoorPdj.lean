/- The contracts of the bg index, set, find and group. Numbers in range; the servers' names are different. The contracts of the bg weight, Has and Holds of an expression. iX that stand well. The contract of the bg Holds of a term: it answers as the expression of the term does. Terms that are typed. The contract of the bg Holds of a term: a name. Terms that are typed. The contract of the bg Holds of a term: several kids. Terms that are typed. The contract of the bg Holds of a term: a dual. Terms that are typed. -/
import Derived.Test.YtmohibkomlhlaaaGreatDoorPdh
import Derived.Deep.OwnRows
set_option maxRecDepth 100000
set_option maxHeartbeats 8000000
namespace Go.Proofs.YtmohibkomlhlaaaGreatDoor
open Go.RowKit
open _root_.Go.Proofs.Tryz
def ixI(o:Option Nat):Int:=match o with
 |some i=>(i:Nat)
 |none=>-1
theorem rIdx_drop(sv:List ByteArray)(k:Nat)(h:k<sv.length)(x:ByteArray):Gm (sv.drop k) x=if sv[k]==x then some 0 else (Gm (sv.drop (k+1)) x).map (·+1):=by
 unfold Gm
 rw[fE h,List.findIdx?_cons]
theorem index_ref(sv:List ByteArray)(A:Option Addr)(c:Nat)(x:ByteArray)(w:World)(S:Nat→Prop)(hs:ak w S 1 A sv.length (aC sv))(hl:sv.length≤1000000000):
  Calls prog 74 #[.slice A sv.length c,.string x] w fun e w'=>e=.returned (.int .i64 (ixI (Gm sv x)))∧w=w':=by
 have HS:=jI hs
 obtain⟨r,hr⟩:=kE (ixI (Gm sv x))
 have HR0:=jI (show r=ixI ((Gm (sv.drop 0) x).map (·+0)) by rw[List.drop_zero,hr];cases Gm sv x<;>rfl)
 rw[←hr]
 clear hs hr
 go_enter func74,ntmps74
 go_wp2
 go_loop [5] (fun i=>∃k:Nat,k≤sv.length∧i=.int .i64 k∧Hid (r=ixI ((Gm (sv.drop k) x).map (·+k)))) (fun i=>sv.length-(intOf i).toNat)
 case atStart=>exact⟨0,cu _,rfl,HR0⟩
 case round=>
  obtain⟨k,hk,rfl,hr⟩:=hrel
  by_cases hlt:k<sv.length
  ·obtain⟨g,o,rfl,-,hcell⟩:=HS.out.cells (by omega)
   have hck:=hcell k _ (dV sv k hlt)
   have hd:=rIdx_drop sv k hlt x
   obtain⟨p,hp⟩:=kE (sv.getD k ByteArray.empty)
   have hpe:sv[k]=p:=by rw[hp];simp[hlt]
   rw[←hp] at hck
   rw[hpe,ba_tl] at hd
   have hkI:(k:Int)<(sv.length:Int):=by omega
   have hk0:(0:Int)≤(k:Int):=by omega
   clear hp hpe hcell
   cases hq:(p.toList==x.toList)
   ·have HR:=jI (show r=ixI ((Gm (sv.drop (k+1)) x).map (·+(k+1))) by
     have:=hr.out
     rw[hd,hq] at this
     rw[this]
     cases Gm (sv.drop (k+1)) x with
     |none=>rfl
     |some j=>simp[ixI];omega)
    clear hd hr
    go_wp2
    go_round
    case rel=>exact⟨k+1,by omega,by go_num,HR⟩
    case measure=>simp[intOf];omega
   ·have HR:=jI (show r=(k:Nat) by have:=hr.out;rw[hd,hq] at this;rw[this];simp[ixI])
    clear hd hr
    go_wp2
    go_ret
    exact⟨by rw[HR.out];rfl,rfl⟩
  ·obtain rfl:k=sv.length:=by omega
   have hkI:¬(sv.length:Int)<(sv.length:Int):=by omega
   have HR:=jI (show r=-1 by have:=hr.out;rw[List.drop_length] at this;exact this)
   clear hr
   go_wp2
   go_ret
   exact⟨by rw[HR.out];rfl,rfl⟩
theorem qQ{l:List Dc}(A:Option Addr)(c:Nat)(w:World)(S:Nat→Prop)(hl:aO (dS w S) w S 22 A l)(hS:∀g,S g→g<w.heap.size)(hll:l.length≤100000000)(hnd:(ai l).Nodup)(hsv:(ai l).length≤12)
  (names:List ByteArray) (nA:Option Addr) (nc:Nat) (T:Nat→Prop) (hn:ak w T 1 nA names.length (aC names)) (hT:∀g,T g→g<w.heap.size) (hnl:names.length≤1000000000):
  Calls prog 35 #[.slice A l.length c,.slice nA names.length nc] w fun e w'=>e=.returned (.int .u16 (iA (ai l) names:Nat))∧Below w.heap.size w w':=by
 have HS0:=jI (vP l A c w S hl hS (by omega) hll)
 have HLT:=jI (fun l=>lq hsv l)
 have HIX:=jI (fun(x:ByteArray)(i:Nat)(h:iQ (ai l) x=some i)=>Ac h)
 have HEQ:=jI (fun x=>yF hnd x)
 have HN:=jI hn
 have hsv0:=hsv
 obtain⟨sv,hsvv⟩:=kE (ai l)
 rw[←hsvv] at HLT HIX HEQ hsv ⊢
 unfold tu at HS0
 rw[←hsvv] at HS0
 clear hl hn hnd hsvv hsv0
 go_enter func35,ntmps35
 go_wp2_with fail
 refine HS0.out.mono ?_
 rintro e w1 ⟨v1,rfl,hown,hb1⟩
 obtain⟨A1,c1,rfl,hc1⟩:=aD hown
 have hs1:=ak.own hown
 have HS1:=jI hs1
 have HN1:=jI (HN.out.keep (aj hb1 hT))
 have HI:=jI (fun x=>index_ref sv A1 c1 x w1 _ HS1.out (by omega))
 clear hown hs1
 go_wp2
 go_loop [6,7] (fun y x=>∃k:Nat,k≤names.length∧x=.int .i64 k∧y=.int .u16 (iA sv (names.take k):Nat)) (fun _ x=>names.length-(intOf x).toNat)
 case atStart=>exact⟨0,cu _,rfl,rfl⟩
 case round=>
  obtain⟨k,hk,rfl,rfl⟩:=hrel
  by_cases hlt:k<names.length
  ·obtain⟨g,o,rfl,hSg,hcell⟩:=HN1.out.cells (by omega)
   have hck:=hcell k _ (dV names k hlt)
   have hsn:names.take (k+1)=names.take k++[names.getD k ByteArray.empty]:=by rw[cO hlt];simp[hlt]
   obtain⟨x,hx⟩:=kE (names.getD k ByteArray.empty)
   rw[←hx] at hck hsn
   have hss:iA sv (names.take (k+1))=match iQ sv x with|some i=>iA sv (names.take k)|||2^i|none=>iA sv (names.take k):=by rw[hsn,lX];cases iQ sv x<;>rfl
   have hq:=HLT.out (names.take k)
   obtain⟨q,hqq⟩:=kE (iA sv (names.take k))
   rw[←hqq] at hss hq ⊢
   have hkI:(k:Int)<(names.length:Int):=by omega
   have hk0:(0:Int)≤(k:Int):=by omega
   have HIx:=jI (HI.out x)
   have he:=HEQ.out x
   clear hcell hsn hx hqq
   cases hix:iQ sv x with
   |none=>
    rw[hix] at hss he
    rw[←he] at HIx
    have HSS:=jI hss
    clear hss hix he
    go_wp2_with fail
    refine HIx.out.mono ?_
    rintro e w2 ⟨rfl,rfl⟩
    simp only[ixI]
    go_wp2
    go_round
    case rel=>exact⟨k+1,by omega,by go_num,by rw[HSS.out]⟩
    case measure=>simp[intOf];omega
   |some i=>
    have hi:=HIX.out x i hix
    rw[hix] at hss he
    rw[←he] at HIx
    have HSS:=jI hss
    have HOR:=jI (or_bit q i (by omega) (by omega))
    have hi0:(0:Int)≤(i:Int):=by omega
    clear hss hix he
    go_wp2_with fail
    refine HIx.out.mono ?_
    rintro e w2 ⟨rfl,rfl⟩
    simp only[ixI]
    go_wp2
    go_round
    case rel=>exact⟨k+1,by omega,by go_num,by rw[HSS.out];exact congrArg _ HOR.out⟩
    case measure=>simp[intOf];omega
  ·obtain rfl:k=names.length:=by omega
   have hkI:¬(names.length:Int)<(names.length:Int):=by omega
   rw[List.take_length]
   go_wp2
   go_ret
   exact⟨rfl,hb1⟩
def zDc:Dc:=⟨0,0,⟨#[]⟩,[],[],.zero,⟨#[]⟩,.zero,.zero,⟨#[]⟩⟩
theorem zdc_at(w:World)(S:Nat→Prop):dS w S zDc (.agg zDc0):=
 ⟨none,0,none,0,_,_,_,rfl,.empty _ _ _ _,aP _,.empty _ _ _ _ _,aP _,dX.named _ _ 0 (bs []),dX.named _ _ 0 (bs []),dX.named _ _ 0 (bs [])⟩
def jd(l:List Dc)(x:ByteArray):Dc:=(rO l x).getD zDc
def Em(x:ByteArray)(d:Dc):Bool:=d.name==x&&(!decide (d.kind=5)&&!decide (d.kind=7))
theorem Jd(l:List Dc)(k:Nat)(h:k<l.length)(x:ByteArray):rO (l.drop k) x=if Em x l[k] then some l[k] else rO (l.drop (k+1)) x:=by
 unfold rO
 rw[fE h,List.find?_cons]
 show (match Em x l[k] with|true=>_|false=>_)=_
 cases Em x l[k]<;>rfl
theorem ret_dc1{fn:Func}{slot:Nat}{R:Ending→World→Prop}{a:Act}{W:World}{r:Nat}{cells:Array Value}(hres:fn.results=#[.cell slot 35])(hp:a.tmps.getD slot undef=.pointer (some ⟨r,0,none⟩))(hd:a.defers=[])
  (hblk:W.heap[r]?=some (.cells cells 35 (0,0))) (hc:cells.size=22) (hR:R (.returned (.agg cells)) W):bodyPost prog fn R .ret a W:=
 bodyPost_ret (results_cell_row hres a.tmps W r 35 cells (0,0) _ hp hblk underlying35 rfl (by rw[hc];exact cZ)) hd hR
theorem nK{l:List Dc}(A:Option Addr)(c:Nat)(w:World)(S:Nat→Prop)(hl:aO (dS w S) w S 22 A l)(hS:∀g,S g→g<w.heap.size)(hll:l.length≤1000000000)(x:ByteArray):
  Calls prog 36 #[.slice A l.length c,.string x] w fun e w'=>∃v,e=.returned v∧dS w' S (jd l x) v∧Below w.heap.size w w':=by
 obtain⟨w1,h1⟩:=kE (w.alloc (.cells zDc0 35))
 have hb1:Below w.heap.size w w1:=by rw[h1];exact (jQ _ _).alloc (aP _) _
 have hr1:w1.heap[w.heap.size]?=some (.cells zDc0 35 (0,0)):=by rw[h1];exact jR w _
 have HL:=jI (hl.keep (P':=dS w1 S) (aj hb1 hS) (fun _ _ h=>h.keep (aj hb1 hS)))
 have H1:=jI h1
 have HR1:=jI hr1
 have hlt1:=jS hr1
 have HF0:=jI (show rO l x=rO (l.drop 0) x by rw[List.drop_zero])
 clear hl h1 hr1
 go_enter func36,ntmps36
 go_upto_region 2 with fail
 rw[←H1.out]
 go_loop [5] (fun i=>∃k:Nat,k≤l.length∧i=.int .i64 k∧Hid (rO l x=rO (l.drop k) x)) (fun i=>l.length-(intOf i).toNat)
 case atStart=>exact⟨0,cu _,rfl,HF0⟩
 case round=>
  obtain⟨k,hk,rfl,hr⟩:=hrel
  by_cases hlt:k<l.length
  ·obtain⟨g,o,v,rfl,hSg,hp,hcs⟩:=dB (fun _ _ h=>lD h) HL.out hlt
   have hdr:=Jd l k hlt x
   obtain⟨d,hd⟩:=kE (l[k])
   rw[←hd] at hp hdr
   have HP:=jI hp
   obtain⟨cs,nA,nc,hcl,hone,rfl,c0,-,c2,-⟩:=j4 hp
   have e0:w1.cell? ⟨g,o+k * 22,none⟩=some (.int .i64 d.kind):=hcs 0 _ (by simpa [cellsOf,Value.cells] using c0)
   have e2:w1.cell? ⟨g,o+k * 22+2,none⟩=some (.string d.name):=hcs 2 _ (by simpa [cellsOf,Value.cells] using c2)
   have hrange:w1.rangeAt g (o+k * 22) cs:=fun i u hu=>hcs i u (by simpa [cellsOf,Value.cells] using hu)
   have mW:(prog.info? 35).map (·.size)=some cs.length:=by rw[hcl];exact cZ
   have hcs2:cs.toArray.size=22:=by simpa using hcl
   have nD:=jI hone
   have HCS:=jI hcs2
   have hkI:(k:Int)<(l.length:Int):=by omega
   have hk0:(0:Int)≤(k:Int):=by omega
   have hgs:g<w.heap.size:=hS g hSg
   have ht:Em x d=(d.name.toList==x.toList&&(!decide (d.kind=5)&&!decide (d.kind=7))):=by unfold Em;rw[ba_tl]
   clear hp hcs hone hcs2 hcl c0 c2 hd
   by_cases hq:Em x d=true
   ·have HF:=jI (show jd l x=d by unfold jd;rw[hr.out,hdr,if_pos hq];rfl)
    rw[hq] at ht
    have ht2:=ht.symm
    simp only[Bool.and_eq_true,Bool.not_eq_true',decide_eq_false_iff_not] at ht2
    obtain⟨t1,t2,t3⟩:=ht2
    have t2b:(d.kind==(5:Int))=false:=by rw[bP];exact t2
    have t3b:(d.kind==(7:Int))=false:=by rw[bP];exact t3
    have t2c:(d.kind != (5:Int))=true:=by rw[bne,t2b];rfl
    have t3c:(d.kind != (7:Int))=true:=by rw[bne,t3b];rfl
    clear hr hdr ht hq
    have hr4:=HR1.out
    go_wp2_with (first|(with_reducible refine wpList_load_mid rfl 35 (.tmp 37) rfl g (o+k * 22) rfl cs _ hrange underlying35 rfl mW ?_)|(with_reducible refine bO _ rfl rfl (.tmp 4) (.tmp 38) rfl w.heap.size cs.toArray rfl rfl _ hr4 rfl HCS.out nD.out ?_;intro W5 hr5 hg5))
    have hb5:=below_grown hg5 (aP _) hb1.size
    refine ret_dc1 rfl rfl rfl hr5 HCS.out ⟨_,rfl,?_,hb1.trans hb5⟩
    rw[HF.out]
    exact HP.out.keep (fun i hi hl=>hb5.block i (hS i hi))
   ·have HR:=jI (show rO l x=rO (l.drop (k+1)) x by have:=hr.out;rw[hdr,if_neg hq] at this;exact this)
    have hqf:Em x d=false:=by simpa using hq
    rw[hqf] at ht
    have h3:(d.name.toList==x.toList)=false∨((d.name.toList==x.toList)=true∧(d.kind==(5:Int))=true)∨((d.name.toList==x.toList)=true∧(d.kind==(5:Int))=false∧(d.kind==(7:Int))=true):=by
     cases hz:(d.name.toList==x.toList)
     ·exact Or.inl rfl
     ·rw[hz] at ht
      by_cases h5:d.kind=5
      ·exact Or.inr (Or.inl ⟨rfl,by rw[h5];rfl⟩)
      ·by_cases h7:d.kind=7
       ·exact Or.inr (Or.inr ⟨rfl,by rw[h7];rfl,by rw[h7];rfl⟩)
       ·simp[h5,h7] at ht
    clear hr hdr ht hq hqf
    rcases h3 with t1|⟨t1,t2⟩|⟨t1,t2,t3⟩
    case' inr.inl=>have t2c:(d.kind != (5:Int))=false:=by rw[bne,t2];rfl
    case' inr.inr=>
     have t2c:(d.kind != (5:Int))=true:=by rw[bne,t2];rfl
     have t3c:(d.kind != (7:Int))=false:=by rw[bne,t3];rfl
    all_goals
     go_wp2
     go_round
     case rel=>exact⟨k+1,by omega,by go_num,HR⟩
     case measure=>simp[intOf];omega
  ·obtain rfl:k=l.length:=by omega
   have hkI:¬(l.length:Int)<(l.length:Int):=by omega
   have HF:=jI (show jd l x=zDc by unfold jd;rw[hr.out,List.drop_length];rfl)
   have hr4:=HR1.out
   clear hr
   have hz1:zDc0.size=22:=rfl
   have hz2:zDc0.all (·.oneCell')=true:=by kernel_rfl
   go_wp2_with (with_reducible refine bO _ rfl rfl (.tmp 4) (.tmp 39) rfl w.heap.size zDc0 rfl rfl _ hr4 rfl hz1 hz2 ?_;intro W5 hr5 hg5)
   have hb5:=below_grown hg5 (aP _) hb1.size
   refine ret_dc1 rfl rfl rfl hr5 rfl ⟨_,rfl,?_,hb1.trans hb5⟩
   rw[HF.out]
   exact zdc_at _ _
theorem GK{w:World}{S:Nat→Prop}{d:Dc}{v:Value}(h:dS w S d v):
  (∃nA nc,ak w S 1 nA d.names.length (aC d.names)∧d.names.length≤nc∧∀W,(Instr.field 35 v 3).run prog W=.ok (.slice nA d.names.length nc) W)∧
  ∃vt,dX w S d.term vt∧∀W,(Instr.field 35 v 5).run prog W=.ok vt W:=by
 obtain⟨nA,nc,fA,fc,vt,vr,vw,rfl,h1,h2,h3,h4,h5,h6,h7⟩:=h
 have h5':=h5
 obtain⟨o1,m1,d1,wA1,wn1,wc1,kA1,kn1,kc1,rfl⟩:=h5.form
 obtain⟨o2,m2,d2,wA2,wn2,wc2,kA2,kn2,kc2,rfl⟩:=h6.form
 obtain⟨o3,m3,d3,wA3,wn3,wc3,kA3,kn3,kc3,rfl⟩:=h7.form
 exact⟨⟨nA,nc,h1,h2,fun W=>by kernel_rfl⟩,_,h5',fun W=>by kernel_rfl⟩
def kM(l:List Dc)(x:ByteArray):Nat:=if x=(⟨#[115,101,114,118,101,114,115]⟩:ByteArray) then iA (ai l) (ai l) else iA (ai l) (jd l x).names
theorem qW{l:List Dc}(h:(ai l).length≤12)(x:ByteArray):kM l x<4096:=by
 unfold kM
 split<;>exact lq h _
theorem rGroup_eq{l:List Dc}(hn:(gJ l).Nodup)(hk:uF l){x:ByteArray}(hx:x=(⟨#[115,101,114,118,101,114,115]⟩:ByteArray)∨x≠(⟨#[115,101,114,118,101,114,115]⟩:ByteArray)∧aQ (tab l) x=1):kM l x=gH l x:=by
 unfold kM gH
 rcases hx with h|⟨h1,h2⟩
 ·rw[if_pos h,if_pos h,svSet_all ((mQ l).nodup hn)]
 ·rw[if_neg h1,if_neg h1]
  obtain⟨d,-,-,-,e1,e2⟩:=xg hn hk (k:=1) h2 (by decide)
  unfold jd
  rw[e1,e2]
  rfl
theorem oI{l:List Dc}(A:Option Addr)(c:Nat)(w:World)(S:Nat→Prop)(hl:aO (dS w S) w S 22 A l)(hS:∀g,S g→g<w.heap.size)(hll:l.length≤100000000)(hnd:(ai l).Nodup)(hsv:(ai l).length≤12)
  (x:ByteArray) (hnl:∀d∈l,d.names.length≤1000000000):
  Calls prog 33 #[.slice A l.length c,.string x] w fun e w'=>e=.returned (.int .u16 (kM l x:Nat))∧Below w.heap.size w w':=by
 have HST:=jI (fun(W:World)(hW:Below w.heap.size w W)(names:List ByteArray)(nA:Option Addr)(nc:Nat)(T:Nat→Prop)(hn:ak W T 1 nA names.length (aC names))(hT:∀g,T g→g<W.heap.size)(hnl:names.length≤1000000000)=>qQ A c W S (hl.keep (aj hW hS) (fun _ _ h=>h.keep (aj hW hS))) (fun g hg=>by have:=hS g hg;have:=hW.size;omega) hll hnd hsv names nA nc T hn hT hnl)
 by_cases hx:x=(⟨#[115,101,114,118,101,114,115]⟩:ByteArray)
 ·have HG:=jI (show kM l x=iA (ai l) (ai l) by unfold kM;rw[if_pos hx])
  have HS0:=jI (vP l A c w S hl hS (by omega) hll)
  obtain⟨n,hn⟩:=kE (kM l x)
  rw[←hn] at HG ⊢
  subst hx
  unfold tu at HS0
  clear hl hn
  go_enter func33,ntmps33
  go_wp2_with fail
  refine HS0.out.mono ?_
  rintro e w1 ⟨v1,rfl,hown,hb1⟩
  obtain⟨A1,c1,rfl,hc1⟩:=aD hown
  have hs1:=(ak.own hown).mono (S':=fun g=>g<w1.heap.size) (fun g _ hl=>hl) (by decide)
  have HC:=jI (HST.out w1 hb1 _ A1 c1 _ hs1 (fun g h=>h) (by omega))
  clear hown hs1
  go_wp2_with fail
  refine HC.out.mono ?_
  rintro e w2 ⟨rfl,hb2⟩
  go_wp2
  go_ret
  exact⟨by rw[HG.out];rfl,hb1.trans (hb2.mono hb1.size)⟩
 ·have HG:=jI (show kM l x=iA (ai l) (jd l x).names by unfold kM;rw[if_neg hx])
  have HF:=jI (nK A c w S hl hS (by omega) x)
  have hnf:(jd l x).names.length≤1000000000:=by
   unfold jd
   cases h:rO l x with
   |none=>simp[zDc]
   |some d=>exact hnl d (List.mem_of_find?_eq_some h)
  have hs3:¬x.toList=[115,101,114,118,101,114,115]:=fun e9=>hx (by rw[ByteArray.toList_eq] at e9;rw[←gN x,e9];rfl)
  have hs4:(x.toList==[115,101,114,118,101,114,115])=false:=by rw[bP];exact hs3
  obtain⟨n,hn⟩:=kE (kM l x)
  rw[←hn] at HG ⊢
  clear hl hn hnl
  go_enter func33,ntmps33
  go_wp2_with fail
  refine HF.out.mono ?_
  rintro e w1 ⟨v1,rfl,hp,hb1⟩
  obtain⟨⟨nA,nc,hsn,hnc,hfd⟩,-⟩:=GK hp
  have HC:=jI (HST.out w1 hb1 _ nA nc _ hsn (fun g hg=>by have:=hS g hg;have:=hb1.size;omega) hnf)
  clear hp hsn
  go_wp2_with fail
  refine HC.out.mono ?_
  rintro e w2 ⟨rfl,hb2⟩
  go_wp2
  go_ret
  exact⟨by rw[HG.out];rfl,hb1.trans (hb2.mono hb1.size)⟩
def jf(A:Option Addr)(c:Nat)(l:List Dc)(t:Tm)(x:Ex):Prop:=
 ∀(v:Value)(w:World)(S:Nat→Prop)(s:Nat),aO (dS w S) w S 22 A l→dX w S t v→(∀g,S g→g<w.heap.size)→s<4096→Calls prog 11 #[.slice A l.length c,v,.int .u16 s] w fun e w'=>e=.returned (.bool (bW x s))∧Below w.heap.size w w'
theorem rD(l:List Dc)(A:Option Addr)(c:Nat)(name:ByteArray)(w:World)(S:Nat→Prop)(hl:aO (dS w S) w S 22 A l)(hS:∀g,S g→g<w.heap.size)(htb:(tab l).length≤100000000)(hll:l.length≤100000000):
  Calls prog 34 #[.slice A l.length c,.string name] w fun e w'=>e=.returned (.int .i64 (aQ (tab l) name))∧Below w.heap.size w w':=by
 have HT:=jI (table_ref l A c w S hl hS htb hll)
 obtain⟨t,ht⟩:=kE (tab l)
 unfold TabPost at HT
 rw[←ht] at HT htb ⊢
 clear hl ht
 go_enter func34,ntmps34
 go_wp2_with fail
 refine HT.out.mono ?_
 rintro e w1 ⟨v1,rfl,hown,hb⟩
 obtain⟨A1,c1,rfl,hc1⟩:=aD hown
 have HF:=jI (find_ref (ak.own hown) c1 name (by omega))
 clear hown
 go_wp2_with fail
 refine HF.out.mono ?_
 rintro e w2 ⟨rfl,rfl⟩
 go_wp2
 go_ret
 exact⟨rfl,hb⟩
theorem wSum_in{ws:List Int}(h:∀v∈ws,1≤v∧v≤1000)(hs:List Bool):0≤BI ws hs∧BI ws hs≤1000 * hs.length:=by
 induction hs using dU with
 |nil=>exact⟨Int.le_refl _,Int.le_refl _⟩
 |snoc hs b ih=>
  rw[qF,bD,List.length_singleton]
  have:0≤(if ws.length=0 then (1:Int) else ws.getD hs.length 0)∧(if ws.length=0 then (1:Int) else ws.getD hs.length 0)≤1000:=by
   split
   ·decide
   ·by_cases hk:hs.length<ws.length
    ·rw[List.getD_eq_getElem?_getD,dD hk]
     have:=h _ (bQ hk)
     show 0≤ws[hs.length]∧ws[hs.length]≤1000
     omega
    ·rw[List.getD_eq_getElem?_getD,List.getElem?_eq_none (by omega)];decide
  split<;>omega
structure RLim(l:List Dc):Prop where
 len:l.length≤100000000
 nd:(ai l).Nodup
 sv:(ai l).length≤12
 names:∀d∈l,d.names.length≤1000000000
 tab:(tab l).length≤100000000
theorem bitN(G k:Nat)(h:G<65536):bits .and .u16 ((G:Int) / 2^k) 1=((if G.testBit k then 1 else 0:Nat):Int):=by
 have hd:G / 2^k<65536:=fG (Nat.div_le_self _ _) h
 have e:((G:Int) / 2^k)=((G / 2^k:Nat):Int):=by simp
 rw[←mK,e,show (1:Int)=((1:Nat):Int) from rfl,u16_and_nat (G / 2^k) 1 hd (by decide),Nat.and_one_is_mod]
 by_cases h1:G / 2^k % 2=1
 ·simp[h1]
 ·have:G / 2^k % 2=0:=by omega
  simp[this]
theorem xor16(s:Nat)(h:s<65536):bits .xor .u16 65535 (s:Int)=((65535-s:Nat):Int):=by
 rw[show (65535:Int)=((65535:Nat):Int) from rfl,u16_xor_nat 65535 s (by decide) h]
 congr 1
 refine Nat.eq_of_testBit_eq fun i=>?_
 rw[Nat.testBit_xor,show 65535-s=2^16-(s+1) by omega,Nat.testBit_two_pow_sub_succ (by omega),show 65535=2^16-1 by rfl,Nat.testBit_two_pow_sub_one]
 by_cases hi:i<16
 ·simp[hi]
 ·rw[Nat.testBit_lt_two_pow (bZ h (Nat.pow_le_pow_right (n:=2) (by decide) (show 16≤i by omega)))]
  simp[hi]
theorem and12(s:Nat)(h:s<4096):bits .and .u16 ((65535-s:Nat):Int) 4095=((4095-s:Nat):Int):=by
 rw[show (4095:Int)=((4095:Nat):Int) from rfl,u16_and_nat (65535-s) 4095 (by omega) (by decide)]
 congr 1
 rw[show 4095=2^12-1 by rfl,Nat.and_two_pow_sub_one_eq_mod]
 omega
theorem pow_and(i s:Nat):(2^i&&&s≠0)↔s.testBit i=true:=by
 have h:∀j,(2^i&&&s).testBit j=(decide (i=j)&&s.testBit j):=fun j=>by rw[Nat.testBit_and,Nat.testBit_two_pow]
 constructor
 ·intro h0
  cases hb:s.testBit i
  ·refine absurd (Nat.eq_of_testBit_eq fun j=>?_) h0
   rw[h,Nat.zero_testBit]
   by_cases e:i=j
   ·subst e;rw[hb];simp
   ·simp[e]
  ·rfl
 ·intro hb h0
  have:=h i
  rw[h0,hb,Nat.zero_testBit] at this
  simp at this
theorem EG{A:Option Addr}{c:Nat}{l pre:List Dc}{env:ByteArray→Ex × Nat}(hp:Plain l pre)(hL:RLim l)(hks:uF l)(op:Int)(name:ByteArray)(need:Int)(ws:List Int)(kids:List Tm)(ht:Typed pre (.mk op name need ws kids))
  (hkl:kids.length≤10000000) (hwl:ws.length≤10000000) (wU:∀x,aQ (tab pre) x=4→(env x).2=0→jf A c l (jd l x).term (env x).1) (AZ:∀x,aQ (tab pre) x=4→(env x).2=0→qA (env x).1)
  (ih:∀k∈kids,(fK l env k).2=0→jf A c l k (fK l env k).1) (he:(fK l env (.mk op name need ws kids)).2=0)
  (hca:op=1∧ws=[]∧kids=[]∧(aQ (tab pre) name=2∨aQ (tab pre) name=4)):jf A c l (.mk op name need ws kids) (fK l env (.mk op name need ws kids)).1:=by
 intro v w S s hls hv hS hs0
 have HCAS:=jI hca
 clear hca
 have hbA:∀(W:World)(o:Obj),Below W.heap.size W (W.alloc o):=fun W o=>(jQ _ _).alloc (aP _) o
 cases hv with
 |mk _ _ _ _ _ wA kA wc kc vs hvw hwc hvk hkc hvl hvh=>
 have HKI:=jI (show aO (dX w S) w S 5 kA kids from ⟨vs,hvl,hvk,hvh⟩)
 have HVW:=jI hvw
 obtain⟨-,h2,h3⟩:=kH he
 have hwk:∀x∈kids.map (fun t=>(fK l env t).1),qA x:=fun x hx=>by
  obtain⟨t,htm,rfl⟩:=List.mem_map.1 hx
  exact sW hp AZ _ t (aP _) (ht.parts.2.2.2 t htm) (h3 t htm)
 rw[h2] at he ⊢
 obtain⟨rb,hrb⟩:=kE (bW (gX l env op name need ws (kids.map fun t=>(fK l env t).1)).1 s)
 rw[←hrb]
 have HRB:=jI hrb
 clear hrb
 have HIH:=jI (fun k hk=>ih k hk (h3 k hk))
 have hLS:=fun(W:World)(hW:Below w.heap.size w W)=>(⟨hls.keep (P':=dS W S) (aj hW hS) (fun _ _ h=>h.keep (aj hW hS)),fun g hg=>by have:=hS g hg;have:=hW.size;omega⟩:aO (dS W S) W S 22 A l∧∀g,S g→g<W.heap.size)
 have HLS:=jI hLS
 have HG:=jI (fun(W:World)(hW:Below w.heap.size w W)=>oI A c W S (hLS W hW).1 (hLS W hW).2 hL.len hL.nd hL.sv name hL.names)
 have HKD:=jI (fun(W:World)(hW:Below w.heap.size w W)=>rD l A c name W S (hLS W hW).1 (hLS W hW).2 hL.tab hL.len)
 have HSET:=jI (fun(W:World)(hW:Below w.heap.size w W)(nA:Option Addr)(T:Nat→Prop)(hn:ak W T 1 nA 1 (aC [name]))(hT:∀g,T g→g<W.heap.size)=>qQ A c W S (hLS W hW).1 (hLS W hW).2 hL.len hL.nd hL.sv [name] nA 1 T hn hT (by simp))
 have HFI:=jI (fun(W:World)(hW:Below w.heap.size w W)=>nK A c W S (hLS W hW).1 (hLS W hW).2 (by have:=hL.len;omega) name)
 have hG12:=qW hL.sv name
 obtain⟨W0,hW0⟩:=kE (w.alloc (.cells #[.int .i64 op,.string name,.int .i64 need,.slice wA ws.length wc,.slice kA kids.length kc] 26))
 have hb0:Below w.heap.size w W0:=by rw[hW0];exact hbA _ _
 have hr0:W0.heap[w.heap.size]?=some (.cells #[.int .i64 op,.string name,.int .i64 need,.slice wA ws.length wc,.slice kA kids.length kc] 26 (0,0)):=by rw[hW0];exact jR _ _
 have HR0:=jI hr0
 have zk:=jS hr0
 have H0:=jI hW0
 have HP:=jI hp
 have HT:=jI ht
 have HHE:=jI he
 have HWK:=jI hwk
 have HEN:=jI wU
 have HLM:=jI hL
 have HKS:=jI hks
 clear hW0 hr0 hls hvw hvk hvl hvh ih he ht wU AZ hwk h2 h3 hLS hL hks hp
 go_enter func11,ntmps11
 go_wp2_with fail
 rw[←H0.out]
 refine (HG.out W0 hb0).mono ?_
 rintro e w1 ⟨rfl,hb1⟩
 have iC:=hb0.trans (hb1.mono hb0.size)
 have hr1:=(hb1.block _ zk).trans HR0.out
 have HR1:=jI hr1
 obtain⟨z0,z1,z2,z3,z4⟩:=aV hr1
 obtain⟨G,hG⟩:=kE (kM l name)
 rw[←hG] at hG12 ⊢
 have HGE:=jI hG
 have HB1:=jI iC
 have hlt1:=jS hr1
 have hgs:=u16_and_nat G s (by omega) (by omega)
 have wW:G&&&s<65536:=fG Nat.and_le_left (by omega)
 obtain⟨GS,hGS⟩:=kE (G&&&s)
 rw[←hGS] at hgs wW
 have HGS:=jI hGS
 clear hG hr1 hGS hb1 iC hb0 H0 HR0 zk HG
 go_wp2
 go_loop [8,9,10] (fun a b i=>∃k:Nat,k≤12∧i=.int .i64 k∧a=.int .i64 (iy k G:Nat)∧b=.int .i64 (iy k GS:Nat)) (fun _ _ i=>12-(intOf i).toNat)
 case atStart=>exact⟨0,cu _,rfl,rfl,rfl⟩
 case round=>
  obtain⟨k,hk,rfl,rfl,rfl⟩:=hrel
  have hc1:=lF k G
  have hc2:=lF k GS
  by_cases hlt:k<12
  ·have hb1:=bitN G k (by omega)
   have hb2:=bitN GS k wW
   have e1:=eG k G
   have e2:=eG k GS
   have hn1:(if G.testBit k then 1 else 0:Nat)≤1:=by split<;>omega
   have hn2:(if GS.testBit k then 1 else 0:Nat)≤1:=by split<;>omega
   generalize (if G.testBit k then 1 else 0:Nat)=B1 at hb1 e1 hn1
   generalize (if GS.testBit k then 1 else 0:Nat)=B2 at hb2 e2 hn2
   generalize iy k G=C1 at hc1 e1 ⊢
   generalize iy k GS=C2 at hc2 e2 ⊢
   have E1:=jI e1
   have E2:=jI e2
   have hkI:(k:Int)<12:=by omega
   have hk0:(0:Int)≤(k:Int):=by omega
   clear e1 e2
   go_wp2
   go_round
   case rel=>exact⟨k+1,by omega,by go_num,by rw[E1.out];go_num,by rw[E2.out];go_num⟩
   case measure=>simp[intOf];omega
  ·obtain rfl:k=12:=by omega
   have hkI:¬((12:Nat):Int)<12:=by decide
   obtain⟨rfl,rfl,rfl,hf⟩:=HCAS.out
   rcases hf with hf|hf
   ·obtain⟨i,hi,hi12⟩:=HP.out.srv hf
    have hk2:aQ (tab l) name=2:=by rw[HP.out.sub name (by rw[hf];decide)];exact hf
    have HE:=jI (show rb=s.testBit i by rw[HRB.out];unfold gX;rw[if_pos rfl,hi];exact BR i s)
    have HKD1:=jI (HKD.out w1 HB1.out)
    rw[hk2] at HKD1
    have hsv:iA (ai l) [name]=2^i:=by
     have:=lX (ai l) [] name
     rw[List.nil_append,hi] at this
     rw[this]
     simp[iA]
    have HSV:=jI hsv
    have h2i:2^i<4096:=Nat.pow_lt_pow_right (n:=12) (by decide) hi12
    have hpa:=u16_and_nat (2^i) s (by omega) (by omega)
    have hpb:=pow_and i s
    obtain⟨P,hP⟩:=kE (2^i)
    rw[←hP] at hpa hpb HSV h2i
    obtain⟨PS,hPS⟩:=kE (P&&&s)
    rw[←hPS] at hpa hpb
    have hne:((PS:Int) != 0)=s.testBit i:=by rw[Bool.eq_iff_iff,←hpb];simp
    have hne2:((PS:Int)==0)=!s.testBit i:=by rw[←hne];cases h9:((PS:Int)==0)<;>simp[bne,h9]
    obtain⟨tb,htb⟩:=kE (s.testBit i)
    rw[←htb] at hne hne2 HE
    clear hf hi hk2 hsv hpb hP hPS htb
    go_wp2_with fail
    refine HKD1.out.mono ?_
    rintro e w2 ⟨rfl,hb2⟩
    have hbw2:=HB1.out.trans (hb2.mono HB1.out.size)
    have r2:=(hb2.block _ hlt1).trans HR1.out
    obtain⟨z0,z1,z2,z3,z4⟩:=aV r2
    have hbn:Below w2.heap.size w2 (w2.alloc (.cells #[.string name] 9)):=hbA _ _
    have HS3:=jI (HSET.out (w2.alloc (.cells #[.string name] 9)) (hbw2.trans (hbn.mono hbw2.size)) (some ⟨w2.heap.size,0,none⟩) (fun g=>g<w2.heap.size+1)
     ⟨by simp[aC],fun _=>⟨w2.heap.size,0,rfl,Nat.lt_succ_self _,fun j u hu=>by rw[j5 _ _ (0+j) _ _ _ (jR w2 _)];simpa [aC] using hu⟩⟩ (fun g hg=>by simpa using hg))
    rw[HSV.out] at HS3
    clear r2
    go_wp2_with fail
    refine HS3.out.mono ?_
    rintro e w3 ⟨rfl,hb3⟩
    go_wp2
    go_ret
    exact⟨by rw[HE.out];rfl,(hbw2.trans (hbn.mono hbw2.size)).trans (hb3.mono (hbw2.trans (hbn.mono hbw2.size)).size)⟩
   ·have hq:=HP.out.qu hf
    have hx:gX l env 1 name need [] (List.map (fun t=>(fK l env t).1) [])=env name:=by unfold gX;rw[if_pos rfl,hq]
    have he:=HHE.out
    rw[hx] at he
    have HE:=jI (show rb=bW (env name).1 s by rw[HRB.out,hx])
    have HRE:=jI (HEN.out name hf he)
    have hk4:aQ (tab l) name=4:=by rw[HP.out.sub name (by rw[hf];decide)];exact hf
    have HKD1:=jI (HKD.out w1 HB1.out)
    rw[hk4] at HKD1
    clear hf hq he hk4 hx
    go_wp2_with fail
    refine HKD1.out.mono ?_
    rintro e w2 ⟨rfl,hb2⟩
    have hbw2:=HB1.out.trans (hb2.mono HB1.out.size)
    have r2:=(hb2.block _ hlt1).trans HR1.out
    obtain⟨z0,z1,z2,z3,z4⟩:=aV r2
    have HFI2:=jI (HFI.out w2 hbw2)
    clear r2
    go_wp2_with fail
    refine HFI2.out.mono ?_
    rintro e w3 ⟨v3,rfl,hd3,hb3⟩
    have jC:=hbw2.trans (hb3.mono hbw2.size)
    obtain⟨-,vt,hvt,hfd⟩:=GK hd3
    have HC3:=jI (HRE.out vt w3 S s (HLS.out w3 jC).1 hvt (HLS.out w3 jC).2 hs0)
    clear hd3 hvt
    go_wp2_with fail
    refine HC3.out.mono ?_
    rintro e w4 ⟨rfl,hb4⟩
    go_wp2
    go_ret
    exact⟨by rw[HE.out];rfl,jC.trans (hb4.mono jC.size)⟩
theorem yQ{A:Option Addr}{c:Nat}{l pre:List Dc}{env:ByteArray→Ex × Nat}(hp:Plain l pre)(hL:RLim l)(hks:uF l)(op:Int)(name:ByteArray)(need:Int)(ws:List Int)(kids:List Tm)(ht:Typed pre (.mk op name need ws kids))
  (hkl:kids.length≤10000000) (hwl:ws.length≤10000000) (wU:∀x,aQ (tab pre) x=4→(env x).2=0→jf A c l (jd l x).term (env x).1) (AZ:∀x,aQ (tab pre) x=4→(env x).2=0→qA (env x).1)
  (ih:∀k∈kids,(fK l env k).2=0→jf A c l k (fK l env k).1) (he:(fK l env (.mk op name need ws kids)).2=0)
  (hop:op=2∨op=3∨op=4):jf A c l (.mk op name need ws kids) (fK l env (.mk op name need ws kids)).1:=by
 intro v w S s hls hv hS hs0
 have hbA:∀(W:World)(o:Obj),Below W.heap.size W (W.alloc o):=fun W o=>(jQ _ _).alloc (aP _) o
 cases hv with
 |mk _ _ _ _ _ wA kA wc kc vs hvw hwc hvk hkc hvl hvh=>
 have HKI:=jI (show aO (dX w S) w S 5 kA kids from ⟨vs,hvl,hvk,hvh⟩)
 have HVW:=jI hvw
 obtain⟨N,hN⟩:=kE ws.length
 rw[←hN]
 have HN:=jI hN
 obtain⟨-,h2,h3⟩:=kH he
 have hwk:∀x∈kids.map (fun t=>(fK l env t).1),qA x:=fun x hx=>by
  obtain⟨t,htm,rfl⟩:=List.mem_map.1 hx
  exact sW hp AZ _ t (aP _) (ht.parts.2.2.2 t htm) (h3 t htm)
 rw[h2] at he ⊢
 obtain⟨rb,hrb⟩:=kE (bW (gX l env op name need ws (kids.map fun t=>(fK l env t).1)).1 s)
 rw[←hrb]
 have HRB:=jI hrb
 clear hrb
 have HIH:=jI (fun k hk=>ih k hk (h3 k hk))
 have hLS:=fun(W:World)(hW:Below w.heap.size w W)=>(⟨hls.keep (P':=dS W S) (aj hW hS) (fun _ _ h=>h.keep (aj hW hS)),fun g hg=>by have:=hS g hg;have:=hW.size;omega⟩:aO (dS W S) W S 22 A l∧∀g,S g→g<W.heap.size)
 have HLS:=jI hLS
 have HG:=jI (fun(W:World)(hW:Below w.heap.size w W)=>oI A c W S (hLS W hW).1 (hLS W hW).2 hL.len hL.nd hL.sv name hL.names)
 have HKD:=jI (fun(W:World)(hW:Below w.heap.size w W)=>rD l A c name W S (hLS W hW).1 (hLS W hW).2 hL.tab hL.len)
 have HSET:=jI (fun(W:World)(hW:Below w.heap.size w W)(nA:Option Addr)(T:Nat→Prop)(hn:ak W T 1 nA 1 (aC [name]))(hT:∀g,T g→g<W.heap.size)=>qQ A c W S (hLS W hW).1 (hLS W hW).2 hL.len hL.nd hL.sv [name] nA 1 T hn hT (by simp))
 have HFI:=jI (fun(W:World)(hW:Below w.heap.size w W)=>nK A c W S (hLS W hW).1 (hLS W hW).2 (by have:=hL.len;omega) name)
 have hG12:=qW hL.sv name
 obtain⟨W0,hW0⟩:=kE (w.alloc (.cells #[.int .i64 op,.string name,.int .i64 need,.slice wA N wc,.slice kA kids.length kc] 26))
 have hb0:Below w.heap.size w W0:=by rw[hW0];exact hbA _ _
 have hr0:W0.heap[w.heap.size]?=some (.cells #[.int .i64 op,.string name,.int .i64 need,.slice wA N wc,.slice kA kids.length kc] 26 (0,0)):=by rw[hW0];exact jR _ _
 have HR0:=jI hr0
 have zk:=jS hr0
 have H0:=jI hW0
 have HP:=jI hp
 have HT:=jI ht
 have HHE:=jI he
 have HWK:=jI hwk
 have HEN:=jI wU
 have HLM:=jI hL
 have HKS:=jI hks
 clear hN hW0 hr0 hls hvw hvk hvl hvh ih he ht wU AZ hwk h2 h3 hLS hL hks hp
 go_enter func11,ntmps11
 go_wp2_with fail
 rw[←H0.out]
 refine (HG.out W0 hb0).mono ?_
 rintro e w1 ⟨rfl,hb1⟩
 have iC:=hb0.trans (hb1.mono hb0.size)
 have hr1:=(hb1.block _ zk).trans HR0.out
 have HR1:=jI hr1
 obtain⟨z0,z1,z2,z3,z4⟩:=aV hr1
 obtain⟨G,hG⟩:=kE (kM l name)
 rw[←hG] at hG12 ⊢
 have HGE:=jI hG
 have HB1:=jI iC
 have hlt1:=jS hr1
 have hgs:=u16_and_nat G s (by omega) (by omega)
 have wW:G&&&s<65536:=fG Nat.and_le_left (by omega)
 obtain⟨GS,hGS⟩:=kE (G&&&s)
 rw[←hGS] at hgs wW
 have HGS:=jI hGS
 clear hG hr1 hGS hb1 iC hb0 H0 HR0 zk HG
 go_wp2
 go_loop [8,9,10] (fun a b i=>∃k:Nat,k≤12∧i=.int .i64 k∧a=.int .i64 (iy k G:Nat)∧b=.int .i64 (iy k GS:Nat)) (fun _ _ i=>12-(intOf i).toNat)
 case atStart=>exact⟨0,cu _,rfl,rfl,rfl⟩
 case round=>
  obtain⟨k,hk,rfl,rfl,rfl⟩:=hrel
  have hc1:=lF k G
  have hc2:=lF k GS
  by_cases hlt:k<12
  ·have hb1:=bitN G k (by omega)
   have hb2:=bitN GS k wW
   have e1:=eG k G
   have e2:=eG k GS
   have hn1:(if G.testBit k then 1 else 0:Nat)≤1:=by split<;>omega
   have hn2:(if GS.testBit k then 1 else 0:Nat)≤1:=by split<;>omega
   generalize (if G.testBit k then 1 else 0:Nat)=B1 at hb1 e1 hn1
   generalize (if GS.testBit k then 1 else 0:Nat)=B2 at hb2 e2 hn2
   generalize iy k G=C1 at hc1 e1 ⊢
   generalize iy k GS=C2 at hc2 e2 ⊢
   have E1:=jI e1
   have E2:=jI e2
   have hkI:(k:Int)<12:=by omega
   have hk0:(0:Int)≤(k:Int):=by omega
   clear e1 e2
   go_wp2
   go_round
   case rel=>exact⟨k+1,by omega,by go_num,by rw[E1.out];go_num,by rw[E2.out];go_num⟩
   case measure=>simp[intOf];omega
  ·obtain rfl:k=12:=by omega
   have hkI:¬((12:Nat):Int)<12:=by decide
   obtain⟨hE,hw1,hw2⟩:=own_sum HT.out hop HHE.out (List.length_map _) HWK.out s
   rw[List.map_map] at hE
   rw[List.length_map] at hE hw1
   obtain⟨hs,hhs⟩:=kE (kids.map ((fun x=>bW x s)∘fun t=>(fK l env t).1))
   have hhl:hs.length=kids.length:=by rw[hhs,List.length_map]
   rw[←hhs] at hE
   have HHS:=jI (fun(j:Nat)(hj:j<kids.length)=>show hs.take (j+1)=hs.take j++[bW (fK l env kids[j]).1 s] by
    have hj2:j<hs.length:=by rw[hhl];exact hj
    rw[cO hj2]
    simp[hhs])
   have HHL:=jI hhl
   have HE:=jI (HRB.out.trans hE)
   have HW2:=jI hw2
   have hb1:(op==(1:Int))=false:=by rw[bP];omega
   have hb5:(op==(5:Int))=false:=by rw[bP];omega
   have hb6:(op==(6:Int))=false:=by rw[bP];omega
   have hb7:(op==(7:Int))=false:=by rw[bP];omega
   have hb8:(op==(8:Int))=false:=by rw[bP];omega
   clear hE hhs hhl hw2
   go_wp2
   go_loopw [11,12,13] (fun y x _ wr=>∃j:Nat,j≤kids.length∧x=.int .i64 j∧y=.int .i64 (BI ws (hs.take j))∧Below w1.heap.size w1 wr) (fun _ x _ _=>kids.length-(intOf x).toNat)
   case atStart=>exact⟨0,cu _,rfl,rfl,jQ _ _⟩
   case round=>
    obtain⟨j,hj,rfl,rfl,hbr⟩:=hrel
    have hbw:=HB1.out.trans (hbr.mono HB1.out.size)
    obtain⟨z0,z1,z2,z3,z4⟩:=aV ((hbr.block _ hlt1).trans HR1.out)
    have hwi:=wSum_in HW2.out (hs.take j)
    have htl:(hs.take j).length=j:=by rw[fH];have:=HHL.out;omega
    rw[htl] at hwi
    by_cases hjl:j<kids.length
    ·have hsn:=qF ws (hs.take j) (bW (fK l env kids[j]).1 s)
     rw[←HHS.out j hjl,htl] at hsn
     obtain⟨g,o,op2,nm2,nd2,wA2,wn2,wc2,kA2,kn2,kc2,rfl,hSg,htm,k0c,k1c,k2c,k3c,k4c⟩:=nO (fun t v h=>⟨_,h⟩) (HKI.out.keep (P':=dX wr S) (aj hbw hS) (fun _ _ h=>h.keep (aj hbw hS))) j hjl
     have HC0:=jI (HIH.out kids[j] (bQ hjl) _ wr S s (HLS.out wr hbw).1 htm (HLS.out wr hbw).2 hs0)
     obtain⟨bb,hbb⟩:=kE (bW (fK l env kids[j]).1 s)
     rw[←hbb] at hsn HC0
     obtain⟨sm,hsm⟩:=kE (BI ws (hs.take j))
     rw[←hsm] at hsn hwi ⊢
     have hgs2:g<wr.heap.size:=by have:=hS g hSg;have:=hbw.size;omega
     have hjI:(j:Int)<(kids.length:Int):=by omega
     have hj0:(0:Int)≤(j:Int):=by omega
     clear htm hbb hsm htl
     cases bb
     ·have HS9:=jI hsn
      clear hsn
      go_wp2_with fail
      refine HC0.out.mono ?_
      rintro e w5 ⟨rfl,hb5⟩
      go_wp2
      go_roundw
      case rel=>exact⟨j+1,by omega,by go_num,by rw[HS9.out];simp,hbr.trans (hb5.mono hbr.size)⟩
      case measure=>simp[intOf];omega
     ·by_cases hw0:N=0
      ·have HS9:=jI (show BI ws (hs.take (j+1))=sm+1 by rw[hsn,if_pos rfl,if_pos (HN.out.symm.trans hw0)])
       subst hw0
       clear hsn
       go_wp2_with fail
       refine HC0.out.mono ?_
       rintro e w5 ⟨rfl,hb5⟩
       obtain⟨y0,y1,y2,y3,y4⟩:=aV ((hb5.block _ (bZ hlt1 hbr.size)).trans ((hbr.block _ hlt1).trans HR1.out))
       go_wp2
       go_roundw
       case rel=>exact⟨j+1,by omega,by go_num,by rw[HS9.out],hbr.trans (hb5.mono hbr.size)⟩
       case measure=>simp[intOf];omega
      ·have hw0b:¬ws.length=0:=fun e=>hw0 (HN.out.trans e)
       have hjw:j<ws.length:=by omega
       have hwv:=HW2.out (ws[j]) (bQ hjw)
       have HS9:=jI (show BI ws (hs.take (j+1))=sm+ws[j] by rw[hsn,if_pos rfl,if_neg hw0b,List.getD_eq_getElem?_getD,dD hjw];rfl)
       have hNe:=HN.out
       have hwI:(0:Int)<(N:Int):=by omega
       have hjwI:(j:Int)<(N:Int):=by omega
       clear hw0b hNe
       obtain⟨wg,hwg⟩:=kE (ws[j])
       rw[←hwg] at HS9 hwv
       have HWG:=jI (show (bY ws)[j]?=some (.int .i64 wg) by rw[mV _ j hjw,List.getD_eq_getElem?_getD,dD hjw,hwg];rfl)
       clear hsn hwg
       go_wp2_with fail
       refine HC0.out.mono ?_
       rintro e w5 ⟨rfl,hb5⟩
       have tV:=hbw.trans (hb5.mono hbw.size)
       obtain⟨gw,ow,rfl,hSw,hcw⟩:=(HVW.out.keep (aj tV hS)).cells (by omega)
       have x0:=hcw j _ HWG.out
       have hgsw:gw<w5.heap.size:=by have:=hS gw hSw;have:=tV.size;omega
       obtain⟨y0,y1,y2,y3,y4⟩:=aV ((hb5.block _ (bZ hlt1 hbr.size)).trans ((hbr.block _ hlt1).trans HR1.out))
       clear hcw
       go_wp2
       go_roundw
       case rel=>exact⟨j+1,by omega,by go_num,by rw[HS9.out],hbr.trans (hb5.mono hbr.size)⟩
       case measure=>simp[intOf];omega
    ·obtain rfl:j=kids.length:=by omega
     have hjI:¬(kids.length:Int)<(kids.length:Int):=by omega
     have htk:hs.take kids.length=hs:=by rw[←HHL.out,List.take_length]
     rw[htk] at hwi ⊢
     obtain⟨sm,hsm⟩:=kE (BI ws hs)
     rw[←hsm] at hwi HE ⊢
     clear hsm htl htk
     rcases hop with rfl|rfl|rfl
     ·have HE2:=jI (show rb=decide (need≤sm) by rw[HE.out];rfl)
      go_wp2
      go_ret
      exact⟨by rw[HE2.out];rfl,hbw⟩
     ·have HE2:=jI (show rb=(sm==(kids.length:Int)) by rw[HE.out];rfl)
      go_wp2
      go_ret
      exact⟨by rw[HE2.out];rfl,hbw⟩
     ·have HE2:=jI (show rb=decide (0<sm) by rw[HE.out];rfl)
      go_wp2
      go_ret
      exact⟨by rw[HE2.out];rfl,hbw⟩
theorem EH{A:Option Addr}{c:Nat}{l pre:List Dc}{env:ByteArray→Ex × Nat}(hp:Plain l pre)(hL:RLim l)(hks:uF l)(op:Int)(name:ByteArray)(need:Int)(ws:List Int)(kids:List Tm)(ht:Typed pre (.mk op name need ws kids))
  (hkl:kids.length≤10000000) (hwl:ws.length≤10000000) (wU:∀x,aQ (tab pre) x=4→(env x).2=0→jf A c l (jd l x).term (env x).1) (AZ:∀x,aQ (tab pre) x=4→(env x).2=0→qA (env x).1)
  (ih:∀k∈kids,(fK l env k).2=0→jf A c l k (fK l env k).1) (he:(fK l env (.mk op name need ws kids)).2=0)
  (hca:op=5∧ws=[]∧kids.length=1):jf A c l (.mk op name need ws kids) (fK l env (.mk op name need ws kids)).1:=by
 intro v w S s hls hv hS hs0
 have HCAS:=jI hca
 clear hca
 have hbA:∀(W:World)(o:Obj),Below W.heap.size W (W.alloc o):=fun W o=>(jQ _ _).alloc (aP _) o
 cases hv with
 |mk _ _ _ _ _ wA kA wc kc vs hvw hwc hvk hkc hvl hvh=>
 have HKI:=jI (show aO (dX w S) w S 5 kA kids from ⟨vs,hvl,hvk,hvh⟩)
 have HVW:=jI hvw
 obtain⟨-,h2,h3⟩:=kH he
 have hwk:∀x∈kids.map (fun t=>(fK l env t).1),qA x:=fun x hx=>by
  obtain⟨t,htm,rfl⟩:=List.mem_map.1 hx
  exact sW hp AZ _ t (aP _) (ht.parts.2.2.2 t htm) (h3 t htm)
 rw[h2] at he ⊢
 obtain⟨rb,hrb⟩:=kE (bW (gX l env op name need ws (kids.map fun t=>(fK l env t).1)).1 s)
 rw[←hrb]
 have HRB:=jI hrb
 clear hrb
 have HIH:=jI (fun k hk=>ih k hk (h3 k hk))
 have hLS:=fun(W:World)(hW:Below w.heap.size w W)=>(⟨hls.keep (P':=dS W S) (aj hW hS) (fun _ _ h=>h.keep (aj hW hS)),fun g hg=>by have:=hS g hg;have:=hW.size;omega⟩:aO (dS W S) W S 22 A l∧∀g,S g→g<W.heap.size)
 have HLS:=jI hLS
 have HG:=jI (fun(W:World)(hW:Below w.heap.size w W)=>oI A c W S (hLS W hW).1 (hLS W hW).2 hL.len hL.nd hL.sv name hL.names)
 have HKD:=jI (fun(W:World)(hW:Below w.heap.size w W)=>rD l A c name W S (hLS W hW).1 (hLS W hW).2 hL.tab hL.len)
 have HSET:=jI (fun(W:World)(hW:Below w.heap.size w W)(nA:Option Addr)(T:Nat→Prop)(hn:ak W T 1 nA 1 (aC [name]))(hT:∀g,T g→g<W.heap.size)=>qQ A c W S (hLS W hW).1 (hLS W hW).2 hL.len hL.nd hL.sv [name] nA 1 T hn hT (by simp))
 have HFI:=jI (fun(W:World)(hW:Below w.heap.size w W)=>nK A c W S (hLS W hW).1 (hLS W hW).2 (by have:=hL.len;omega) name)
 have hG12:=qW hL.sv name
 obtain⟨W0,hW0⟩:=kE (w.alloc (.cells #[.int .i64 op,.string name,.int .i64 need,.slice wA ws.length wc,.slice kA kids.length kc] 26))
 have hb0:Below w.heap.size w W0:=by rw[hW0];exact hbA _ _
 have hr0:W0.heap[w.heap.size]?=some (.cells #[.int .i64 op,.string name,.int .i64 need,.slice wA ws.length wc,.slice kA kids.length kc] 26 (0,0)):=by rw[hW0];exact jR _ _
 have HR0:=jI hr0
 have zk:=jS hr0
 have H0:=jI hW0
 have HP:=jI hp
 have HT:=jI ht
 have HHE:=jI he
 have HWK:=jI hwk
 have HEN:=jI wU
 have HLM:=jI hL
 have HKS:=jI hks
 clear hW0 hr0 hls hvw hvk hvl hvh ih he ht wU AZ hwk h2 h3 hLS hL hks hp
 go_enter func11,ntmps11
 go_wp2_with fail
 rw[←H0.out]
 refine (HG.out W0 hb0).mono ?_
 rintro e w1 ⟨rfl,hb1⟩
 have iC:=hb0.trans (hb1.mono hb0.size)
 have hr1:=(hb1.block _ zk).trans HR0.out
 have HR1:=jI hr1
 obtain⟨z0,z1,z2,z3,z4⟩:=aV hr1
 obtain⟨G,hG⟩:=kE (kM l name)
 rw[←hG] at hG12 ⊢
 have HGE:=jI hG
 have HB1:=jI iC
 have hlt1:=jS hr1
 have hgs:=u16_and_nat G s (by omega) (by omega)
 have wW:G&&&s<65536:=fG Nat.and_le_left (by omega)
 obtain⟨GS,hGS⟩:=kE (G&&&s)
 rw[←hGS] at hgs wW
 have HGS:=jI hGS
 clear hG hr1 hGS hb1 iC hb0 H0 HR0 zk HG
 go_wp2
 go_loop [8,9,10] (fun a b i=>∃k:Nat,k≤12∧i=.int .i64 k∧a=.int .i64 (iy k G:Nat)∧b=.int .i64 (iy k GS:Nat)) (fun _ _ i=>12-(intOf i).toNat)
 case atStart=>exact⟨0,cu _,rfl,rfl,rfl⟩
 case round=>
  obtain⟨k,hk,rfl,rfl,rfl⟩:=hrel
  have hc1:=lF k G
  have hc2:=lF k GS
  by_cases hlt:k<12
  ·have hb1:=bitN G k (by omega)
   have hb2:=bitN GS k wW
   have e1:=eG k G
   have e2:=eG k GS
   have hn1:(if G.testBit k then 1 else 0:Nat)≤1:=by split<;>omega
   have hn2:(if GS.testBit k then 1 else 0:Nat)≤1:=by split<;>omega
   generalize (if G.testBit k then 1 else 0:Nat)=B1 at hb1 e1 hn1
   generalize (if GS.testBit k then 1 else 0:Nat)=B2 at hb2 e2 hn2
   generalize iy k G=C1 at hc1 e1 ⊢
   generalize iy k GS=C2 at hc2 e2 ⊢
   have E1:=jI e1
   have E2:=jI e2
   have hkI:(k:Int)<12:=by omega
   have hk0:(0:Int)≤(k:Int):=by omega
   clear e1 e2
   go_wp2
   go_round
   case rel=>exact⟨k+1,by omega,by go_num,by rw[E1.out];go_num,by rw[E2.out];go_num⟩
   case measure=>simp[intOf];omega
  ·obtain rfl:k=12:=by omega
   have hkI:¬((12:Nat):Int)<12:=by decide
   obtain⟨rfl,rfl,hl1⟩:=HCAS.out
   have he:=HHE.out
   unfold gX at he
   rw[if_neg (by decide),if_pos rfl] at he
   have hk0:0<kids.length:=by omega
   have hhd:(List.map (fun t=>(fK l env t).1) kids).headD ex0=(fK l env kids[0]).1:=by
    cases kids with
    |nil=>simp at hk0
    |cons a r=>rfl
   rw[hhd] at he
   have hE:=Jm he hs0
   have HE:=jI (show rb=!bW (fK l env kids[0]).1 (4095-s) by rw[HRB.out];unfold gX;rw[if_neg (by decide),if_pos rfl,hhd];exact hE)
   obtain⟨g,o,op2,nm2,nd2,wA2,wn2,wc2,kA2,kn2,kc2,rfl,hSg,htm,k0c,k1c,k2c,k3c,k4c⟩:=nO (fun t v h=>⟨_,h⟩) (HKI.out.keep (P':=dX w1 S) (aj HB1.out hS) (fun _ _ h=>h.keep (aj HB1.out hS))) 0 hk0
   have HC0:=jI (HIH.out kids[0] (bQ hk0) _ w1 S (4095-s) (HLS.out w1 HB1.out).1 htm (HLS.out w1 HB1.out).2 (by omega))
   have hxo:bits .xor .u16 IntKind.u16.max (s:Int)=((65535-s:Nat):Int):=xor16 s (by omega)
   have hno:=and12 s hs0
   have hgs:=hS g hSg
   have hgs1:g<w1.heap.size:=by have:=HB1.out.size;omega
   simp only[Nat.zero_mul,Nat.add_zero] at k0c k1c k2c k3c k4c
   obtain⟨cs,hcs⟩:=kE (4095-s)
   have hxs:65535-s<65536:=by omega
   obtain⟨xs,hxs2⟩:=kE (65535-s)
   rw[←hxs2] at hxo hno hxs
   rw[←hcs] at HC0 hno HE
   obtain⟨b0,hb0⟩:=kE (bW (fK l env kids[0]).1 cs)
   rw[←hb0] at HC0 HE
   have hkI:(0:Int)<(kids.length:Int):=by omega
   have HL1:=jI hl1
   clear he hE htm hcs hl1 hxs2 hhd hb0 hk0
   go_wp2_with fail
   refine HC0.out.mono ?_
   rintro e w2 ⟨rfl,hb2⟩
   go_wp2
   go_ret
   exact⟨by rw[HE.out];rfl,HB1.out.trans (hb2.mono HB1.out.size)⟩
end Go.Proofs.YtmohibkomlhlaaaGreatDoor
