/- The length of a declaration's text by its size. No condition. The contract of the bg Few. BA by gen_tform.py. The contract of Check: the line and the error of declarations. Declarations of a size up to a bound. -/
import Derived.Test.YtmohibkomlhlaaaGreatDoorPkFmtb
import Derived.Test.YtmohibkomlhlaaaGreatDoorPkOpen
import Derived.Test.YtmohibkomlhlaaaGreatDoorPkEq
import Derived.Test.YtmohibkomlhlaaaGreatDoorPkTyb
set_option maxRecDepth 100000
set_option maxHeartbeats 4000000
namespace Go.Proofs.YtmohibkomlhlaaaGreatDoor
section
theorem dh(l:List ByteArray):l.length≤aZ l:=by
 unfold aZ
 induction l with
 |nil=>simp
 |cons x r ih=>simp only[List.map_cons,List.sum_cons,fM];omega
theorem rM(f:Ft):f.aI.length+f.aB.length+1≤dJ f:=by
 have a:=dh f.aI
 have b:=dh f.aB
 unfold dJ;omega
theorem Df{f:Ft}(h:pG f=true):(gW f).length≤126 * dJ f:=by
 have a:=rJ h
 have b:=rM f
 omega
theorem fts_sum(l:List Ft)(h:∀f∈l,pG f=true):Lib.lens (l.map gW)≤126 * (l.map dJ).sum∧l.length≤(l.map dJ).sum:=by
 induction l with
 |nil=>simp[Lib.lens]
 |cons f r ih=>
  have a:=Df (h f (by simp))
  have b:=ih (fun q hq=>h q (by simp[hq]))
  have c:=rM f
  rw[List.map_cons,lens_cons,List.map_cons,List.sum_cons,fM]
  omega
theorem ft_in_sum{l:List Ft}{f:Ft}(h:f∈l):dJ f≤(l.map dJ).sum:=by
 induction l with
 |nil=>simp at h
 |cons a r ih=>
  rw[List.map_cons,List.sum_cons]
  rcases List.mem_cons.1 h with rfl|h
  ·omega
  ·have:=ih h;omega
theorem gZ{l:List Dc}{d:Dc}(h:d∈l):aW d≤(l.map aW).sum:=by
 induction l with
 |nil=>simp at h
 |cons a r ih=>
  rw[List.map_cons,List.sum_cons]
  rcases List.mem_cons.1 h with rfl|h
  ·omega
  ·have:=ih h;omega
theorem gY(l:List Dc):l.length≤(l.map aW).sum:=by
 induction l with
 |nil=>simp
 |cons a r ih=>
  rw[List.map_cons,List.sum_cons,fM]
  have:1≤aW a:=by unfold aW;omega
  omega
theorem DJ{d:Dc}(hok:vZ d=true):(gB d).length+1≤200 * aW d:=by
 have h:=JA hok
 have hs:aW d=d.name.size+aZ d.names+(d.faults.map dJ).sum+ax d.term+d.proto.size+ax d.read+ax d.write+d.use.size+1:=rfl
 have n1:=dh d.names
 have n2:=gV h.names
 have en:d.name.data.toList.length=d.name.size:=by simp
 have eu:d.use.data.toList.length=d.use.size:=by simp
 have ep:d.proto.data.toList.length=d.proto.size:=by simp
 unfold gB
 rcases xA h with hk|hk|hk|hk|hk|hk|hk
 ·rw[if_pos hk];simp only[bD,fM,List.length_nil];omega
 ·rw[if_neg (by omega),if_pos hk]
  obtain⟨f1,f2⟩:=fts_sum d.faults (List.all_eq_true.1 h.faults)
  have f3:=join_length_le (d.faults.map gW) [32,124,32]
  simp only[bD,fM,List.length_nil,List.length_map] at f3 ⊢;omega
 ·rw[if_neg (by omega),if_neg (by omega),if_pos hk]
  have ht:lT d.term=true:=by have:=h.term;rw[hk] at this;exact this
  have t1:=gT ht
  simp only[bD,fM,List.length_nil];omega
 ·rw[if_neg (by omega),if_neg (by omega),if_neg (by omega),if_pos hk]
  obtain⟨hp,hr,hw,hu⟩:=FK h (by rw[hk];rfl)
  have t1:=gT hr
  have t2:=gT hw
  simp only[bD,fM,List.length_nil];omega
 ·rw[if_neg (by omega),if_neg (by omega),if_neg (by omega),if_neg (by omega),if_pos hk]
  simp only[bD,fM,List.length_nil];omega
 ·rw[if_neg (by omega),if_neg (by omega),if_neg (by omega),if_neg (by omega),if_neg (by omega),if_neg (by omega)]
  split
  ·simp only[bD,fM,List.length_nil];omega
  ·simp only[bD,fM,List.length_nil];omega
 ·rw[if_neg (by omega),if_neg (by omega),if_neg (by omega),if_neg (by omega),if_neg (by omega),if_pos hk]
  simp only[bD,fM,List.length_nil];omega
theorem Bq(l:List Dc)(h:l.all vZ=true):(dM l).length≤200 * (l.map aW).sum:=by
 induction l with
 |nil=>simp[dM]
 |cons d r ih=>
  rw[List.all_cons,Bool.and_eq_true] at h
  have a:=DJ h.1
  have b:=ih h.2
  have e:dM (d::r)=(gB d++[10])++dM r:=rfl
  rw[e,List.map_cons,List.sum_cons]
  simp only[bD,fM,List.length_nil];omega
def jD(d:Dc):Nat:=ax d.term+ax d.read+ax d.write+d.name.size+d.names.length+10 * d.faults.length+d.proto.size+d.use.size
theorem Bd(l:List Ft):l.length≤(l.map dJ).sum:=by
 induction l with
 |nil=>simp
 |cons f r ih=>
  have c:=rM f
  rw[List.map_cons,List.sum_cons,fM];omega
theorem few_dc(l:List Dc):(l.map jD).sum≤10 * (l.map aW).sum:=by
 induction l with
 |nil=>simp
 |cons d r ih=>
  have n1:=dh d.names
  have n2:=Bd d.faults
  have e:jD d≤10 * aW d:=by unfold jD aW;omega
  rw[List.map_cons,List.map_cons,List.sum_cons,List.sum_cons];omega
end
section
open Go.RowKit
open _root_.Go.Proofs.Tryz
theorem jB{l:List ByteArray}{x:ByteArray}(h:x∈l):x.size+1≤aZ l:=by
 unfold aZ
 induction l with
 |nil=>cases h
 |cons a r ih=>
  rw[List.map_cons,List.sum_cons]
  rcases List.mem_cons.1 h with rfl|h
  ·omega
  ·have:=ih h;omega
theorem in_sum{α:Type}(f:α→Nat){l:List α}{x:α}(h:x∈l):f x≤(l.map f).sum:=by
 induction l with
 |nil=>cases h
 |cons a r ih=>
  rw[List.map_cons,List.sum_cons]
  rcases List.mem_cons.1 h with rfl|h
  ·omega
  ·have:=ih h;omega
theorem kQ(l:List ByteArray):l.length≤aZ l:=by
 unfold aZ
 induction l with
 |nil=>simp
 |cons a r ih=>rw[List.map_cons,List.sum_cons,fM];omega
theorem dc_slim{d:Dc}(hok:vZ d=true)(hs:aW d≤2000000)(hf:jD d≤20000000):SLim d:=by
 have e1:aW d=d.name.size+aZ d.names+(d.faults.map dJ).sum+ax d.term+d.proto.size+ax d.read+ax d.write+d.use.size+1:=rfl
 have e2:jD d=ax d.term+ax d.read+ax d.write+d.name.size+d.names.length+10 * d.faults.length+d.proto.size+d.use.size:=rfl
 have ho:=JA hok
 have n3:=kQ d.names
 have n4:=Bd d.faults
 refine⟨⟨ho.lo,ho.hi⟩,by unfold maxLen;omega,by unfold maxLen;omega,fun x hx=>by have:=jB hx;unfold maxLen;omega,by omega,by omega,fun f hfm=>?_,by omega,by omega,by omega⟩
 have h1:=in_sum dJ hfm
 have e3:dJ f=f.name.size+aZ f.aI+aZ f.aB+1:=rfl
 have n1:=kQ f.aI
 have n2:=kQ f.aB
 refine⟨by omega,by omega,fun x hx=>?_,by unfold maxLen;omega,fun h2=>?_⟩
 ·rcases List.mem_append.1 hx with hx|hx<;>(have:=jB hx;unfold maxLen;omega)
 ·have hof:=List.all_eq_true.1 ho.faults f hfm
  unfold pG at hof
  rw[if_neg (by omega),if_pos h2] at hof
  simp only[Bool.and_eq_true] at hof
  have b1:=hof.1.1.2
  have b2:=hof.1.2
  unfold small at b1 b2
  simp only[Bool.and_eq_true,decide_eq_true_eq] at b1 b2
  omega
def nb(l:List Dc):Nat:=(l.map fun d=>2 * d.names.length+1).sum
theorem nb_snoc(l:List Dc)(d:Dc):nb (l++[d])=nb l+d.names.length+1+d.names.length:=by simp[nb];omega
theorem nb_le(l:List Dc):nb l≤2 * (l.map jD).sum+l.length:=by
 unfold nb
 induction l with
 |nil=>simp
 |cons d r ih=>
  have e2:jD d=ax d.term+ax d.read+ax d.write+d.name.size+d.names.length+10 * d.faults.length+d.proto.size+d.use.size:=rfl
  rw[List.map_cons,List.sum_cons,List.map_cons,List.sum_cons,fM];omega
theorem wF(l:List Dc):aH l≤(l.map jD).sum:=by
 unfold aH
 induction l with
 |nil=>simp
 |cons d r ih=>
  have e2:jD d=ax d.term+ax d.read+ax d.write+d.name.size+d.names.length+10 * d.faults.length+d.proto.size+d.use.size:=rfl
  rw[List.map_cons,List.sum_cons,List.map_cons,List.sum_cons];split<;>omega
theorem Bh(l:List Dc):(aU l).length≤l.length:=by
 unfold aU
 induction l with
 |nil=>simp
 |cons d r ih=>
  have h1:(if d.kind=2 then [d.name] else []).length≤1:=by split<;>simp
  rw[List.flatMap_cons,bD,fM]
  omega
theorem DU(pre r:List Dc)(d:Dc):jG pre (d::r)=if iK pre d≠0 then (d.line,iK pre d) else jG (pre++[d]) r:=rfl
theorem sum_takeF{α:Type}(f:α→Nat)(l:List α)(k:Nat):((l.take k).map f).sum≤(l.map f).sum:=by
 conv=>rhs;rw[←List.take_append_drop k l,List.map_append,List.sum_append]
 omega
theorem join_ge(l:List (List UInt8))(sep:List UInt8)(hs:0<sep.length):l.length≤(Lib.join l sep).length+1:=by
 cases l with
 |nil=>simp
 |cons x r=>
  rw[Lib.join_cons,bD,fM]
  have key:∀r:List (List UInt8),r.length≤(Lib.joinTail sep r).length:=by
   intro r
   induction r with
   |nil=>simp
   |cons y q ih=>
    have:Lib.joinTail sep (y::q)=sep++y++Lib.joinTail sep q:=by simp[Lib.joinTail]
    rw[this,bD,bD,fM]
    omega
  have:=key r
  omega
theorem Hg{l:List Dc}(h:(eP l).2=0):l.length≤65536∧∀d∈l,d.faults.length≤65537:=by
 unfold eP at h
 by_cases ho:l.all vZ=true
 ·rw[if_pos ho] at h
  unfold kL at h
  by_cases hz:vK (dM l)=true
  ·unfold vK at hz
   simp only[Bool.and_eq_true,decide_eq_true_eq] at hz
   have hl:=hz.1.1
   have key:∀m:List Dc,m.length≤(dM m).length∧∀d∈m,(gB d).length≤(dM m).length:=by
    intro m
    induction m with
    |nil=>exact⟨cu _,fun d hd=>by simp at hd⟩
    |cons a r ih=>
     have e:dM (a::r)=gB a++[10]++dM r:=by unfold dM;rw[List.flatMap_cons]
     rw[e,bD,bD,fM,List.length_singleton]
     refine⟨by omega,fun d hd=>?_⟩
     rcases List.mem_cons.1 hd with rfl|hd
     ·omega
     ·have:=ih.2 d hd;omega
   obtain⟨k1,k2⟩:=key l
   refine⟨by omega,fun d hd=>?_⟩
   have hd2:=k2 d hd
   have hok:=JA (List.all_eq_true.1 ho d hd)
   by_cases hk:d.kind=2
   ·have hj:=join_ge (d.faults.map gW) [32,124,32] (by decide)
    have e:gB d=[102,97,117,108,116,115,32]++d.name.data.toList++[32,61,32]++Lib.join (d.faults.map gW) [32,124,32]++[59]:=by unfold gB;rw[if_neg (by rw[hk];decide),if_pos hk]
    rw[e] at hd2
    simp only[bD,List.length_map] at hd2 hj
    omega
   ·have:=hok.hfaults
    have h0:mr d.kind=false:=by
     have hc:d.kind=1∨d.kind=3∨d.kind=4∨d.kind=5∨d.kind=6∨d.kind=7:=by have:=hok.lo;have:=hok.hi;omega
     rcases hc with e|e|e|e|e|e<;>rw[e]<;>rfl
    rw[h0] at this
    have:=of_decide_eq_false this.symm
    omega
  ·rw[if_neg hz] at h;cases h
 ·rw[if_neg ho] at h;cases h
theorem check_any(l:List Dc)(A:Option Addr)(c:Nat)(w:World)(S:Nat→Prop)(hl:aO (dS w S) w S 22 A l)(hS:∀g,S g→g<w.heap.size)(hsz:(l.map aW).sum≤2000000)(hfew:(l.map jD).sum≤20000000)(hll:l.length≤2000000)
  (hv:Calls prog 59 #[.slice A l.length c] w fun e w'=>e=.returned (.int .i64 (eP l).2)∧Below w.heap.size w w'):
  Calls prog 27 #[.slice A l.length c] w fun e w'=>e=.returned (.tuple #[.int .i64 (bf l).1,.int .i64 (bf l).2])∧Below w.heap.size w w':=by
 have HV:=jI hv
 have HLS:=jI hl
 obtain⟨r,hr⟩:=kE (bf l)
 rw[←hr]
 obtain⟨r1,r2⟩:=r
 obtain⟨fe,hfe⟩:=kE ((eP l).2)
 rw[←hfe] at HV
 unfold bf at hr
 rw[←hfe] at hr
 have HR:=jI hr
 have HFE:=jI hfe
 clear hl hv hr hfe
 go_enter func27,ntmps27
 go_wp2_with fail
 refine HV.out.mono ?_
 rintro e w1 ⟨rfl,hb1⟩
 have hs1:=hb1.size
 by_cases hf0:fe=0
 ·have hok:l.all vZ=true:=by
   have h0:=HFE.out.symm.trans hf0
   unfold eP at h0
   by_cases ho:l.all vZ=true
   ·exact ho
   ·rw[if_neg ho] at h0;simp at h0
  have HOKS:=jI (List.all_eq_true.1 hok)
  have hsmall:=Hg (HFE.out.symm.trans hf0)
  have hll5:=hsmall.1
  have HSM:=jI hsmall.2
  subst hf0
  have hr2:=HR.out
  rw[if_neg (by decide)] at hr2
  have HGO:=jI hr2
  have HEM:=jI (Dv w1 S (fun g hg=>by have:=hS g hg;omega))
  clear HFE hok hr2 HR HV hsmall
  go_wp2_with fail
  refine HEM.out.mono ?_
  rintro e w2 ⟨b,kb,db,wb,cb,zb,rfl,hsc,hb2,hlo⟩
  have HSC:=jI hsc
  have hw2:Below w.heap.size w w2:=hb1.trans (hb2.mono hs1)
  clear hsc
  go_wp2_with fail
  go_loopw [17] (fun x wr=>∃k:Nat,k≤l.length∧x=.int .i64 k∧Below w.heap.size w wr∧Hid (∃zn Z,Sc prog 121 wr S b kb db wb cb zb (nb (l.take k)) zn (kZ (l.take k)) (aH (l.take k)) (dR 4 (l.take k)) (dR 6 (l.take k)) (dw (l.take k)) (fP (l.take k)) (bV 5 (l.take k)) (bV 7 (l.take k)) Z∧mH (jr (l.take k)) (aU (l.take k)) Z zn)∧
   Hid (FX (kZ (l.take k)) (jr (l.take k)) (qV (aU (l.take k))) (aU (l.take k)))∧Hid ((r1,r2)=jG (l.take k) (l.drop k))) (fun x _=>l.length-(intOf x).toNat)
  case atStart=>exact⟨0,cu _,rfl,hw2,jI ⟨0,fun _=>none,HSC.out,JM⟩,jI byzOk_nil,jI (by simpa using HGO.out)⟩
  case round=>
   obtain⟨k,hk,rfl,hbw,hst,hbo,hgo⟩:=hrel
   have hsr:=hbw.size
   obtain⟨zn,Z,hsc,hinv⟩:=hst.out
   by_cases hlt:k<l.length
   ·have hlr:=HLS.out.keep (P':=dS wr S) (aj hbw hS) (fun _ _ h=>h.keep (aj hbw hS))
    obtain⟨g,o,v,rfl,hSg,htm,hcs⟩:=dB (fun _ _ h=>lD h) hlr hlt
    have hgs:g<wr.heap.size:=by have:=hS g hSg;omega
    obtain⟨d,hd⟩:=kE (l[k])
    have hmem:d∈l:=by rw[hd];exact bQ hlt
    rw[←hd] at htm
    have htk:l.take (k+1)=l.take k++[d]:=by rw[hd];exact cO hlt
    have hdr:l.drop k=d::l.drop (k+1):=by rw[hd];exact fE hlt
    have hslim:=dc_slim (HOKS.out d hmem) (by have:=in_sum aW hmem;omega) (by have:=in_sum jD hmem;omega)
    obtain⟨lk,hlk⟩:=kE (l.take k)
    have hlkf:(lk.map jD).sum≤20000000:=by rw[hlk];have:=sum_takeF jD l k;omega
    have hlkl:lk.length≤k:=by rw[hlk,fH];omega
    rw[←hlk] at hsc hinv hbo hgo htk
    obtain⟨cs,hcl,hone,rfl,hc1⟩:∃cs:List Value,cs.length=22∧(∀u∈cs,u.oneCell'=true)∧v=.agg cs.toArray∧cs[1]?=some (.int .i64 d.line):=by
     obtain⟨nA,nc,fA,fc,o1,m1,d1,wA1,wn1,wc1,kA1,kn1,kc1,o2,m2,d2,wA2,wn2,wc2,kA2,kn2,kc2,o3,m3,d3,wA3,wn3,wc3,kA3,kn3,kc3,hv⟩:=qo htm
     refine⟨_,rfl,?_,hv,rfl⟩
     intro u hu
     simp only[List.mem_cons,List.not_mem_nil,or_false] at hu
     rcases hu with rfl|rfl|rfl|rfl|rfl|rfl|rfl|rfl|rfl|rfl|rfl|rfl|rfl|rfl|rfl|rfl|rfl|rfl|rfl|rfl|rfl|rfl<;>rfl
    have hrange:wr.rangeAt g (o+k * 22) cs:=fun j u hu=>hcs j u (by simpa [cellsOf,Value.cells] using hu)
    have mW:(prog.info? 35).map (·.size)=some cs.length:=by rw[hcl];exact cZ
    have hone2:cs.toArray.all (·.oneCell')=true:=all_oneCell_toArray hone
    have hcs2:cs.toArray.size=22:=by simpa using hcl
    clear hcs
    have HTM:=jI htm
    have nD:=jI hone2
    have HCS:=jI hcs2
    have HC1:=jI hc1
    have HSL:=jI hslim
    have HFL:=jI (HSM.out d hmem)
    have HSC1:=jI hsc
    have HINV:=jI hinv
    have HTK:=jI htk
    have HLK:=jI hlk
    have HGG:=jI (show (r1,r2)=if iK lk d≠0 then (d.line,iK lk d) else jG (lk++[d]) (l.drop (k+1)) by rw[hgo.out,hdr,DU])
    have hkI:(k:Int)<(l.length:Int):=by omega
    have hk0:(0:Int)≤(k:Int):=by omega
    have hbA:∀o,Below wr.heap.size wr (wr.alloc o):=fun o=>(jQ _ _).alloc (aP _) o
    have hln:=hsc.lt.1
    have hwl:=hsc.wit.lt
    have hcl2:=hsc.con.lt
    have hzl:=hsc.byz.lt
    have hkl:=hsc.kinds.lt
    have hdl:db<wr.heap.size:=by obtain⟨g,hg,-⟩:=hsc.decls;exact hg.lt
    clear htm hd hlr hone hone2 hcs2 hc1 hslim hsc hinv hst hgo htk hlk hdr
    go_wp2_with (first|(with_reducible refine wpList_load_mid rfl 35 (.tmp 19) rfl g (o+k * 22) rfl cs _ hrange underlying35 rfl mW ?_)|(with_reducible refine bO _ rfl rfl (.tmp 7) (.tmp 20) rfl wr.heap.size cs.toArray rfl rfl _ (jR wr _) rfl HCS.out nD.out ?_;intro W5 hr5 hg5)|(with_reducible refine gy _ rfl (.tmp 7) rfl wr.heap.size rfl _ hr5 HCS.out ?_))
    have hb5:Below wr.heap.size wr W5:=(hbA _).trans (below_grown hg5 (aP _) (by simp))
    have hs5:=hb5.size
    have hz5:wr.heap.size<W5.heap.size:=by have:=hg5.size;rw[show (wr.alloc _).heap.size=wr.heap.size+1 by simp] at this;omega
    have tV:Below w.heap.size w W5:=hbw.trans (hb5.mono hsr)
    have HR5:=jI hr5
    have HDC:=jI (Jp lk d _ W5 S b kb db wb cb zb (nb lk) zn Z (qV (aU lk)) (aU lk) (HSC1.out.below hb5) (HTM.out.keep (aA hb5)) HSL.out ⟨by have:=nb_le lk;omega,by have:=wF lk;omega,by unfold dR;have:=List.countP_le_length (p:=fun d:Dc=>decide (d.kind=4)) (l:=lk);omega,by unfold dR;have:=List.countP_le_length (p:=fun d:Dc=>decide (d.kind=6)) (l:=lk);omega⟩ hbo.out HINV.out)
    clear hr5 hg5 hrange
    refine HDC.out.mono ?_
    rintro e w6 ⟨rfl,hbt6,hfin6⟩
    have hr6:=(hbt6.block wr.heap.size (by unfold iB;omega) hz5).trans HR5.out
    have hbw6:Below w.heap.size w w6:=tV.trans (hbt6.below (fun g hg=>by unfold iB at hg;omega) (by omega))
    obtain⟨de,hde⟩:=kE (iK lk d)
    rw[←hde] at HGG hfin6
    rw[←hde]
    have HDE:=jI hde
    have HF6:=jI hfin6
    clear hde hfin6
    by_cases hd0:de=0
    ·subst hd0
     obtain⟨zn',Z',hsc6,hinv6⟩:=HF6.out rfl
     have HR6:=jI hr6
     have HAD:=jI (add_any hsc6 d _ (HTM.out.keep (w':=w6) (fun g hg hl=>(hbt6.block g (by have:=(HSC1.out.out g hg);unfold iB;omega) (by omega)).trans (hb5.block g hl))) ⟨by have:=HSL.out.1;omega,by have:=HSL.out.1;omega⟩ HSL.out.2.1 HSL.out.2.2.2.1 (by have:=nb_le lk;have:=HSL.out.2.2.2.2.1;omega) (by have:=wF lk;have:=HSL.out.2.2.2.2.1;omega) (by unfold dR;have:=List.countP_le_length (p:=fun d:Dc=>decide (d.kind=4)) (l:=lk);omega) (by unfold dR;have:=List.countP_le_length (p:=fun d:Dc=>decide (d.kind=6)) (l:=lk);omega))
     have HI6:=jI hinv6
     clear hsc6 hinv6 hr6
     go_wp2_with (with_reducible refine gy _ rfl (.tmp 7) rfl wr.heap.size rfl _ HR6.out HCS.out ?_)
     refine HAD.out.mono ?_
     rintro e w7 ⟨rfl,hsc7,hbt7⟩
     have HS7:=jI hsc7
     have hbw7:Below w.heap.size w w7:=hbw6.trans (hbt7.below (fun g hg=>by unfold AddT at hg;omega) (by have:=hbw6.size;omega))
     clear hsc7
     go_wp2
     go_roundw
     case rel=>
      refine⟨k+1,by omega,by go_num,hbw7,jI ⟨zn',Z',?_,?_⟩,jI ?_,jI ?_⟩
      ·rw[HTK.out,nb_snoc,qL,rz,oM,oM,qG,tJ]
       exact HS7.out.mono (by omega)
      ·rw[HTK.out]
       exact FP HI6.out (by rw[←HTK.out];have:=Bh (l.take (k+1));rw[fH] at this;omega)
      ·rw[HTK.out]
       exact JL hbo.out HDE.out.symm HSL.out.2.1 (by have:=HFL.out;omega)
      ·rw[HTK.out,HGG.out,if_neg (by decide)]
     case measure=>simp[intOf];omega
    ·have hqn:((de:Int) != 0)=true:=j6 hd0
     have hli:w6.cell? ⟨wr.heap.size,1,none⟩=some (.int .i64 d.line):=by
      rw[j5 w6 _ 1 _ _ _ hr6]
      have:=HC1.out
      simpa using this
     have hg2:=HGG.out
     rw[if_pos hd0] at hg2
     have HG1:=jI (congrArg Prod.fst hg2)
     have HG2:=jI (congrArg Prod.snd hg2)
     clear hr6 hd0 hg2
     go_wp2
     go_ret2
     have q1:r1=d.line:=HG1.out
     have q2:r2=de:=HG2.out
     exact⟨by rw[q1,q2];rfl,hbw6⟩
   ·obtain rfl:k=l.length:=by omega
    have hkI:¬(l.length:Int)<(l.length:Int):=by omega
    have hg3:=hgo.out
    rw[List.drop_length,List.take_length] at hg3
    rw[List.take_length] at hsc
    have hcg:jG l []=if aH l=0∨dR 4 l=0 then (0,9) else (0,0):=rfl
    rw[hcg] at hg3
    obtain⟨-,-,e2,e3,-,-,-,-,-,-,-⟩:=Ah hsc.row
    clear hgo hbo hst hsc hinv hcg
    by_cases hns:aH l=0
    ·have hnb:((aH l:Int)==0)=true:=by rw[hns];rfl
     rw[if_pos (Or.inl hns)] at hg3
     have HG1:=jI (congrArg Prod.fst hg3)
     have HG2:=jI (congrArg Prod.snd hg3)
     clear hns hg3
     go_wp2
     go_ret2
     have q1:r1=0:=HG1.out
     have q2:r2=9:=HG2.out
     exact⟨by rw[q1,q2];rfl,hbw⟩
    ·have hnb:((aH l:Int)==0)=false:=by rw[bP];omega
     by_cases hnk:dR 4 l=0
     ·have hnc:((dR 4 l:Int)==0)=true:=by rw[hnk];rfl
      rw[if_pos (Or.inr hnk)] at hg3
      have HG1:=jI (congrArg Prod.fst hg3)
      have HG2:=jI (congrArg Prod.snd hg3)
      clear hns hg3 hnk
      go_wp2
      go_ret2
      have q1:r1=0:=HG1.out
      have q2:r2=9:=HG2.out
      exact⟨by rw[q1,q2];rfl,hbw⟩
     ·have hnc:((dR 4 l:Int)==0)=false:=by rw[bP];omega
      rw[if_neg (by omega)] at hg3
      have HG1:=jI (congrArg Prod.fst hg3)
      have HG2:=jI (congrArg Prod.snd hg3)
      clear hns hg3 hnk
      go_wp2
      go_ret2
      have q1:r1=0:=HG1.out
      have q2:r2=0:=HG2.out
      exact⟨by rw[q1,q2];rfl,hbw⟩
 ·have hqn:((fe:Int) != 0)=true:=j6 hf0
  have hr2:=HR.out
  rw[if_pos hf0] at hr2
  have HG1:=jI (congrArg Prod.fst hr2)
  have HG2:=jI (congrArg Prod.snd hr2)
  clear hf0 hr2
  go_wp2
  go_ret2
  have q1:r1=0:=HG1.out
  have q2:r2=fe:=HG2.out
  exact⟨by rw[q1,q2];rfl,hb1⟩
end
end Go.Proofs.YtmohibkomlhlaaaGreatDoor
