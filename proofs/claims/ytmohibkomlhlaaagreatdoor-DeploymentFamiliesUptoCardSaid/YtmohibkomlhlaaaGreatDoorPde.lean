/- The contract of expand: the expression of a term. Terms that are typed, of a size up to a bound. The contract of sets: the family of a term. Terms that are expanded without an error. Condition: the table of math/bits lies in the world. The contracts of the library's functions at this seat's program, as the kit's tool lays them (lay-shelf, lay-plain); each by one application. The contracts of the order of faults: isNaN, Compare, Or, set.Compare, fault.compare. Sets of twelve servers. The contracts of fault.compare, faulty, check, Covers, and the test of normal. Sets of twelve servers. -/
import Derived.Test.YtmohibkomlhlaaaGreatDoorPdd
set_option maxRecDepth 100000
set_option maxHeartbeats 4000000
namespace Go.Proofs.YtmohibkomlhlaaaGreatDoor
section
open Go.RowKit
open _root_.Go.Proofs.Tryz
def EOk(b sb mb:Nat)(A:Option Addr)(c:Nat)(l:List Dc)(t:Tm)(r:Ex × Nat):Prop:=
 ∀(v:Value)(w:World)(S:Nat→Prop),Wd w b sb mb A c l→aO (dS w S) w S 22 A l→dX w S t v→(∀g,S g→g<w.heap.size)→Calls prog 30 #[.pointer (some ⟨b,0,none⟩),v] w (pU r.1 r.2 w)
def DualOk:Prop:=∀(x:Ex)(v:Value)(w:World)(S:Nat→Prop),nu w S x v→(∀g,S g→g<w.heap.size)→kY x→Calls prog 68 #[v] w (pU (kU x).1 (kU x).2 w)
structure LOk(l:List Dc):Prop where
 len:l.length≤1000000000
 sv:(ai l).length≤12
 names:∀d∈l,d.names.length≤1000000000∧∀y∈d.names,y.size≤maxLen
structure HOk(l:List Dc)(Q:ByteArray→Prop)(op:Int)(name:ByteArray)(ws:List Int)(kids:List Tm):Prop where
 nm:name.size≤maxLen
 wl:ws.length≤1600000
 kl:kids.length≤1550000
 one:op=1→iQ (ai l) name=none→Q name
 dual:op=5→0<kids.length∧DualOk
 grp:op≠1→op≠2→op≠3→op≠4→op≠5→name≠(⟨#[115,101,114,118,101,114,115]⟩:ByteArray)→∃d,nY l 1 name=some d
 rng:-9223372036854775808≤op∧op≤9223372036854775807
inductive D6(l:List Dc)(Q:ByteArray→Prop):Tm→Prop
 |mk (op:Int) (name:ByteArray) (need:Int) (ws:List Int) (kids:List Tm) (hh:HOk l Q op name ws kids) (hk:∀k∈kids,D6 l Q k):D6 l Q (.mk op name need ws kids)
def QOk(b sb mb:Nat)(A:Option Addr)(c:Nat)(l:List Dc)(env:ByteArray→Ex × Nat)(x:ByteArray):Prop:=
 ∃d,nY l 3 x=some d∧EOk b sb mb A c l d.term (env x)∧((env x).2=0→kY (env x).1)
theorem exTms_len{l:List Dc}{env:ByteArray→Ex × Nat}:∀{ts:List Tm},(iU l env ts).2=0→(iU l env ts).1.length=ts.length:=by
 intro ts
 induction ts with
 |nil=>intro _;rfl
 |cons t r ih=>
  intro h
  rw[iU] at h ⊢
  split at h
  ·rename_i h9;exact absurd h h9
  ·rename_i h9
   rw[if_neg h9]
   simp only[fM]
   rw[ih h]
section
variable {b sb mb:Nat} {A:Option Addr} {c:Nat} {l:List Dc} {env:ByteArray→Ex × Nat}
theorem exOwn_lim(hl:LOk l){op:Int}{name:ByteArray}{need:Int}{ws:List Int}{kids:List Tm}{ks:List Ex}(hh:HOk l (QOk b sb mb A c l env) op name ws kids)(hk:ks.length=kids.length)(hx:∀x∈ks,kY x)(he:(gX l env op name need ws ks).2=0):kY (gX l env op name need ws ks).1:=by
 have hkl:=hh.kl
 unfold gX at he ⊢
 by_cases h1:op=1
 ·rw[if_pos h1] at he ⊢
  cases hi:iQ (ai l) name with
  |some i=>exact BU i
  |none=>
   rw[hi] at he
   obtain⟨d,-,-,h3⟩:=hh.one h1 hi
   exact h3 he
 rw[if_neg h1] at he ⊢
 by_cases h5:op=5
 ·rw[if_pos h5] at he ⊢
  refine dual_lim ?_ he
  have:=(hh.dual h5).1
  cases ks with
  |nil=>simp at hk;omega
  |cons x r=>exact hx x fO
 rw[if_neg h5] at he ⊢
 by_cases h2:op=2
 ·rw[if_pos h2] at he ⊢
  exact zY (by omega) hh.wl hx he
 rw[if_neg h2] at he ⊢
 by_cases h3:op=3
 ·rw[if_pos h3] at he ⊢
  exact zY (by omega) (by simp) hx he
 rw[if_neg h3] at he ⊢
 by_cases h4:op=4
 ·rw[if_pos h4] at he ⊢
  exact zY (by omega) (by simp) hx he
 rw[if_neg h4] at he ⊢
 simp only at he ⊢
 refine zY ?_ (by simp) (fun x hxx=>?_) he
 ·rw[bD]
  have:=yK (gH l name) (ai l).length
  have:=hl.sv
  omega
 ·rcases List.mem_append.1 hxx with h|h
  ·exact hx x h
  ·exact yJ _ _ x h
theorem uU(hl:LOk l):∀{t:Tm},D6 l (QOk b sb mb A c l env) t→(fK l env t).2=0→kY (fK l env t).1:=by
 intro t hg
 induction hg with
 |mk op name need ws kids hh hk ih=>
  intro he
  rw[fK] at he ⊢
  split at he
  ·rename_i h9;exact absurd he h9
  ·rename_i h9
   rw[if_neg h9]
   have h8:=Decidable.not_not.1 h9
   refine exOwn_lim hl hh (exTms_len h8) ?_ he
   clear he hh h9
   induction kids with
   |nil=>intro x hx;simp[iU] at hx
   |cons t r ihr=>
    intro x hx
    rw[iU] at h8 hx
    split at h8
    ·rename_i h7;exact absurd h8 h7
    ·rename_i h7
     rw[if_neg h7] at hx
     rcases List.mem_cons.1 hx with hx|hx
     ·rw[hx];exact ih t fO (Decidable.not_not.1 h7)
     ·exact ihr (fun k hk'=>hk k (List.mem_cons_of_mem _ hk')) (fun k hk'=>ih k (List.mem_cons_of_mem _ hk')) h8 x hx
end
theorem ret_at{fn:Func}{slot u:Nat}{a:Act}{w W:World}{b4:Nat}{A:Option Addr}{n c:Nat}{rt:Int}{er:Nat}{x:Ex}(hres:fn.results=#[.cell slot 38,.tmp u])(hp:a.tmps.getD slot undef=.pointer (some ⟨b4,0,none⟩))(hq:a.tmps.getD u undef=.int .i64 (er:Nat))(hd:a.defers=[])
  {T:TypeId} (h4:W.heap[b4]?=some (.cells #[.slice A n c,.int .i64 rt] T (0,0))) (hx:nu W (w.heap.size≤·) x (.agg #[.slice A n c,.int .i64 rt])) (hb:Below w.heap.size w W):bodyPost prog fn (pU x er w) .ret a W:=
 qU hres hp hq hd (aG h4).1 (aG h4).2 ⟨_,rfl,hx,hb⟩
theorem ret_store{fn:Func}{slot u:Nat}{a:Act}{w W:World}{b4:Nat}{A:Option Addr}{n c:Nat}{rt:Int}{er:Nat}{x:Ex}(hres:fn.results=#[.cell slot 38,.tmp u])(hp:a.tmps.getD slot undef=.pointer (some ⟨b4,0,none⟩))(hq:a.tmps.getD u undef=.int .i64 (er:Nat))(hd:a.defers=[])
  {u0 v0:Value} {T:TypeId} (h4:W.heap[b4]?=some (.cells #[u0,v0] T (0,0))) (hx:nu W (fun g=>w.heap.size≤g∧g≠b4) x (.agg #[.slice A n c,.int .i64 rt])) (hb:Below w.heap.size w W) (hlo:w.heap.size≤b4):
  bodyPost prog fn (pU x er w) .ret a ((W.setCell ⟨b4,0,none⟩ (.slice A n c)).setCell ⟨b4,1,none⟩ (.int .i64 rt)):=by
 have h5:=jJ (u':=.slice A n c) (v':=.int .i64 rt) h4
 refine qU hres hp hq hd (aG h5).1 (aG h5).2 ⟨_,rfl,?_,(hb.setCell (p:=⟨b4,0,none⟩) hlo _).setCell (p:=⟨b4,1,none⟩) hlo _⟩
 refine (hx.keep (fun g hg _=>?_)).mono (fun g hg _=>hg.1)
 rw[kC _ _ _ g (show g≠b4 from hg.2),kC _ _ _ g (show g≠b4 from hg.2)]
theorem Jl{l:List Dc}{env:ByteArray→Ex × Nat}(kids:List Tm)(j:Nat)(h:j<kids.length):iU l env (kids.drop j)=if (fK l env kids[j]).2≠0 then ([],(fK l env kids[j]).2) else ((fK l env kids[j]).1::(iU l env (kids.drop (j+1))).1,(iU l env (kids.drop (j+1))).2):=by
 rw[fE h,iU]
theorem exTm_mk(l:List Dc)(env:ByteArray→Ex × Nat)(op:Int)(name:ByteArray)(need:Int)(ws:List Int)(kids:List Tm):fK l env (.mk op name need ws kids)=if (iU l env kids).2≠0 then (ex0,(iU l env kids).2) else gX l env op name need ws (iU l env kids).1:=by rw[fK]
theorem dc_term{w:World}{S:Nat→Prop}{d:Dc}{v:Value}(h:dS w S d v):∃(cs:List Value)(o:Int)(m:ByteArray)(nd:Int)(wA:Option Addr)(wn wc:Nat)(kA:Option Addr)(kn kc:Nat),cs.length=22∧cs.toArray.all (·.oneCell')=true∧v=.agg cs.toArray∧
  cs[5]?=some (.int .i64 o)∧cs[6]?=some (.string m)∧cs[7]?=some (.int .i64 nd)∧cs[8]?=some (.slice wA wn wc)∧cs[9]?=some (.slice kA kn kc)∧dX w S d.term (.agg #[.int .i64 o,.string m,.int .i64 nd,.slice wA wn wc,.slice kA kn kc]):=by
 obtain⟨nA,nc,fA,fc,vt,vr,vw,hv,h1,h2,-,-,h5,h6,h7⟩:=h
 have h5':=h5
 obtain⟨o1,m1,d1,wA1,wn1,wc1,kA1,kn1,kc1,rfl⟩:=h5.form
 obtain⟨o2,m2,d2,wA2,wn2,wc2,kA2,kn2,kc2,rfl⟩:=h6.form
 obtain⟨o3,m3,d3,wA3,wn3,wc3,kA3,kn3,kc3,rfl⟩:=h7.form
 clear h5 h6 h7
 simp only[Value.cells,List.append_toArray,List.cons_append,List.nil_append] at hv
 refine⟨[.int .i64 d.kind,.int .i64 d.line,.string d.name,.slice nA d.names.length nc,.slice fA d.faults.length fc,.int .i64 o1,.string m1,.int .i64 d1,.slice wA1 wn1 wc1,.slice kA1 kn1 kc1,.string d.proto,.int .i64 o2,.string m2,.int .i64 d2,.slice wA2 wn2 wc2,.slice kA2 kn2 kc2,.int .i64 o3,.string m3,.int .i64 d3,.slice wA3 wn3 wc3,.slice kA3 kn3 kc3,.string d.use],o1,m1,d1,wA1,wn1,wc1,kA1,kn1,kc1,rfl,all_oneCell_toArray ?_,hv,rfl,rfl,rfl,rfl,rfl,h5'⟩
 intro u hu
 simp only[List.mem_cons,List.not_mem_nil,or_false] at hu
 rcases hu with rfl|rfl|rfl|rfl|rfl|rfl|rfl|rfl|rfl|rfl|rfl|rfl|rfl|rfl|rfl|rfl|rfl|rfl|rfl|rfl|rfl|rfl<;>rfl
structure ESt(w W:World)(b sb mb:Nat)(A:Option Addr)(c:Nat)(l:List Dc)(S:Nat→Prop)(op:Int)(name:ByteArray)(need:Int)(wA kA:Option Addr)(wn wc kn kc:Nat)(acc:List Ex)(vk:Value):Prop where
 bl:Below w.heap.size w W
 wd:Wd W b sb mb A c l
 r3:W.heap[w.heap.size]?=some (.cells #[.int .i64 op,.string name,.int .i64 need,.slice wA wn wc,.slice kA kn kc] 26 (0,0))
 r4:W.heap[w.heap.size+1]?=some (.cells #[.slice none 0 0,.int .i64 0] 38 (0,0))
 row:dZ nu W (w.heap.size+2≤·) (w.heap.size+2) 38 2 vk acc
section
variable {w W W':World} {b sb mb:Nat} {A:Option Addr} {c:Nat} {l:List Dc} {S:Nat→Prop} {op:Int} {name:ByteArray} {need:Int} {wA kA:Option Addr} {wn wc kn kc:Nat} {acc:List Ex} {vk:Value}
theorem ESt.later(h:ESt w W b sb mb A c l S op name need wA kA wn wc kn kc acc vk)(hb:Below W.heap.size W W'):ESt w W' b sb mb A c l S op name need wA kA wn wc kn kc acc vk:=
 ⟨h.bl.trans (hb.mono h.bl.size),h.wd.below hb,(hb.block _ (jS h.r3)).trans h.r3,(hb.block _ (jS h.r4)).trans h.r4,h.row.keep uI (aA hb) (fun g e=>hb.block g (h.row.lt g e).2)⟩
theorem bit16(s k:Nat)(h:s<65536):(bits .and .u16 ((s:Int) / 2^k) 1==1)=s.testBit k:=by
 have hd:s / 2^k<65536:=fG (Nat.div_le_self _ _) h
 have e:((s:Int) / 2^k)=((s / 2^k:Nat):Int):=by simp
 rw[←mK,e,show (1:Int)=((1:Nat):Int) from rfl,u16_and_nat (s / 2^k) 1 hd (by decide)]
 rw[Bool.eq_iff_iff];simp only[beq_iff_eq];omega
theorem ESt.fin(h:ESt w W b sb mb A c l S op name need wA kA wn wc kn kc acc vk)(hb:Below W.heap.size W W'){fn:Func}{slot u:Nat}{a:Act}{A':Option Addr}{n' c':Nat}{rt:Int}{er:Nat}{x:Ex}(hx:nu W' (W.heap.size≤·) x (.agg #[.slice A' n' c',.int .i64 rt]))(hres:fn.results=#[.cell slot 38,.tmp u])(hp:a.tmps.getD slot undef=.pointer (some ⟨w.heap.size+1,0,none⟩))(hq:a.tmps.getD u undef=.int .i64 (er:Nat))(hd:a.defers=[]):
  bodyPost prog fn (pU x er w) .ret a ((W'.setCell ⟨w.heap.size+1,0,none⟩ (.slice A' n' c')).setCell ⟨w.heap.size+1,1,none⟩ (.int .i64 rt)):=
 ret_store hres hp hq hd (h.later hb).r4 (hx.mono (fun g hg _=>by have:=jS h.r4;have:=h.bl.size;exact⟨by omega,by omega⟩)) (h.later hb).bl (Nat.le_succ _)
theorem ESt.push(h:ESt w W b sb mb A c l S op name need wA kA wn wc kn kc acc vk){vs:List Value}(hv1:vs.length=acc.length)(hv2:W.ownsRow (w.heap.size+2) 38 2 vk acc.length (vs.flatMap cellsOf))(hv3:∀(i:Nat)(x:Ex)(u:Value),acc[i]?=some x→vs[i]?=some u→nu W (fun g=>w.heap.size+2≤g∧some g≠vk.ownBlock) x u)
  {x:Ex} {u v':Value} {news:List Value} (hn:cellsOf u=news) (hp:nu W (fun g=>w.heap.size+2≤g∧some g≠vk.ownBlock) x u) (hown:W'.ownsRow (w.heap.size+2) 38 2 v' (acc.length+1) (vs.flatMap cellsOf++news)) (hg:W.grownBy W' vk.ownBlock) (hv:v'.ownBlock=vk.ownBlock∨v'.ownBlock=some (W.heap.size+1)) (hbw:b<w.heap.size∧sb<w.heap.size):
  ESt w W' b sb mb A c l S op name need wA kA wn wc kn kc (acc++[x]) v':=by
 have hlo:∀g,vk.ownBlock=some g→w.heap.size+2≤g:=fun g e=>(hv2.lt g e).1
 have hold:∀g,g<w.heap.size+2→g<W.heap.size→W'.heap[g]?=W.heap[g]?:=fun g hl h9=>hg.block g h9 (fun e=>by have:=hlo g e.symm;omega)
 have hsz:=h.bl.size
 exact⟨h.bl.grown hg h.bl.size (fun k e=>by have:=hlo k e;omega),⟨(hold _ (by omega) (by omega)).trans h.wd.row,h.wd.map.at (hold _ (by omega) (by omega))⟩,(hold _ (by omega) (jS h.r3)).trans h.r3,(hold _ (by omega) (jS h.r4)).trans h.r4,dZ.push hv1 hv3 uI hn hp hown hg hv⟩
end
def ndI(K:Nat)(op:Int):Int:=if op=6 then ((K / 2+1:Nat):Int) else if op=7 then K else if op=8 then 1 else 0
def ndF(K:Nat)(op:Int):Option Value:=if op=8 then some (.int .i64 1) else if op=7 then some (.int .i64 (K:Nat)) else if op=6 then some (.int .i64 ((K / 2+1:Nat):Int)) else none
theorem ndF_getD(K:Nat)(op:Int):(ndF K op).getD (.int .i64 0)=.int .i64 (ndI K op):=by
 unfold ndF ndI
 by_cases h6:op=6
 ·subst h6;rfl
 by_cases h7:op=7
 ·subst h7;rfl
 by_cases h8:op=8
 ·subst h8;rfl
 rw[if_neg h6,if_neg h7,if_neg h8,if_neg h6,if_neg h7,if_neg h8]
 rfl
theorem FB{b sb mb:Nat}{A:Option Addr}{c:Nat}{l:List Dc}{env:ByteArray→Ex × Nat}(hl:LOk l)(op:Int)(name:ByteArray)(need:Int)(ws:List Int)(kids:List Tm)(hh:HOk l (QOk b sb mb A c l env) op name ws kids)
  (ih:∀k∈kids,EOk b sb mb A c l k (fK l env k)∧((fK l env k).2=0→kY (fK l env k).1)):EOk b sb mb A c l (.mk op name need ws kids) (fK l env (.mk op name need ws kids)):=by
 intro v w S hw hls hv hS
 have hbA:∀(W:World)(o:Obj),Below W.heap.size W (W.alloc o):=fun W o=>(jQ _ _).alloc (aP _) o
 cases hv with
 |mk _ _ _ _ _ wA kA wc kc vs hvw hwc hvk hkc hvl hvh=>
  have HKI:=jI (show aO (dX w S) w S 5 kA kids from ⟨vs,hvl,hvk,hvh⟩)
  have HLS:=jI hls
  have HVW:=jI hvw
  have HIH:=jI ih
  have HH:=jI hh
  have HL:=jI hl
  have HDU:=jI (fun h=>(hh.dual h).2)
  have hbw:=hw.lt
  have hkl:=hh.kl
  obtain⟨r,hr⟩:=kE (fK l env (.mk op name need ws kids))
  rw[←hr]
  rw[exTm_mk] at hr
  have HR:=jI hr
  obtain⟨W0,hW0⟩:=kE ((w.alloc (.cells #[.int .i64 op,.string name,.int .i64 need,.slice wA ws.length wc,.slice kA kids.length kc] 26)).alloc (.cells #[.slice none 0 0,.int .i64 0] 38))
  have hb0:Below w.heap.size w W0:=by rw[hW0];exact (hbA _ _).alloc (by simp) _
  have hE0:ESt w W0 b sb mb A c l S op name need wA kA ws.length wc kids.length kc [] (.slice none 0 0):=
   ⟨hb0,hw.below hb0,by rw[hW0];exact heap_alloc2_old _ _ _,by rw[hW0];exact heap_alloc2_new _ _ _,.nil _ _ _ _ _⟩
  have H0:=jI hW0
  clear hvw hvk hvl hvh ih hh hl hls hr hW0 hb0 hw
  go_enter func30,ntmps30
  go_wp2
  rw[←H0.out]
  go_loopw [6,21] (fun y x wr=>∃(j:Nat)(acc:List Ex)(vk:Value),j≤kids.length∧x=.int .i64 j∧y=vk∧Hid (ESt w wr b sb mb A c l S op name need wA kA ws.length wc kids.length kc acc vk)∧acc.length=j∧Hid ((iU l env kids).2=(iU l env (kids.drop j)).2∧((iU l env (kids.drop j)).2=0→(iU l env kids).1=acc++(iU l env (kids.drop j)).1))∧Hid (∀x∈acc,kY x)) (fun _ x _=>kids.length-(intOf x).toNat)
  case atStart=>exact⟨0,[],_,cu _,rfl,rfl,jI hE0,rfl,jI ⟨rfl,fun _=>rfl⟩,jI (fun x h=>by simp at h)⟩
  case round=>
   obtain⟨j,acc,vk,hj,rfl,hvk,hE,hal,hex,hlim⟩:=hrel
   have hvk2:=hvk.symm
   clear hvk
   subst hvk2
   have HAL:=jI hal
   have hacl:acc.length≤1550000:=by omega
   clear hal
   have hsr:=hE.out.bl.size
   have hw2:w.heap.size+1<wr.heap.size:=jS hE.out.r4
   by_cases hjl:j<kids.length
   ·obtain⟨g,o,op2,nm2,nd2,wA2,wn2,wc2,kA2,kn2,kc2,rfl,hSg,htm,k0,k1,k2,k3,k4⟩:=nO (fun t v h=>⟨_,h⟩) (HKI.out.keep (P':=dX wr S) (aj hE.out.bl hS) (fun _ _ h=>h.keep (aj hE.out.bl hS))) j hjl
    obtain⟨kt,hkt⟩:=kE (kids[j])
    obtain⟨ih1,ih2⟩:=HIH.out kids[j] (bQ hjl)
    have hdr:=Jl (l:=l) (env:=env) kids j hjl
    rw[←hkt] at htm ih1 ih2 hdr
    obtain⟨er,her⟩:=kE ((fK l env kt).2)
    obtain⟨xr,hxr⟩:=kE ((fK l env kt).1)
    rw[←her,←hxr] at hdr
    rw[←her,←hxr] at ih2
    have HDR:=jI hdr
    have HI2:=jI ih2
    have HTM:=jI htm
    have hgs:g<wr.heap.size:=by have:=hS g hSg;omega
    obtain⟨W5,hW5⟩:=kE (wr.alloc (.cells #[.int .i64 op2,.string nm2,.int .i64 nd2,.slice wA2 wn2 wc2,.slice kA2 kn2 kc2] 26))
    have hb5:Below wr.heap.size wr W5:=by rw[hW5];exact hbA _ _
    have hE5:=hE.out.later hb5
    have HC5:=jI (show Calls prog 30 #[.pointer (some ⟨b,0,none⟩),.agg #[.int .i64 op2,.string nm2,.int .i64 nd2,.slice wA2 wn2 wc2,.slice kA2 kn2 kc2]] W5 (pU xr er W5) from by
     rw[her,hxr]
     exact ih1 _ W5 S hE5.wd (HLS.out.keep (aj hE5.bl hS) (fun _ _ h=>h.keep (aj hE5.bl hS))) (HTM.out.keep (aA hb5)) (fun g hg=>by have:=hS g hg;have:=hE5.bl.size;omega))
    have HE5:=jI hE5
    have H5:=jI hW5
    have hjI:(j:Int)<(kids.length:Int):=by omega
    have hj0:(0:Int)≤(j:Int):=by omega
    clear hkt ih1 ih2 hdr her hxr htm hW5 hb5 hE5
    go_wp2_with fail
    rw[←H5.out]
    refine HC5.out.mono ?_
    rintro e w6 ⟨v6,rfl,hx6,hb6⟩
    have hE6:=HE5.out.later hb6
    have hs56:wr.heap.size+1=W5.heap.size:=by rw[H5.out];simp
    have HX6:=jI hx6
    obtain⟨A6,c6,rfl,-,-⟩:=hx6
    obtain⟨x0,x1⟩:=aG hE6.r4
    have y0:=jT _ _ 0 _ _ hE6.r4
    have y1:=jT _ _ 1 _ _ hE6.r4
    have yo:=jS hE6.r4
    have hs6:=hb6.size
    have HE6:=jI hE6
    clear hE6
    obtain⟨W7,hW7⟩:=kE (w6.alloc (.cells #[.slice A6 xr.nodes.length c6,.int .i64 xr.root] 38))
    have hb7:Below w6.heap.size w6 W7:=by rw[hW7];exact hbA _ _
    have hE7:=HE6.out.later hb7
    have hx7:=HX6.out.keep (aA hb7)
    have hs7:W7.heap.size=w6.heap.size+1:=by rw[hW7];simp
    have H7:=jI hW7
    have HE7:=jI hE7
    clear hW7 hE7
    by_cases he0:er=0
    ·subst he0
     have h9:=HDR.out
     rw[if_neg (by decide)] at h9
     have H9:=jI h9
     obtain⟨us,hv1,hv2,hv3⟩:=HE7.out.row
     have HV3:=jI hv3
     have HX7:=jI hx7
     have hsz7:w.heap.size+2≤W7.heap.size:=jS HE7.out.r4
     have hle7:=hb7.size
     clear h9 hv3 hx7
     go_wp2_with (at_builtin;rw[←H7.out];refine Cj W7 rfl (.tmp 35) (.tmp 37) rfl (w.heap.size+2) _ _ _ hv2 rfl A6 xr.nodes.length c6 xr.root (by rw[hs7];rfl) (by omega) hsz7 ?_;intro v' w' hown' hg' hv')
     go_roundw
     case rel=>
      have hxn:nu W7 (fun g=>w.heap.size+2≤g∧some g≠vk.ownBlock) xr (.agg #[.slice A6 xr.nodes.length c6,.int .i64 xr.root]):=HX7.out.mono (fun g hg _=>⟨by omega,fun e=>by have:=(hE.out.row.lt g e.symm).2;omega⟩)
      refine⟨j+1,acc++[xr],v',by omega,by go_num,rfl,jI (HE7.out.push hv1 hv2 HV3.out rfl hxn hown' hg' hv' hbw),by rw[bD,HAL.out];rfl,jI ?_,jI ?_⟩
      ·obtain⟨q1,q2⟩:=hex.out
       rw[H9.out] at q1 q2
       exact⟨q1,fun h=>by rw[q2 h,List.append_assoc];rfl⟩
      ·intro y hy
       rcases List.mem_append.1 hy with hy|hy
       ·exact hlim.out y hy
       ·rw[List.mem_singleton] at hy
        rw[hy];first|exact HI2.out rfl|exact HI2.out trivial
     case measure=>simp[intOf];omega
    ·have hqI:((er:Int) != 0)=true:=j6 he0
     have h9:=HDR.out
     rw[if_pos he0] at h9
     have hR:=HR.out
     have hx2:=hex.out.1
     rw[h9] at hx2
     simp only at hx2
     rw[if_pos (by rw[hx2];exact he0),hx2] at hR
     have HR2:=jI hR
     clear h9 hR hx2 he0
     go_wp2
     rw[HR2.out]
     exact ret_at rfl rfl rfl rfl ((kD _ _ (by simp;exact yo)).trans (jJ HE6.out.r4)) (nu.zero _ _) (((HE6.out.bl.setCell (p:=⟨w.heap.size+1,0,none⟩) (Nat.le_succ _) _).setCell (p:=⟨w.heap.size+1,1,none⟩) (Nat.le_succ _) _).alloc (by simp;exact HE6.out.bl.size) _)
   ·obtain rfl:j=kids.length:=by omega
    have hjI:¬(kids.length:Int)<(kids.length:Int):=by omega
    obtain⟨q1,q2⟩:=hex.out
    rw[List.drop_length] at q1 q2
    have q3:=q2 rfl
    have e0:(iU l env []).1=[]:=rfl
    have e1:(iU l env []).2=0:=rfl
    rw[e0,List.append_nil] at q3
    rw[e1] at q1
    have hR:=HR.out
    rw[if_neg (by rw[Decidable.not_not];exact q1),q3] at hR
    have HR2:=jI hR
    obtain⟨W1,hW1⟩:=kE wr
    rw[←hW1] at hE hsr ⊢
    obtain⟨x0,x1⟩:=aG hE.out.r4
    have y0:=jT _ _ 0 _ _ hE.out.r4
    have y1:=jT _ _ 1 _ _ hE.out.r4
    obtain⟨z0,z1,z2,z3,z4⟩:=aV hE.out.r3
    have hlt4:=jS hE.out.r4
    have hlt3:=jS hE.out.r3
    clear hex q1 q2 q3 e0 e1 hR HR hW1
    obtain⟨A6,c6,hvk,hc6,hL6⟩:=hE.out.row.list uI
    subst hvk
    have CZ:xO acc:=xO.of (by omega) hlim.out
    have HTHR:=jI (show ∀(W:World)(nd:Int)(ws':List Int)(wA':Option Addr)(wc':Nat),Below W1.heap.size W1 W→ak W (·<W.heap.size) 1 wA' ws'.length (bY ws')→ws'.length≤1600000→Calls prog 69 #[.int .i64 nd,.slice wA' ws'.length wc',.slice A6 acc.length c6] W (pU (lK nd ws' acc).1 (lK nd ws' acc).2 W) from
     fun W nd ws' wA' wc' hb hw hl'=>F8 nd ws' acc wA' A6 wc' c6 W (·<W.heap.size) hw ((hL6.keep (P':=nu W (w.heap.size+2≤·)) (aA hb) (fun _ _ h=>(h.keep (aA hb)).mono (fun g hg _=>hg))).mono (fun g _ hl=>hl) (by decide) (fun _ _ h=>h.mono (fun g _ hl=>hl))) (fun g hg=>hg) hl' CZ)
    have HL6:=jI hL6
    have HWS:=jI ((HVW.out.keep (aj hE.out.bl hS)).mono (S':=(·<W1.heap.size)) (fun g _ hl=>hl) (by decide))
    clear hL6 CZ
    by_cases h1:op=1
    ·subst h1
     have hR2:=HR2.out
     unfold gX at hR2
     rw[if_pos rfl] at hR2
     have hnm:=HH.out.nm
     have hone:=HH.out.one rfl
     obtain⟨d0,d1,d2⟩:=hE.out.wd.cells
     have hlk:=fun(X:World)(hX:X.heap=W1.heap)=>(hE.out.wd.map.is.at (w':=X) (by rw[hX])).look_ok (t:=117) (e:=3) bB underlying117 (eU X) hnm
     cases hix:iQ (ai l) name with
     |some i=>
      have hi:(svF (ai l) name).getD (.int .i64 0)=.int .i64 (i:Nat)∧(svF (ai l) name).isSome=true:=by unfold svF;rw[hix];exact⟨rfl,rfl⟩
      simp only[hi.1,hi.2] at hlk
      rw[hix] at hR2
      simp only at hR2
      have HR5:=jI hR2
      have HLK:=jI hlk
      clear hR2 HR2 hi hix hone hlk
      go_wp2_with fail
      have hlk:=fun n=>HLK.out (W1.drewN n) rfl
      go_quiet (fail)
      have hbq:Below W1.heap.size W1 (W1.drewN nq):=below_drewN (jQ _ _) nq
      have hE2:=hE.out.later hbq
      obtain⟨W2,hW2⟩:=kE (W1.drewN nq)
      rw[←hW2] at hE2 hbq ⊢
      clear hW2 hlk
      go_wp2_with fail
      refine (yN i W2).mono ?_
      rintro e w6 ⟨v6,rfl,hx6,hb6⟩
      have HX6:=jI hx6
      obtain⟨A8,c8,rfl,-,-⟩:=hx6
      obtain⟨e0,e1⟩:=aG (hE2.later hb6).r4
      have f0:=jT _ _ 0 _ _ (hE2.later hb6).r4
      have f1:=jT _ _ 1 _ _ (hE2.later hb6).r4
      go_wp2
      rw[HR5.out]
      exact hE2.fin hb6 HX6.out rfl rfl rfl rfl
     |none=>
      have hi:(svF (ai l) name).getD (.int .i64 0)=.int .i64 0∧(svF (ai l) name).isSome=false:=by unfold svF;rw[hix];exact⟨rfl,rfl⟩
      simp only[hi.1,hi.2] at hlk
      rw[hix] at hR2
      simp only at hR2
      obtain⟨d,hfd,hEd,-⟩:=hone hix
      have HR5:=jI hR2
      have HLK:=jI hlk
      have HED:=jI hEd
      have HFD:=jI hfd
      clear hR2 HR2 hi hix hone hlk hEd hfd
      go_wp2_with fail
      have hlk:=fun n=>HLK.out (W1.drewN n) rfl
      go_quiet (fail)
      have hbq:Below W1.heap.size W1 (W1.drewN nq):=below_drewN (jQ _ _) nq
      have hE2:=hE.out.later hbq
      obtain⟨W2,hW2⟩:=kE (W1.drewN nq)
      rw[←hW2] at hE2 hbq ⊢
      obtain⟨u0,u1,u2,u3,u4⟩:=aV hE2.r3
      have HF:=jI (vF W2 S hE2.wd (HLS.out.keep (aj hE2.bl hS) (fun _ _ h=>h.keep (aj hE2.bl hS))) (fun g hg=>by have:=hS g hg;have:=hE2.bl.size;omega) HL.out.len 3 name d HFD.out)
      clear hW2 hlk
      go_wp2_with fail
      refine HF.out.mono ?_
      rintro e w3 ⟨v3,rfl,hp3,hb3⟩
      have hE3:=hE2.later hb3
      obtain⟨cs,o1,m1,d1',wA1,wn1,wc1,kA1,kn1,kc1,hcl,hone,rfl,q5,q6,q7,q8,q9,htm⟩:=dc_term hp3
      have hcs2:cs.toArray.size=22:=by simpa using hcl
      have nD:=jI hone
      have HCS:=jI hcs2
      have C5:=jI q5
      have C6:=jI q6
      have C7:=jI q7
      have C8:=jI q8
      have C9:=jI q9
      have HTM:=jI htm
      have hbB:∀o,Below w3.heap.size w3 (w3.alloc o):=fun o=>(jQ _ _).alloc (aP _) o
      clear hp3 hcl hone hcs2 q5 q6 q7 q8 q9 htm
      go_wp2_with (with_reducible refine bO _ rfl rfl (.tmp 13) (.tmp 62) rfl w3.heap.size cs.toArray rfl rfl _ (jR w3 _) rfl HCS.out nD.out ?_;intro W5 hr5 hg5;have p5:=aY hr5 C5.out;have p6:=aY hr5 C6.out;have p7:=aY hr5 C7.out;have p8:=aY hr5 C8.out;have p9:=aY hr5 C9.out;have hb5:Below w3.heap.size w3 W5:=(hbB _).trans (below_grown hg5 (aP _) (by simp));clear hr5 hg5)
      have hE5:=hE3.later hb5
      refine (HED.out _ W5 S hE5.wd (HLS.out.keep (aj hE5.bl hS) (fun _ _ h=>h.keep (aj hE5.bl hS))) (HTM.out.keep (aj hb5 (fun g hg=>by have:=hS g hg;have:=hE3.bl.size;omega))) (fun g hg=>by have:=hS g hg;have:=hE5.bl.size;omega)).mono ?_
      rintro e w6 ⟨v6,rfl,hx6,hb6⟩
      have HX6:=jI hx6
      obtain⟨A8,c8,rfl,-,-⟩:=hx6
      obtain⟨e0,e1⟩:=aG (hE5.later hb6).r4
      have f0:=jT _ _ 0 _ _ (hE5.later hb6).r4
      have f1:=jT _ _ 1 _ _ (hE5.later hb6).r4
      go_wp2
      rw[HR5.out]
      exact hE5.fin hb6 HX6.out rfl rfl rfl rfl
    have h1b:(op==1)=false:=by rw[bP];exact h1
    by_cases h5:op=5
    ·subst h5
     have hR2:=HR2.out
     unfold gX at hR2
     rw[if_neg (by decide),if_pos rfl] at hR2
     have hpos:=(HH.out.dual rfl).1
     have hacc0:0<acc.length:=by rw[HAL.out];exact hpos
     obtain⟨g,o,B,c7,rfl,hSg,k0,k1,wS,hcap⟩:=GD HL6.out hacc0
     have hhd:acc.headD ex0=acc[0]:=by
      cases acc with
      |nil=>simp at hacc0
      |cons x r=>rfl
     rw[hhd] at hR2
     obtain⟨x,hx⟩:=kE (acc[0])
     have hxl:=hlim.out acc[0] (bQ hacc0)
     rw[←hx] at hR2 k0 k1 wS hcap hxl
     have HR5:=jI hR2
     have HDC:=jI (HDU.out rfl x (.agg #[.slice B x.nodes.length c7,.int .i64 x.root]) W1 (fun g=>g<W1.heap.size) ⟨B,c7,rfl,wS.mono (fun g _ hl=>hl) (by decide) (fun _ _ h=>h.mono (fun g _ hl=>hl)),hcap⟩ (fun g hg=>hg) hxl)
     have hk6:(0:Int)<(acc.length:Int):=by omega
     rw[Nat.zero_mul,Nat.add_zero] at k0 k1
     have hgs:g<W1.heap.size:=World.block_lt_of_cell? W1 _ k0
     clear hR2 HR2 hx hhd wS hxl hpos
     go_wp2_with fail
     refine HDC.out.mono ?_
     rintro e w6 ⟨v6,rfl,hx6,hb6⟩
     have HX6:=jI hx6
     obtain⟨A8,c8,rfl,-,-⟩:=hx6
     obtain⟨e0,e1⟩:=aG (hE.out.later hb6).r4
     have f0:=jT _ _ 0 _ _ (hE.out.later hb6).r4
     have f1:=jT _ _ 1 _ _ (hE.out.later hb6).r4
     go_wp2
     rw[HR5.out]
     exact hE.out.fin hb6 HX6.out rfl rfl rfl rfl
    have h5b:(op==5)=false:=by rw[bP];exact h5
    by_cases h2:op=2
    ·subst h2
     have hR2:=HR2.out
     unfold gX at hR2
     rw[if_neg (by decide),if_neg (by decide),if_pos rfl] at hR2
     have HR5:=jI hR2
     have hwl:=HH.out.wl
     clear hR2 HR2
     go_wp2_with fail
     refine (HTHR.out W1 need ws wA wc (jQ _ _) HWS.out hwl).mono ?_
     rintro e w6 ⟨v6,rfl,hx6,hb6⟩
     have HX6:=jI hx6
     obtain⟨A8,c8,rfl,-,-⟩:=hx6
     obtain⟨e0,e1⟩:=aG (hE.out.later hb6).r4
     have f0:=jT _ _ 0 _ _ (hE.out.later hb6).r4
     have f1:=jT _ _ 1 _ _ (hE.out.later hb6).r4
     go_wp2
     rw[HR5.out]
     exact hE.out.fin hb6 HX6.out rfl rfl rfl rfl
    have h2b:(op==2)=false:=by rw[bP];exact h2
    by_cases h3:op=3
    ·subst h3
     have hR2:=HR2.out
     unfold gX at hR2
     rw[if_neg (by decide),if_neg (by decide),if_neg (by decide),if_pos rfl] at hR2
     have HR5:=jI hR2
     clear hR2 HR2
     go_wp2_with fail
     refine (HTHR.out W1 acc.length [] none 0 (jQ _ _) (.empty _ _ _ _) (by decide)).mono ?_
     rintro e w6 ⟨v6,rfl,hx6,hb6⟩
     have HX6:=jI hx6
     obtain⟨A8,c8,rfl,-,-⟩:=hx6
     obtain⟨e0,e1⟩:=aG (hE.out.later hb6).r4
     have f0:=jT _ _ 0 _ _ (hE.out.later hb6).r4
     have f1:=jT _ _ 1 _ _ (hE.out.later hb6).r4
     go_wp2
     rw[HR5.out]
     exact hE.out.fin hb6 HX6.out rfl rfl rfl rfl
    have h3b:(op==3)=false:=by rw[bP];exact h3
    by_cases h4:op=4
    ·subst h4
     have hR2:=HR2.out
     unfold gX at hR2
     rw[if_neg (by decide),if_neg (by decide),if_neg (by decide),if_neg (by decide),if_pos rfl] at hR2
     have HR5:=jI hR2
     clear hR2 HR2
     go_wp2_with fail
     refine (HTHR.out W1 1 [] none 0 (jQ _ _) (.empty _ _ _ _) (by decide)).mono ?_
     rintro e w6 ⟨v6,rfl,hx6,hb6⟩
     have HX6:=jI hx6
     obtain⟨A8,c8,rfl,-,-⟩:=hx6
     obtain⟨e0,e1⟩:=aG (hE.out.later hb6).r4
     have f0:=jT _ _ 0 _ _ (hE.out.later hb6).r4
     have f1:=jT _ _ 1 _ _ (hE.out.later hb6).r4
     go_wp2
     rw[HR5.out]
     exact hE.out.fin hb6 HX6.out rfl rfl rfl rfl
    have h4b:(op==4)=false:=by rw[bP];exact h4
    have hR2:=HR2.out
    unfold gX at hR2
    rw[if_neg h1,if_neg h5,if_neg h2,if_neg h3,if_neg h4] at hR2
    simp only at hR2
    have HR5:=jI hR2
    have hG:=sS HL.out.sv name
    have HGC:=jI (sw W1 S hE.out.wd (HLS.out.keep (aj hE.out.bl hS) (fun _ _ h=>h.keep (aj hE.out.bl hS))) (fun g hg=>by have:=hS g hg;omega) HL.out.len HL.out.sv name (HH.out.grp h1 h2 h3 h4 h5) HL.out.names)
    obtain⟨G,hGG⟩:=kE (gH l name)
    rw[←hGG] at HR5 hG HGC
    have hrng:=HH.out.rng
    have hsv12:=HL.out.sv
    have hmm:=@run_makeMap prog
    clear hR2 HR2 h1 h5 h2 h3 h4 HTHR hGG
    go_wp2_with fail
    refine HGC.out.mono ?_
    rintro e w2 ⟨rfl,hb2⟩
    have hE2:=hE.out.later hb2
    have hlen:=hE2.wd.map.len underlying117 3
    obtain⟨d0,d1,d2⟩:=hE2.wd.cells
    obtain⟨N,hN⟩:=kE ((ai l).length)
    rw[←hN] at hlen HR5 hsv12
    have HE2:=jI hE2
    clear hE2 hN
    go_wp2
    go_loopw [6,111] (fun y x wr=>∃(i:Nat)(vk:Value),i≤N∧x=.int .i64 i∧y=vk∧Hid (ESt w wr b sb mb A c l S op name need wA kA ws.length wc kids.length kc (acc++iH G i) vk)∧Hid (Below w2.heap.size w2 wr∨True)) (fun _ x _=>N-(intOf x).toNat)
    case atStart=>exact⟨0,_,cu _,rfl,rfl,jI (by simpa [iH] using HE2.out),jI (Or.inr trivial)⟩
    case round=>
     obtain⟨i,vk,hi,rfl,hvk,hE3,-⟩:=hrel
     have hvk2:=hvk.symm
     clear hvk
     subst hvk2
     have hle3:(acc++iH G i).length≤1599000:=by
      rw[bD]
      have:=yK G i
      omega
     have hw3:w.heap.size+1<wr.heap.size:=jS hE3.out.r4
     by_cases hil:i<N
     ·have hiI:(i:Int)<(N:Int):=by omega
      have hi0:(0:Int)≤(i:Int):=by omega
      have hbit:=bit16 G i (by omega)
      have hsx:=vH G i
      obtain⟨acc3,hacc3⟩:=kE (acc++iH G i)
      rw[←hacc3] at hE3 hle3
      have HA3:=jI hacc3
      clear hacc3
      cases hgb:G.testBit i
      ·rw[hgb] at hbit hsx
       have HSX:=jI hsx
       clear hsx hgb
       go_wp2
       go_roundw
       case rel=>
        refine⟨i+1,vk,by omega,by go_num,rfl,jI ?_,jI (Or.inr trivial)⟩
        rw[HSX.out]
        simp only[Bool.false_eq_true,if_false,List.append_nil]
        rw[←HA3.out];exact hE3.out
       case measure=>simp[intOf];omega
      ·rw[hgb] at hbit hsx
       have HSX:=jI hsx
       clear hsx hgb
       go_wp2_with fail
       refine (yN i wr).mono ?_
       rintro e w6 ⟨v6,rfl,hx6,hb6⟩
       have hE6:=hE3.out.later hb6
       have HX6:=jI hx6
       obtain⟨A8,c8,rfl,-,-⟩:=hx6
       obtain⟨us,hv1,hv2,hv3⟩:=hE6.row
       have HV3:=jI hv3
       have HE6:=jI hE6
       have hsz6:w.heap.size+2≤w6.heap.size:=jS hE6.r4
       have hs6:=hb6.size
       clear hv3 hE6
       go_wp2_with (at_builtin;refine Cj w6 rfl (.tmp 119) (.tmp 122) rfl (w.heap.size+2) _ _ _ hv2 rfl A8 (lY i).nodes.length c8 (lY i).root rfl (by omega) hsz6 ?_;intro v' w' hown' hg' hv')
       go_roundw
       case rel=>
        have hxn:nu w6 (fun g=>w.heap.size+2≤g∧some g≠vk.ownBlock) (lY i) (.agg #[.slice A8 (lY i).nodes.length c8,.int .i64 (lY i).root]):=HX6.out.mono (fun g hg _=>⟨by omega,fun e=>by have:=(hE3.out.row.lt g e.symm).2;omega⟩)
        refine⟨i+1,v',by omega,by go_num,rfl,jI ?_,jI (Or.inr trivial)⟩
        rw[HSX.out]
        simp only[if_true]
        rw[←List.append_assoc,←HA3.out]
        exact HE6.out.push hv1 hv2 HV3.out rfl hxn hown' hg' hv' hbw
       case measure=>simp[intOf];omega
     ·obtain rfl:i=N:=by omega
      have hiI:¬(i:Int)<(i:Int):=by omega
      obtain⟨A9,c9,hvk,hc9,hL9⟩:=hE3.out.row.list uI
      obtain⟨ks,hks⟩:=kE (acc++iH G i)
      have hxs:∀x∈ks,kY x:=fun x hx=>by
       rw[hks] at hx
       rcases List.mem_append.1 hx with h|h
       ·exact hlim.out x h
       ·exact yJ _ _ x h
      rw[←hks] at hE3 hle3 hvk hc9 hL9 HR5
      subst hvk
      have CZ:xO ks:=xO.of (by omega) hxs
      have hR6:=HR5.out
      clear HR5
      obtain⟨K,hK⟩:=kE ks.length
      rw[←hK] at hle3 hE3 hR6 hc9 ⊢
      have hK9:K≤c9:=by omega
      have HTHR:=jI (show ∀(W:World)(nd:Int),Below wr.heap.size wr W→Calls prog 69 #[.int .i64 nd,.slice none 0 0,.slice A9 K c9] W (pU (lK nd [] ks).1 (lK nd [] ks).2 W) from
       fun W nd hb=>by
        rw[hK]
        exact F8 nd [] ks none A9 0 c9 W (·<W.heap.size) (.empty _ _ _ _) ((hL9.keep (P':=nu W (w.heap.size+2≤·)) (aA hb) (fun _ _ h=>(h.keep (aA hb)).mono (fun g hg _=>hg))).mono (fun g _ hl=>hl) (by decide) (fun _ _ h=>h.mono (fun g _ hl=>hl))) (fun g hg=>hg) (by decide) CZ)
      have HR5:=jI hR6
      have HM0:=jI (lG.made prog wr 3)
      have hop:=inI op hrng
      have HK:=jI hK
      have HKS:=jI hks
      clear hK hks hc9 hR6 hL9 CZ hxs hc6 hrng
      obtain⟨wm,hwm⟩:=kE (wr.alloc (.map #[] 0))
      have hbm:Below wr.heap.size wr wm:=by rw[hwm];exact hbA _ _
      have uH:=jI (show ∀W,But (fun x=>x=wr.heap.size) (wr.alloc (.map #[] 0)) W→Below wr.heap.size wr W from fun W hW=>(hbA _ _).trans (hW.below (fun g hg=>by omega) (by simp)))
      clear hwm hbm wm
      have hsz9:w.heap.size<wr.heap.size:=by omega
      have HKC:=jI (show ∀W,But (fun x=>x=wr.heap.size) (wr.alloc (.map #[] 0)) W→W.cell? ⟨w.heap.size,0,none⟩=some (.int .i64 op) from fun W hW=>by
       rw[cell_of_block ((uH.out W hW).block _ hsz9)]
       exact (aV hE3.out.r3).1)
      go_wp2_with (first|(refine eX _ rfl _ _ _ 137 rfl 3 3 iE underlying137 wr.heap.size 0 _ rfl HM0.out (by decide) 6 (inI _ (by decide)) rfl (.int .i64 ((K / 2+1:Nat):Int)) ?hv ?hk;(case hv=>go_simp);intro w1 m1 g1 z1)|(refine eX _ rfl _ _ _ 137 rfl 3 3 iE underlying137 wr.heap.size 1 _ rfl m1 (by decide) 7 (inI _ (by decide)) rfl (.int .i64 (K:Nat)) rfl ?_;intro w2 m2 g2 z2)|(refine eX _ rfl _ _ _ 137 rfl 3 3 iE underlying137 wr.heap.size 2 _ rfl m2 (by decide) 8 (inI _ (by decide)) rfl (.int .i64 1) rfl ?_;intro w3 m3 g3 z3;have kc:=HKC.out w3 (((But.bE (T:=fun x=>x=wr.heap.size) g1 rfl).trans (.bE g2 rfl)).trans (.bE g3 rfl));have hfin:=uH.out w3 (((But.bE (T:=fun x=>x=wr.heap.size) g1 rfl).trans (.bE g2 rfl)).trans (.bE g3 rfl));have m6:lG prog w3 3 wr.heap.size 3 (ndF K):=m3)|(at_lookup;refine vD _ rfl _ _ 137 rfl 3 3 iE underlying137 (eU _) wr.heap.size 3 _ rfl m6 op hop rfl _ (ndF_getD K op) ?_)|fail)
      refine (HTHR.out w3 (ndI K op) hfin).mono ?_
      rintro e w6 ⟨v6,rfl,hx6,hb6⟩
      have hb69:Below wr.heap.size wr w6:=hfin.trans (hb6.mono hfin.size)
      have HX6:=jI hx6
      obtain⟨A8,c8,rfl,-,-⟩:=hx6
      obtain⟨e0,e1⟩:=aG (hE3.out.later hb69).r4
      have f0:=jT _ _ 0 _ _ (hE3.out.later hb69).r4
      have f1:=jT _ _ 1 _ _ (hE3.out.later hb69).r4
      go_wp2
      rw[HR5.out]
      exact hE3.out.fin hb69 (HX6.out.mono (fun g hg _=>by have:=hfin.size;omega)) rfl rfl rfl rfl
end
section
open Go.RowKit
open _root_.Go.Proofs.Tryz
theorem ndLim_of{x:Ex}(h:kY x):NdLim x.nodes:=fun n hn=>⟨by have:=(h.each n hn).1;omega,by have:=(h.each n hn).2.1;omega⟩
theorem wsets_any{b sb mb c:Nat}{A:Option Addr}{l:List Dc}(w:World)(S:Nat→Prop)(hw:Wd w b sb mb A c l)(hls:aO (dS w S) w S 22 A l)(hS:∀g,S g→g<w.heap.size)(t:Tm)(v:Value)(ht:dX w S t v)(x:Ex)(hx:EOk b sb mb A c l t (x,0))(hxl:kY x)(hz:Tz w):
  Calls prog 75 #[.pointer (some ⟨b,0,none⟩),v] w (Bz (pu x).1 (pu x).2 w):=by
 have hbA:∀(W:World)(o:Obj),Below W.heap.size W (W.alloc o):=fun W o=>(jQ _ _).alloc (aP _) o
 have ht2:=ht
 obtain⟨o1,m1,d1,wA1,wn1,wc1,kA1,kn1,kc1,rfl⟩:=ht2.form
 clear ht2
 obtain⟨W0,hW0⟩:=kE (w.alloc (.cells #[.int .i64 o1,.string m1,.int .i64 d1,.slice wA1 wn1 wc1,.slice kA1 kn1 kc1] 26))
 have hb0:Below w.heap.size w W0:=by rw[hW0];exact hbA _ _
 have HC:=jI (hx _ W0 S (hw.below hb0) (hls.keep (aj hb0 hS) (fun _ _ h=>h.keep (aj hb0 hS))) (ht.keep (aj hb0 hS)) (fun g hg=>by have:=hS g hg;have:=hb0.size;omega))
 have H0:=jI hW0
 have HZ:=jI hz
 obtain⟨fo,hfo⟩:=kE (pu x)
 have HF:=jI (fun(W:World)(vx:Value)(hv:nu W (·<W.heap.size) x vx)(hzW:Tz W)=>Jj x vx W (·<W.heap.size) hv (fun g hg=>hg) (ndLim_of hxl) hzW)
 simp only[←hfo] at HF
 rw[←hfo]
 clear hw hls hS ht hx hW0 hz hfo hxl
 go_enter func75,ntmps75
 go_wp2_with fail
 rw[←H0.out]
 refine HC.out.mono ?_
 rintro e w2 ⟨v2,rfl,hx2,hb2⟩
 have HX2:=jI hx2
 obtain⟨A2,c2,rfl,-,-⟩:=hx2
 have hbw2:=hb0.trans (hb2.mono hb0.size)
 have hbn:=hbA w2 (.cells #[.slice A2 x.nodes.length c2,.int .i64 x.root] 38)
 have jC:=hbw2.trans (hbn.mono hbw2.size)
 have HC2:=jI (HF.out _ _ ((HX2.out.keep (aA hbn)).mono (fun g _ hl=>hl)) (HZ.out.below jC (aP _)))
 clear HC
 go_wp2_with fail
 refine HC2.out.mono ?_
 rintro e w4 ⟨A4,c4,rfl,hs4,hc4,hb4⟩
 go_wp2
 go_ret2
 exact⟨A4,c4,rfl,hs4.mono (fun g hg _=>by have:=jC.size;omega) (by decide),hc4,jC.trans (hb4.mono jC.size)⟩
end
section
open Go.RowKit
open _root_.Go.Proofs.Tryz
theorem nanI_any(x:Int)(w:World):Calls prog 248 #[.int .i64 x] w fun e w'=>e=.returned (.bool false)∧w'=w:=by
 go_enter func248,ntmps248
 go_wp2
 go_ret
 refine⟨?_,rfl⟩
 first|rfl|(show Ending.returned (.bool (x != x))=_;simp)
theorem nanS_any(x:Int)(w:World):Calls prog 249 #[.int .u16 x] w fun e w'=>e=.returned (.bool false)∧w'=w:=by
 go_enter func249,ntmps249
 go_wp2
 go_ret
 refine⟨?_,rfl⟩
 first|rfl|(show Ending.returned (.bool (x != x))=_;simp)
def xE(x y:Int):Int:=if x<y then -1 else if y<x then 1 else 0
def orI(x y:Int):Int:=if x≠0 then x else y
def vN(a b:Nat):Int:=orI (xE (mem a).length (mem b).length) (xE a b)
def wZ(a b:Nat × Nat):Int:=orI (vN a.1 b.1) (vN a.2 b.2)
theorem cmpI_any(x y:Int)(w:World):Calls prog 233 #[.int .i64 x,.int .i64 y] w fun e w'=>e=.returned (.int .i64 (xE x y))∧w'=w:=by
 obtain⟨r,hr⟩:=kE (xE x y)
 rw[←hr]
 unfold xE at hr
 have HR:=jI hr
 clear hr
 go_enter func233,ntmps233
 go_wp2_with (first|(go_at_call 248;with_reducible refine (nanI_any _ _).mono ?_;rintro e w' ⟨rfl,rfl⟩)|fail)
 all_goals go_ret
 all_goals refine⟨?_,rfl⟩
 all_goals (rw[HR.out];refine congrArg (fun z:Int=>Ending.returned (.int .i64 z)) ?_;first|rfl|grind)
theorem cmpS_any(x y:Int)(w:World):Calls prog 234 #[.int .u16 x,.int .u16 y] w fun e w'=>e=.returned (.int .i64 (xE x y))∧w'=w:=by
 obtain⟨r,hr⟩:=kE (xE x y)
 rw[←hr]
 unfold xE at hr
 have HR:=jI hr
 clear hr
 go_enter func234,ntmps234
 go_wp2_with (first|(go_at_call 249;with_reducible refine (nanS_any _ _).mono ?_;rintro e w' ⟨rfl,rfl⟩)|fail)
 all_goals go_ret
 all_goals refine⟨?_,rfl⟩
 all_goals (rw[HR.out];refine congrArg (fun z:Int=>Ending.returned (.int .i64 z)) ?_;first|rfl|grind)
theorem or2_any(x y:Int)(b c:Nat)(w:World)(hb:w.heap[b]?=some (.cells #[.int .i64 x,.int .i64 y] 3 (0,0))):
  Calls prog 207 #[.slice (some ⟨b,0,none⟩) 2 c] w fun e w'=>e=.returned (.int .i64 (orI x y))∧w'=w:=by
 have c0:w.cell? ⟨b,0,none⟩=some (.int .i64 x):=j5 w b 0 _ _ _ hb
 have c1:w.cell? ⟨b,1,none⟩=some (.int .i64 y):=j5 w b 1 _ _ _ hb
 obtain⟨r,hr⟩:=kE (orI x y)
 rw[←hr]
 unfold orI at hr
 have HR:=jI hr
 clear hr hb
 go_enter func207,ntmps207
 go_wp2
 go_loopw [8] (fun z wr=>∃k:Nat,k≤2∧z=.int .i64 k∧wr=w∧(0<k→x=0)∧(1<k→y=0)) (fun z _=>2-(intOf z).toNat)
 case atStart=>exact⟨0,by omega,rfl,rfl,by omega,by omega⟩
 case round=>
  obtain⟨k,hk,rfl,rfl,h1,h2⟩:=hrel
  by_cases k0:k=0
  ·subst k0
   by_cases hx:x=0
   ·subst hx
    go_wp2
    go_roundw
    case rel=>exact⟨1,by omega,rfl,by simp⟩
    case measure=>simp[intOf]
   ·have hxI:(x != 0)=true:=by simpa using hx
    have hx2:=HR.out
    rw[if_pos hx] at hx2
    have HX2:=jI hx2
    clear hx2 hx
    go_wp2
    go_ret
    exact⟨by rw[HX2.out];rfl,rfl⟩
  ·by_cases k1:k=1
   ·subst k1
    have hx:=h1 (by omega)
    by_cases hy:y=0
    ·subst hy
     go_wp2
     go_roundw
     case rel=>exact⟨2,by omega,rfl,by simp[hx]⟩
     case measure=>simp[intOf]
    ·have hyI:(y != 0)=true:=by simpa using hy
     have hx2:=HR.out
     rw[if_neg (by rw[Decidable.not_not];exact hx)] at hx2
     have HX2:=jI hx2
     clear hx2 hy hx h1 h2
     go_wp2
     go_ret
     exact⟨by rw[HX2.out];rfl,rfl⟩
   ·obtain rfl:k=2:=by omega
    have hx:=h1 (by omega)
    have hy:=h2 (by omega)
    have hx2:=HR.out
    rw[if_neg (by rw[Decidable.not_not];exact hx),hy] at hx2
    have HX2:=jI hx2
    clear hx2 hx hy h1 h2
    go_wp2
    go_ret
    exact⟨by rw[HX2.out];rfl,rfl⟩
def J4(x:Nat × Nat):Value:=.agg #[.int .u16 (x.1:Nat),.int .u16 (x.2:Nat)]
theorem sU(x:Nat × Nat)(h1:x.1<65536)(h2:x.2<65536)(w:World):Calls prog 178 #[J4 x] w fun e w'=>e=.returned (.int .u16 (x.1|||x.2:Nat))∧Below w.heap.size w w':=by
 obtain⟨a,b⟩:=x
 have hob:=u16_or_nat a b h1 h2
 unfold J4
 go_enter func178,ntmps178
 go_wp2
 go_ret
 exact⟨by first|rfl|(rw[←hob];rfl),(jQ _ _).alloc (aP _) _⟩
def J5(x:Nat × Nat):Nat:=if ¬(x.1|||x.2)&&&4095=(x.1|||x.2) then 7 else if x.1&&&x.2≠0 then 1 else 0
theorem Dh(x:Nat × Nat)(h1:x.1<65536)(h2:x.2<65536)(w:World):Calls prog 141 #[J4 x] w fun e w'=>e=.returned (.int .i64 (J5 x:Nat))∧Below w.heap.size w w':=by
 have hbA:∀(W:World)(o:Obj),Below W.heap.size W (W.alloc o):=fun W o=>(jQ _ _).alloc (aP _) o
 obtain⟨a,b⟩:=x
 obtain⟨W0,hW0⟩:=kE (w.alloc (.cells #[.int .u16 (a:Nat),.int .u16 (b:Nat)] 148))
 have hb0:Below w.heap.size w W0:=by rw[hW0];exact hbA _ _
 have hr0:W0.heap[w.heap.size]?=some (.cells #[.int .u16 (a:Nat),.int .u16 (b:Nat)] 148 (0,0)):=by rw[hW0];exact jR _ _
 obtain⟨d0,d1⟩:=aG hr0
 have hlt:=jS hr0
 have HF:=jI (sU (a,b) h1 h2 W0)
 have hor:a|||b<65536:=Nat.or_lt_two_pow (n:=16) h1 h2
 obtain⟨q,hq⟩:=kE (a|||b)
 obtain⟨r,hr⟩:=kE (J5 (a,b))
 rw[←hr]
 unfold J5 at hr
 simp only[←hq] at HF hr hor
 have hl:=oP q 4095 hor (by decide)
 have hz:=mo q 4095 hor (by decide)
 have ha:=u16_and_nat a b h1 h2
 obtain⟨p,hp⟩:=kE (a&&&b)
 rw[←hp] at hr ha
 obtain⟨t,ht⟩:=kE (uw q 4095)
 rw[←ht] at hl hz
 simp only[←hz] at hr
 have HR:=jI hr
 have H0:=jI hW0
 have HD:=jI (show ∀X,Below W0.heap.size W0 X→X.cell? ⟨w.heap.size,0,none⟩=some (.int .u16 (a:Nat))∧X.cell? ⟨w.heap.size,1,none⟩=some (.int .u16 (b:Nat)) from fun X hX=>aG ((hX.block _ hlt).trans hr0))
 clear hq hp ht hz hr hW0 hr0
 have hlI:bits .andNot .u16 (q:Int) 4095=(t:Int):=hl
 clear hl
 unfold J4 at HF ⊢
 go_enter func141,ntmps141
 go_wp2_with fail
 rw[←H0.out]
 refine HF.out.mono ?_
 rintro e w2 ⟨rfl,hb2⟩
 obtain⟨x0,x1⟩:=HD.out w2 hb2
 have hfin:=hb0.trans (hb2.mono hb0.size)
 go_wp2
 all_goals go_ret
 all_goals refine⟨?_,hfin⟩
 all_goals (rw[HR.out];refine congrArg (fun z:Int=>Ending.returned (.int .i64 z)) ?_;simp_all only[bne_iff_ne,ne_eq];first|rfl|grind)
def covers(x y:Nat × Nat):Bool:=decide (y.1&&&x.1=y.1)&&decide ((y.1|||y.2)&&&(x.1|||x.2)=(y.1|||y.2))
structure Two(B b2 b3:Nat)(w W:World)(x y:Nat × Nat):Prop where
 r2:W.heap[b2]?=some (.cells #[.int .u16 (x.1:Nat),.int .u16 (x.2:Nat)] 148 (0,0))
 r3:W.heap[b3]?=some (.cells #[.int .u16 (y.1:Nat),.int .u16 (y.2:Nat)] 148 (0,0))
 b:Below B w W
theorem Two.later{B b2 b3:Nat}{w W W':World}{x y:Nat × Nat}(h:Two B b2 b3 w W x y)(hb:Below W.heap.size W W')(hB:B≤W.heap.size):Two B b2 b3 w W' x y:=
 ⟨(hb.block _ (jS h.r2)).trans h.r2,(hb.block _ (jS h.r3)).trans h.r3,h.b.trans (hb.mono hB)⟩
theorem Two.drew{B b2 b3:Nat}{w W:World}{x y:Nat × Nat}(h:Two B b2 b3 w W x y):Two B b2 b3 w W.drew x y:=⟨h.r2,h.r3,h.b.trans ⟨rfl,rfl,rfl,aP _,fun _ _=>rfl⟩⟩
theorem JC(x y:Nat × Nat)(hx:x.1<65536∧x.2<65536)(hy:y.1<65536∧y.2<65536)(w:World):Calls prog 184 #[J4 x,J4 y] w fun e w'=>e=.returned (.bool (covers x y))∧Below w.heap.size w w':=by
 have hbA:∀(W:World)(o:Obj),Below W.heap.size W (W.alloc o):=fun W o=>(jQ _ _).alloc (aP _) o
 obtain⟨p,hp⟩:=kE (x.1|||x.2)
 obtain⟨q,hq⟩:=kE (y.1|||y.2)
 have HC1:=jI (fun W=>sU x hx.1 hx.2 W)
 have HC2:=jI (fun W=>sU y hy.1 hy.2 W)
 have hp16:p<65536:=by rw[hp];exact Nat.or_lt_two_pow (n:=16) hx.1 hx.2
 have hq16:q<65536:=by rw[hq];exact Nat.or_lt_two_pow (n:=16) hy.1 hy.2
 simp only[←hp] at HC1
 simp only[←hq] at HC2
 obtain⟨r,hr⟩:=kE (covers x y)
 rw[←hr]
 unfold covers at hr
 rw[←hp,←hq] at hr
 have hl1:=oP y.1 x.1 hy.1 hx.1
 have hl2:=oP q p hq16 hp16
 have hz1:=mo y.1 x.1 hy.1 hx.1
 have hz2:=mo q p hq16 hp16
 obtain⟨t,ht⟩:=kE (uw y.1 x.1)
 obtain⟨u,hu⟩:=kE (uw q p)
 rw[←ht] at hl1 hz1
 rw[←hu] at hl2 hz2
 simp only[←hz1,←hz2] at hr
 have HR:=jI hr
 obtain⟨W0,hW0⟩:=kE ((w.alloc (.cells #[.int .u16 (x.1:Nat),.int .u16 (x.2:Nat)] 148)).alloc (.cells #[.int .u16 (y.1:Nat),.int .u16 (y.2:Nat)] 148))
 have h2:Two w.heap.size w.heap.size (w.heap.size+1) w W0 x y:=⟨by rw[hW0];exact heap_alloc2_old _ _ _,by rw[hW0];exact heap_alloc2_new _ _ _,by rw[hW0];exact (hbA _ _).alloc (by simp) _⟩
 have H0:=jI hW0
 have H2:=jI h2
 obtain⟨c0,c1⟩:=aG h2.r2
 obtain⟨c2,c3⟩:=aG h2.r3
 clear hp hq hW0 h2 hx hy ht hu hz1 hz2 hr
 unfold J4 at HC1 HC2 ⊢
 by_cases ht0:t=0
 ·have htI:((t:Int)==0)=true:=by rw[ht0];rfl
  have hr2:=HR.out
  simp only[ht0,decide_true,Bool.true_and] at hr2
  have HR2:=jI hr2
  clear hr2 ht0 HR c0 c1 c2 c3
  go_enter func184,ntmps184
  go_upto_region 1 with fail
  rw[←H0.out]
  refine av.start (fun W'=>Two w.heap.size w.heap.size (w.heap.size+1) w W' x y) [] [0,1,2,3,4,5,6,7,9] (by kernel_rfl) H2.out.drew (fun hHeld=>?_)
  repeat
   refine av.take (v:=?_) rfl (by decide +kernel) (by rfl) (fun _ _ _ h=>h) hHeld ?_ ?_
   rotate_left
   focus
    intro w9 h9
    obtain⟨k0,k1⟩:=aG h9.r2
    obtain⟨k2,k3⟩:=aG h9.r3
    go_simp
    (try with_reducible rfl)
    done
   simp only[Act.put,List.getElem_toArray,List.getElem_cons_succ,List.getElem_cons_zero,List.setIfInBounds_toArray,List.set_cons_zero,List.set_cons_succ]
  repeat'
   first
   |refine av.one 8 rfl (by decide +kernel) (by rfl) (fun K hK=>?_)
   |refine av.one 10 rfl (by decide +kernel) (by rfl) (fun K hK=>?_)
   |refine av.one 11 rfl (by decide +kernel) (by rfl) (fun K hK=>?_)
   |refine av.one 12 rfl (by decide +kernel) (by rfl) (fun K hK=>?_)
   |refine av.one 13 rfl (by decide +kernel) (by rfl) (fun K hK=>?_)
   |refine av.one 14 rfl (by decide +kernel) (by rfl) (fun K hK=>?_)
   |refine av.two 8 10 rfl rfl (by decide +kernel) (by rfl) (by rfl) (fun K hK=>?_) (fun K hK=>?_)
   |go_simp
    first
    |go_at_call 178
     first
     |(with_reducible refine (HC1.out _).mono ?_);rintro e Y1 ⟨rfl,hb⟩
     |(with_reducible refine (HC2.out _).mono ?_);rintro e Y2 ⟨rfl,hb⟩
     have hHeld:=hHeld.later hb hHeld.b.size
     try go_simp
     refine hK.out _ _ (by first|exact fun h=>absurd h (by decide)|exact fun _=>hHeld) ?_
     clear hK K
    |refine hK.out _ _ (fun _=>hHeld) ?_
     clear hK K
  all_goals
   refine av.done (by decide +kernel) ?_
   go_wp2_with fail
   go_ret
   refine⟨?_,hHeld.b⟩
   rw[HR2.out]
   refine congrArg (fun z=>Ending.returned (.bool z)) ?_
   try simp only[beq_eq_decide]
   try (rw[Bool.eq_iff_iff];simp;try omega)
 ·have htI:((t:Int)==0)=false:=by rw[bP];omega
  have hr2:=HR.out
  simp only[ht0,decide_false,Bool.false_and] at hr2
  have HR2:=jI hr2
  have hn0:¬w.heap.size=w.heap.size+1:=by omega
  clear hr2 ht0 HR
  go_enter func184,ntmps184
  go_upto_region 1 with fail
  rw[←H0.out]
  go_quiet (fail)
  go_wp2_with fail
  go_ret
  exact⟨by rw[HR2.out];rfl,below_drewN H2.out.b nq⟩
def kg(a b:Nat × Nat):Bool:=decide (a≠b)&&covers b a
theorem over_any(a b:Nat × Nat)(ha:a.1<65536∧a.2<65536)(hb:b.1<65536∧b.2<65536)(B:Nat)(w:World)(hB:w.heap[B]?=some (.cells #[.int .u16 (a.1:Nat),.int .u16 (a.2:Nat)] 148 (0,0))):
  Calls prog 183 #[J4 b,.pointer (some ⟨B,0,none⟩)] w fun e w'=>e=.returned (.bool (kg a b))∧Below w.heap.size w w':=by
 have hbA:∀(W:World)(o:Obj),Below W.heap.size W (W.alloc o):=fun W o=>(jQ _ _).alloc (aP _) o
 obtain⟨W0,hW0⟩:=kE (w.alloc (.cells #[.int .u16 (b.1:Nat),.int .u16 (b.2:Nat)] 148))
 have hb0:Below w.heap.size w W0:=by rw[hW0];exact hbA _ _
 have hr0:W0.heap[w.heap.size]?=some (.cells #[.int .u16 (b.1:Nat),.int .u16 (b.2:Nat)] 148 (0,0)):=by rw[hW0];exact jR _ _
 have hr1:=(hb0.block _ (jS hB)).trans hB
 obtain⟨c0,c1⟩:=aG hr0
 obtain⟨c2,c3⟩:=aG hr1
 have HC:=jI (JC b a hb ha W0)
 have H0:=jI hW0
 obtain⟨cv,hcv⟩:=kE (covers b a)
 obtain⟨r,hr⟩:=kE (kg a b)
 rw[←hr]
 unfold kg at hr
 rw[←hcv] at hr HC
 have HR:=jI hr
 have hne:¬w.heap.size=B:=fun e=>by have:=jS hB;omega
 clear hW0 hr0 hr1 hB hr hcv
 unfold J4 at HC ⊢
 by_cases h1:a.1=b.1
 ·by_cases h2:a.2=b.2
  ·have hab:a=b:=Prod.ext h1 h2
   have hr2:=HR.out
   rw[decide_eq_false (by rw[Decidable.not_not];exact hab),Bool.false_and] at hr2
   have HR2:=jI hr2
   have e1:(((a.1:Nat):Int)==((b.1:Nat):Int))=true:=by rw[h1];simp
   have e2:(((a.2:Nat):Int)==((b.2:Nat):Int))=true:=by rw[h2];simp
   clear hr2 HR hab h1 h2
   go_enter func183,ntmps183
   go_upto_region 1 with fail
   rw[←H0.out]
   go_wp2_with fail
   go_ret
   exact⟨by rw[HR2.out];rfl,hb0⟩
  ·have hab:a≠b:=fun e=>h2 (by rw[e])
   have hr2:=HR.out
   rw[decide_eq_true hab,Bool.true_and] at hr2
   have HR2:=jI hr2
   have e1:(((a.1:Nat):Int)==((b.1:Nat):Int))=true:=by rw[h1];simp
   have e2:(((a.2:Nat):Int)==((b.2:Nat):Int))=false:=by rw[bP];omega
   clear hr2 HR hab h1 h2
   go_enter func183,ntmps183
   go_upto_region 1 with fail
   rw[←H0.out]
   go_wp2_with fail
   refine HC.out.mono ?_
   rintro e w2 ⟨rfl,hb2⟩
   go_wp2_with fail
   go_ret
   exact⟨by rw[HR2.out];rfl,hb0.trans (hb2.mono hb0.size)⟩
 ·have hab:a≠b:=fun e=>h1 (by rw[e])
  have hr2:=HR.out
  rw[decide_eq_true hab,Bool.true_and] at hr2
  have HR2:=jI hr2
  have e1:(((a.1:Nat):Int)==((b.1:Nat):Int))=false:=by rw[bP];omega
  clear hr2 HR hab h1
  go_enter func183,ntmps183
  go_upto_region 1 with fail
  rw[←H0.out]
  go_wp2_with fail
  refine HC.out.mono ?_
  rintro e w2 ⟨rfl,hb2⟩
  go_wp2_with fail
  go_ret
  exact⟨by rw[HR2.out];rfl,hb0.trans (hb2.mono hb0.size)⟩
end
end Go.Proofs.YtmohibkomlhlaaaGreatDoor
