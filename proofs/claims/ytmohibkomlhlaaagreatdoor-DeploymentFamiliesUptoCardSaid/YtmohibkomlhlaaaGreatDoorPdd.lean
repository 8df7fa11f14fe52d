/- The contract of threshold: a threshold of expressions, which stand in front of it. iX of a size up to a bound. The sizes of expressions that terms stand for. No condition. -/
import Derived.Test.YtmohibkomlhlaaaGreatDoorPdc
set_option maxRecDepth 100000
set_option maxHeartbeats 4000000
namespace Go.Proofs.YtmohibkomlhlaaaGreatDoor
section
open Go.RowKit
open _root_.Go.Proofs.Tryz
theorem mG(l:List Int)(A:Option Addr)(c:Nat)(w:World)(S:Nat→Prop)(h:ak w S 1 A l.length (bY l))(hl:l.length≤1000000000):
  Calls prog 99 #[.slice A l.length c] w fun e w'=>∃v,e=.returned v∧w'.ownsRow w.heap.size 3 1 v l.length (bY l)∧Below w.heap.size w w':=by
 by_cases h0:l.length=0
 ·obtain rfl:l=[]:=List.length_eq_zero_iff.1 h0
  cases A with
  |none=>exact (Tryz.slices_Clone_int_nil 0 c w).mono fun e w' ⟨he,hw⟩=>⟨_,he,World.ownsRow_nil _ _ _ _,by rw[hw];exact jQ _ _⟩
  |some a=>exact (Tryz.slices_Clone_int_zero a c w).mono fun e w' ⟨v,he,ho,_,hb⟩=>⟨v,he,ho,hb⟩
 ·obtain⟨g,o,rfl,-,hc⟩:=h.cells (by omega)
  refine (Tryz.slices_Clone_int g o l.length c l w (aP _) (by omega) (fun j hj=>hc j _ (mV l j hj))).mono fun e w' ⟨v,he,ho,_,hb⟩=>⟨v,he,?_,hb⟩
  rw[List.take_length] at ho
  exact ho
structure xO(ks:List Ex):Prop where
 len:ks.length≤1600000
 each:∀x∈ks,x.nodes.length≤60∧(0≤x.root∧x.root≤1000000)∧∀n∈x.nodes,n.ws.length≤1600000∧n.kids.length≤1600000∧∀k∈n.kids,0≤k∧k≤1000000
theorem exGo_len{ks:List Ex}(h:∀x∈ks,x.nodes.length≤60):(iV ks).1.length≤60 * ks.length:=by
 have key:∀(ks:List Ex),(∀x∈ks,x.nodes.length≤60)→∀a:List Nd × List Int,((ks.foldl (fun a k=>(a.1++k.nodes.map (fB a.1.length),a.2++[(a.1.length:Int)+k.root])) a).1).length≤a.1.length+60 * ks.length:=by
  intro ks
  induction ks with
  |nil=>intro _ a;simp
  |cons k r ih=>
   intro h a
   rw[List.foldl_cons]
   refine cK (ih (fun x hx=>h x (List.mem_cons_of_mem _ hx)) _) ?_
   have:=h k fO
   simp only[bD,List.length_map,fM]
   omega
 have:=key ks h ([],[])
 simpa [iV] using this
theorem Dt(ks:List Ex):(iV ks).2.length=ks.length:=by
 have key:∀(ks:List Ex)(a:List Nd × List Int),((ks.foldl (fun a k=>(a.1++k.nodes.map (fB a.1.length),a.2++[(a.1.length:Int)+k.root])) a).2).length=a.2.length+ks.length:=by
  intro ks
  induction ks with
  |nil=>intro a;simp
  |cons k r ih=>intro a;rw[List.foldl_cons,ih];simp;omega
 have:=key ks ([],[])
 simpa [iV] using this
def pU(x:Ex)(er:Nat)(w:World)(e:Ending)(w':World):Prop:=∃v,e=.returned (.tuple #[v,.int .i64 (er:Nat)])∧nu w' (w.heap.size≤·) x v∧Below w.heap.size w w'
theorem own_set{W:World}{base e s n b:Nat}{v:Value}{xs:List Value}(h:W.ownsRow base e s v n xs)(hb:b<base)(o:Nat)(u:Value):(W.setCell ⟨b,o,none⟩ u).ownsRow base e s v n xs:=
 jl h (fun g e=>kC W ⟨b,o,none⟩ u g (by have:=(h.lt g e).1;show g≠b;omega))
theorem own_ne{W:World}{base e s n b:Nat}{v:Value}{xs:List Value}(h:W.ownsRow base e s v n xs){cs:Array Value}{T:TypeId}{fr:Nat × Nat}(hb:W.heap[b]?=some (.cells cs T fr))(hne:e≠T):v.ownBlock≠some b:=by
 intro hv
 rcases h.2 with ⟨rfl,-⟩|⟨g1,c1,cur1,rfl,-,h1,-⟩
 ·cases hv
 ·simp only[Value.ownBlock,Option.some.injEq] at hv
  rw[hv,hb] at h1
  simp only[Option.some.injEq,Obj.cells.injEq] at h1
  exact hne h1.2.1.symm
theorem Hq(l:List Int)(F:Int)(i:Nat)(h:i<l.length):(bY ((l.take i).map (·+F)++l.drop i)).set i (.int .i64 (l[i]+F))=bY ((l.take (i+1)).map (·+F)++l.drop (i+1)):=by
 have e:((l.take i).map (·+F)).length=i:=by rw[List.length_map,fH];omega
 rw[fE h,cO h,List.map_append,bY,bY,List.map_append,List.map_cons,List.map_append,List.map_append]
 rw[List.set_append_right _ _ (by rw[List.length_map,e];exact aP _),List.length_map,e,Nat.sub_self,List.set_cons_zero]
 simp
theorem jJ{W:World}{b:Nat}{u v u' v':Value}{T:TypeId}(h:W.heap[b]?=some (.cells #[u,v] T (0,0))):((W.setCell ⟨b,0,none⟩ u').setCell ⟨b,1,none⟩ v').heap[b]?=some (.cells #[u',v'] T (0,0)):=
 aF (aF h u') v'
theorem own_sees{w:World}{base e size c n:Nat}{A:Option Addr}{xs:List Value}(h:w.ownsRow base e size (.slice A n c) n xs):ak w (fun g=>(Value.slice A n c).ownBlock=some g) size A n xs:=by
 refine⟨h.1,fun hn=>?_⟩
 obtain⟨g,o,e,-,hc⟩:=(ak.own h).2 hn
 exact⟨g,o,e,by rw[e];rfl,hc⟩
structure TSt(w W:World)(B6 B8:Nat)(need:Int)(ws:List Int)(wA:Option Addr)(wc:Nat)(acc:List Nd)(kids:List Int)(vn vk:Value):Prop where
 b:Below w.heap.size w W
 lo:w.heap.size≤B6∧B6<B8
 r6:W.heap[B6]?=some (.cells #[.slice none 0 0,.int .i64 0] 38 (0,0))
 r8:W.heap[B8]?=some (.cells #[.int .i64 2,.int .i64 0,.int .i64 need,.slice wA ws.length wc,vk] 79 (0,0))
 r9:W.heap[B8+1]?=some (.cells #[vn,.int .i64 0] 38 (0,0))
 hws:ak W (fun g=>B6<g∧g<B8) 1 wA ws.length (bY ws)
 own:W.ownsRow (B8+2) 3 1 vk kids.length (bY kids)
 row:dZ qB W (fun g=>B8+2≤g∧some g≠vk.ownBlock) (B8+2) 79 5 vn acc
section
variable {w W W':World} {B6 B8:Nat} {need:Int} {ws:List Int} {wA:Option Addr} {wc:Nat} {acc:List Nd} {kids:List Int} {vn vk:Value}
theorem sI{base base' e e' s s' n n':Nat}{u v:Value}{xs ys:List Value}(h:W.ownsRow base e s u n xs)(k:W.ownsRow base' e' s' v n' ys)(hne:e≠e'):∀g,u.ownBlock=some g→v.ownBlock≠some g:=by
 intro g hg hv
 rcases h.2 with ⟨rfl,-⟩|⟨g1,c1,cur1,rfl,-,h1,-⟩
 ·cases hg
 ·rcases k.2 with ⟨rfl,-⟩|⟨g2,c2,cur2,rfl,-,h2,-⟩
  ·cases hv
  ·simp only[Value.ownBlock,Option.some.injEq] at hg hv
   rw[hg] at h1
   rw[hv,h1] at h2
   simp only[Option.some.injEq,Obj.cells.injEq] at h2
   exact hne h2.2.1
theorem TSt.later(h:TSt w W B6 B8 need ws wA wc acc kids vn vk)(hb:Below W.heap.size W W'):TSt w W' B6 B8 need ws wA wc acc kids vn vk where
 b:=h.b.trans (hb.mono h.b.size)
 lo:=h.lo
 r6:=(hb.block _ (jS h.r6)).trans h.r6
 r8:=(hb.block _ (jS h.r8)).trans h.r8
 r9:=(hb.block _ (jS h.r9)).trans h.r9
 hws:=h.hws.keep (aA hb)
 own:=own_below h.own hb (aP _)
 row:=h.row.keep iM (aA hb) (fun g hg=>hb.block g (h.row.lt g hg).2)
theorem TSt.size(h:TSt w W B6 B8 need ws wA wc acc kids vn vk):B8+2≤W.heap.size:=jS h.r9
theorem TSt.node(h:TSt w W B6 B8 need ws wA wc acc kids vn vk){vs:List Value}(hv1:vs.length=acc.length)(hv2:W.ownsRow (B8+2) 79 5 vn acc.length (vs.flatMap cellsOf))(hv3:∀(i:Nat)(x:Nd)(u:Value),acc[i]?=some x→vs[i]?=some u→qB W (fun g=>(B8+2≤g∧some g≠vk.ownBlock)∧some g≠vn.ownBlock) x u)
  {n:Nd} {u v':Value} {news:List Value} (hn:cellsOf u=news) (hp:qB W (fun g=>(B8+2≤g∧some g≠vk.ownBlock)∧some g≠vn.ownBlock) n u) (hown:W'.ownsRow (B8+2) 79 5 v' (acc.length+1) (vs.flatMap cellsOf++news)) (hg:W.grownBy W' vn.ownBlock) (hv:v'.ownBlock=vn.ownBlock∨v'.ownBlock=some (W.heap.size+1)):
  TSt w (W'.setCell ⟨B8+1,0,none⟩ v') B6 B8 need ws wA wc (acc++[n]) kids v' vk:=by
 have hsz:=h.size
 have hlo:∀g,vn.ownBlock=some g→B8+2≤g:=fun g e=>(hv2.lt g e).1
 have hap:=sI h.own hv2 (by decide)
 have hold:∀g,g<B8+2→W'.heap[g]?=W.heap[g]?:=fun g hl=>hg.block g (by omega) (fun e=>by have:=hlo g e.symm;omega)
 have hset:∀g,g≠B8+1→(W'.setCell ⟨B8+1,0,none⟩ v').heap[g]?=W'.heap[g]?:=fun g hne=>kC W' _ v' g hne
 have hrow:=dZ.push hv1 hv3 iM hn hp hown hg hv
 have hb1:Below w.heap.size w W':=h.b.grown hg h.b.size (fun k e=>by have:=hlo k e;have:=h.lo;omega)
 refine⟨hb1.setCell (p:=⟨B8+1,0,none⟩) (by show w.heap.size≤B8+1;have:=h.lo;omega) _,h.lo,?_,?_,aF ((hold _ (by omega)).trans h.r9) v',?_,?_,?_⟩
 ·have:=h.lo
  rw[hset _ (by omega),hold _ (by omega)];exact h.r6
 ·rw[hset _ (by omega),hold _ (by omega)];exact h.r8
 ·exact h.hws.keep (fun g hS _=>by rw[hset _ (by omega),hold _ (by omega)])
 ·refine jl h.own (fun g e=>?_)
  have hgl:=h.own.lt g e
  rw[hset _ (by omega)]
  exact hg.block g hgl.2 (fun e2=>hap g e e2.symm)
 ·exact hrow.keep iM (fun g hS _=>hset g (by have:=hS.1;omega)) (fun g e=>hset g (by have:=(hrow.lt g e).1;omega))
theorem TSt.kid(h:TSt w W B6 B8 need ws wA wc acc kids vn vk){z:Int}{v':Value}(hown:W'.ownsRow (B8+2) 3 1 v' (kids.length+1) (bY kids++[.int .i64 z]))(hg:W.grownBy W' vk.ownBlock)(hv:v'.ownBlock=vk.ownBlock∨v'.ownBlock=some (W.heap.size+1)):
  TSt w (W'.setCell ⟨B8,4,none⟩ v') B6 B8 need ws wA wc acc (kids++[z]) vn v':=by
 have hsz:=h.size
 obtain⟨vs,hv1,hv2,hv3⟩:=h.row
 have hlo:∀g,vk.ownBlock=some g→B8+2≤g:=fun g e=>(h.own.lt g e).1
 have hap:=sI hv2 h.own (by decide)
 have hold:∀g,g<B8+2→W'.heap[g]?=W.heap[g]?:=fun g hl=>hg.block g (by omega) (fun e=>by have:=hlo g e.symm;omega)
 have hset:∀g,g≠B8→(W'.setCell ⟨B8,4,none⟩ v').heap[g]?=W'.heap[g]?:=fun g hne=>kC W' _ v' g hne
 have hb1:Below w.heap.size w W':=h.b.grown hg h.b.size (fun k e=>by have:=hlo k e;have:=h.lo;omega)
 have hrow:dZ qB W' (fun g=>B8+2≤g∧some g≠v'.ownBlock) (B8+2) 79 5 vn acc:=by
  have h1:=h.row.keep (w':=W') iM (fun g hS hl=>hg.block g hl hS.2) (fun g e=>hg.block g (hv2.lt g e).2 (fun e2=>hap g e e2.symm))
  rcases hv with hv|hv
  ·rw[hv];exact h1
  ·obtain⟨us,k1,k2,k3⟩:=h.row
   refine⟨us,k1,jl k2 (fun g e=>hg.block g (k2.lt g e).2 (fun e2=>hap g e e2.symm)),fun i x u hx hu=>?_⟩
   have h3:=(k3 i x u hx hu)
   refine (h3.mono (S':=fun g=>((B8+2≤g∧some g≠v'.ownBlock)∧some g≠vn.ownBlock)∧some g≠vk.ownBlock) (fun g hS hl=>⟨⟨⟨hS.1.1,fun e=>?_⟩,hS.2⟩,hS.1.2⟩)).keep (w':=W') (fun g hS hl=>hg.block g hl hS.2) |>.mono (fun g hS _=>hS.1)
   rw[hv] at e
   injection e
   omega
 refine⟨hb1.setCell (p:=⟨B8,4,none⟩) (by show w.heap.size≤B8;have:=h.lo;omega) _,h.lo,?_,?_,?_,?_,?_,?_⟩
 ·have:=h.lo
  rw[hset _ (by omega),hold _ (by omega)];exact h.r6
 ·exact aF ((hold _ (by omega)).trans h.r8) v'
 ·rw[hset _ (by omega),hold _ (by omega)];exact h.r9
 ·exact h.hws.keep (fun g hS _=>by rw[hset _ (by omega),hold _ (by omega)])
 ·rw[bD,nR]
  exact jl hown (fun g e=>hset g (by have:=(hown.lt g e).1;omega))
 ·exact hrow.keep iM (fun g hS _=>hset g (by have:=hS.1;omega)) (fun g e=>hset g (by have:=(hrow.lt g e).1;omega))
end
theorem F8(need:Int)(ws:List Int)(ks:List Ex)(wA kA:Option Addr)(wc kc:Nat)(w:World)(S:Nat→Prop)(hw:ak w S 1 wA ws.length (bY ws))(hk:aO (nu w S) w S 2 kA ks)(hS:∀g,S g→g<w.heap.size)(hwl:ws.length≤1600000)(hlim:xO ks):
  Calls prog 69 #[.int .i64 need,.slice wA ws.length wc,.slice kA ks.length kc] w (pU (lK need ws ks).1 (lK need ws ks).2 w):=by
 have hbA:∀(W:World)(o:Obj),Below W.heap.size W (W.alloc o):=fun W o=>(jQ _ _).alloc (aP _) o
 have HK:=jI hk
 have HLIM:=jI hlim
 obtain⟨w1,h1⟩:=kE (w.alloc (.cells #[.slice none 0 0,.int .i64 0] 38))
 have s1:w1.heap.size=w.heap.size+1:=by rw[h1];simp
 have b1:Below w.heap.size w w1:=by rw[h1];exact hbA _ _
 have r1:w1.heap[w.heap.size]?=some (.cells #[.slice none 0 0,.int .i64 0] 38 (0,0)):=by rw[h1];exact jR w _
 have HC:=jI (mG ws wA wc w1 S (hw.keep (aj b1 hS)) (by omega))
 have H1:=jI h1
 have hkl:=hlim.len
 clear hk hw hlim h1
 go_enter func69,ntmps69
 go_wp2_with fail
 rw[←H1.out]
 refine HC.out.mono ?_
 rintro e w2 ⟨wv,rfl,how,hb2⟩
 have s2:=hb2.size
 have r2:=(hb2.block _ (by omega)).trans r1
 have HOW:=jI how
 have how0:=how
 obtain⟨wA2,wc2,rfl,hwc2⟩:=aD how0
 clear how how0
 go_wp2
 obtain⟨B8,hB8⟩:=kE w2.heap.size
 obtain⟨W0,hW0⟩:=kE ((w2.alloc (.cells #[.int .i64 2,.int .i64 0,.int .i64 need,.slice wA2 ws.length wc2,.slice none 0 0] 79)).alloc (.cells #[.slice none 0 0,.int .i64 0] 38))
 have hb20:Below w2.heap.size w2 W0:=by rw[hW0];exact (hbA _ _).alloc (by simp) _
 have hT0:TSt w W0 w.heap.size B8 need ws wA2 wc2 [] [] (.slice none 0 0) (.slice none 0 0):=by
  refine⟨b1.trans ((hb2.trans (hb20.mono s2)).mono (by omega)),⟨aP _,by omega⟩,(hb20.block _ (by omega)).trans r2,?_,?_,?_,World.ownsRow_nil _ _ _ _,.nil _ _ _ _ _⟩
  ·rw[hW0,hB8];exact heap_alloc2_old _ _ _
  ·rw[hW0,hB8];exact heap_alloc2_new _ _ _
  ·exact ((ak.own HOW.out).mono (fun g hg hl=>⟨by omega,by omega⟩) (by decide)).keep (aA hb20)
 rw[←hB8,←hW0]
 clear hW0 hB8 hb20 r1 r2 b1 hb2 s1 s2
 go_loopw [22] (fun x wr=>∃(k:Nat)(vn vk:Value),k≤ks.length∧x=.int .i64 k∧Hid (TSt w wr w.heap.size B8 need ws wA2 wc2 (iV (ks.take k)).1 (iV (ks.take k)).2 vn vk)) (fun x _=>ks.length-(intOf x).toNat)
 case atStart=>exact⟨0,_,_,cu _,rfl,jI hT0⟩
 case round=>
  obtain⟨k,vn,vk,hk,rfl,hT⟩:=hrel
  have hn60:=exGo_len (ks:=ks.take k) (fun x hx=>(HLIM.out.each x (fF hx)).1)
  have hk60:=Dt (ks.take k)
  have hkn:(ks.take k).length=k:=by rw[fH];omega
  rw[hkn] at hn60 hk60
  by_cases hlt:k<ks.length
  ·obtain⟨g,o,B,c,rfl,hSg,k0w,k1w,wS,hcap⟩:=GD HK.out hlt
   have k0:=(hT.out.b.cell (p:=⟨g,o+k * 2,none⟩) (hS g hSg)).trans k0w
   have k1:=(hT.out.b.cell (p:=⟨g,o+k * 2+1,none⟩) (hS g hSg)).trans k1w
   clear k0w k1w
   obtain⟨x,hx⟩:=kE (ks[k])
   obtain⟨l1,⟨l2,l2b⟩,l3⟩:=HLIM.out.each ks[k] (bQ hlt)
   rw[←hx] at k0 k1 wS hcap l1 l2 l2b l3
   have hsn:iV (ks.take (k+1))=((iV (ks.take k)).1++x.nodes.map (fB (iV (ks.take k)).1.length),(iV (ks.take k)).2++[((iV (ks.take k)).1.length:Int)+x.root]):=by
    rw[cO hlt,←hx,xu]
   obtain⟨acc,hacc⟩:=kE ((iV (ks.take k)).1)
   obtain⟨kids,yt⟩:=kE ((iV (ks.take k)).2)
   rw[←hacc] at hn60 hsn
   rw[←yt] at hk60 hsn
   have hkle:kids.length≤1600000:=by omega
   clear hk60
   have hT1:=hT.out
   rw[←hacc,←yt] at hT1
   have HSN:=jI hsn
   have HND:=jI wS
   have HL3:=jI l3
   obtain⟨F,hF⟩:=kE acc.length
   obtain⟨An,cn,hvn,hcn⟩:∃An cn,vn=.slice An F cn∧F≤cn:=by
    obtain⟨vs,-,h2,-⟩:=hT1.row
    obtain⟨An,cn,e1,e2⟩:=aD h2
    exact⟨An,cn,by rw[hF];exact e1,by rw[hF];exact e2⟩
   subst hvn
   have HT:=jI hT1
   obtain⟨c90,c91⟩:=aG hT1.r9
   have hszr:=hT1.size
   have hb9:B8+1<wr.heap.size:=hszr
   have hb8:B8<wr.heap.size:=by omega
   have hkI:(k:Int)<(ks.length:Int):=by omega
   have hk0:(0:Int)≤(k:Int):=by omega
   have hgs:g<wr.heap.size:=by have:=hS g hSg;have:=hT1.b.size;omega
   rw[←hF] at hn60
   have HF:=jI hF
   obtain⟨b11,hb11⟩:=kE wr.heap.size
   have hgo0:(0:Int)≤(F:Int):=by omega
   clear hx hsn hT hT1 hacc yt wS l3 hkn hF
   go_wp2
   obtain⟨W1,hW1⟩:=kE (wr.alloc (.cells #[.slice B x.nodes.length c,.int .i64 x.root] 38))
   have hb01:Below wr.heap.size wr W1:=by rw[hW1];exact hbA _ _
   have hr11:W1.heap[b11]?=some (.cells #[.slice B x.nodes.length c,.int .i64 x.root] 38 (0,0)):=by rw[hW1,hb11];exact jR wr _
   have hT1:=HT.out.later hb01
   have hlo11:B8+2≤b11:=by omega
   rw[←hW1,←hb11]
   clear hW1 hb01 HT c90 c91 hszr hb9 hb8 hgs k0 k1 hb11
   rename World=>w0
   go_loopw [32] (fun y wr=>∃(j:Nat)(vn:Value),j≤x.nodes.length∧y=.int .i64 j∧Hid (TSt w wr w.heap.size B8 need ws wA2 wc2 (acc++(x.nodes.take j).map (fB F)) kids vn vk)∧wr.heap[b11]?=some (.cells #[.slice B x.nodes.length c,.int .i64 x.root] 38 (0,0))) (fun y _=>x.nodes.length-(intOf y).toNat)
   case atStart=>exact⟨0,_,cu _,rfl,jI (by simpa using hT1),hr11⟩
   case round=>
    obtain⟨j,vn,hj,rfl,hT,hr11⟩:=hrel
    by_cases hjl:j<x.nodes.length
    ·obtain⟨g2,o2,nwA,nwc,nkA,nkc,rfl,hSg2,q0,q1,q2,q3,q4,m1,m2,m3,m4⟩:=ru (HND.out.keep (P':=qB wr S) (aj hT.out.b hS) (fun _ _ h=>h.keep (aj hT.out.b hS))) hjl
     obtain⟨n,hn⟩:=kE (x.nodes[j])
     obtain⟨p1,p2,p3⟩:=HL3.out x.nodes[j] (bQ hjl)
     have htk:x.nodes.take (j+1)=x.nodes.take j++[n]:=by rw[hn];exact cO hjl
     rw[←hn] at q0 q1 q2 q3 q4 m1 m2 m3 m4 p1 p2 p3
     have HTK:=jI htk
     have HP3:=jI p3
     obtain⟨ac2,hac2⟩:=kE (acc++(x.nodes.take j).map (fB F))
     rw[←hac2] at hT
     have HAC2:=jI hac2
     have hlen2:ac2.length≤1000000000:=by
      rw[hac2,bD,List.length_map,fH,←HF.out]
      have:60 * k≤60 * 1600000:=Nat.mul_le_mul_left 60 (by omega)
      omega
     have hbT:=hT.out.b
     have hszr:=hT.out.size
     have hgs2:g2<wr.heap.size:=by have:=hS g2 hSg2;have:=hbT.size;omega
     have hjI:(j:Int)<(x.nodes.length:Int):=by omega
     have hj0:(0:Int)≤(j:Int):=by omega
     obtain⟨kd,sv,nd,nws,nks⟩:=n
     simp only at q0 q1 q2 q3 q4 m1 m2 m3 m4 p1 p2 HTK HP3
     have HM1:=jI m1
     have HM3:=jI m3
     obtain⟨b14,hb14⟩:=kE wr.heap.size
     clear hn htk p3 hac2 m1 m3
     go_wp2_with fail
     obtain⟨W2,hW2⟩:=kE (wr.alloc (.cells #[.int .i64 kd,.int .i64 sv,.int .i64 nd,.slice nwA nws.length nwc,.slice nkA nks.length nkc] 79))
     have hb02:Below wr.heap.size wr W2:=by rw[hW2];exact hbA _ _
     have hr14:W2.heap[b14]?=some (.cells #[.int .i64 kd,.int .i64 sv,.int .i64 nd,.slice nwA nws.length nwc,.slice nkA nks.length nkc] 79 (0,0)):=by rw[hW2,hb14];exact jR wr _
     rw[←hW2,←hb14]
     have HB14:=jI hb14
     have hbw:wr.heap.size≤b14:=by omega
     have hb14s:b14≤wr.heap.size:=by omega
     clear hW2 q0 q1 q2 q3 q4 hb14
     have HLAT:=jI (show ∀X,Below b14 W2 X→TSt w X w.heap.size B8 need ws wA2 wc2 ac2 kids vn vk∧X.heap[b11]?=some (.cells #[.slice (some ⟨g2,o2,none⟩) x.nodes.length c,.int .i64 x.root] 38 (0,0)) from fun X hb=>by
      have hbX:Below wr.heap.size wr X:=hb02.trans (hb.mono hbw)
      exact⟨hT.out.later hbX,(hbX.block _ (jS hr11)).trans hr11⟩)
     have hvk:∀g,vk.ownBlock=some g→g<b14:=fun g e=>bZ (hT.out.own.lt g e).2 hbw
     have hvn:∀g,vn.ownBlock=some g→g<b14∧g≠b11:=fun g e=>by
      obtain⟨vs,-,k2,-⟩:=hT.out.row
      exact⟨bZ (k2.lt g e).2 hbw,fun e2=>own_ne k2 hr11 (by decide) (by rw[e,e2])⟩
     have hlob:B8+2≤b14:=by omega
     have HVK:=jI hvk
     have HVN:=jI hvn
     clear hvk hvn
     have hszb:b14<W2.heap.size:=jS hr14
     have HC1:=jI (fun(X:World)(hk:Kept S wr X)=>mG nws nwA nwc X S (HM1.out.keep hk) (by omega))
     have HC2:=jI (fun(X:World)(hk:Kept S wr X)=>mG nks nkA nkc X S (HM3.out.keep hk) (by omega))
     have hSb:∀g,S g→g<wr.heap.size:=fun g hg=>by have:=hS g hg;have:=hbT.size;omega
     have hSq:∀g,S g→¬g=b14:=fun g hg=>by have:=hSb g hg;omega
     have hgt:∀g,b14<g→¬g=b14:=fun g h e=>by omega
     go_cut [] (fun wx=>∃A1 c1 A2 c2,Hid (wx.heap[b14]?=some (.cells #[.int .i64 kd,.int .i64 sv,.int .i64 nd,.slice A1 nws.length c1,.slice A2 nks.length c2] 79 (0,0)))∧Hid (ak wx (fun g=>b14<g∧some g≠(Value.slice A2 nks.length c2).ownBlock) 1 A1 nws.length (bY nws)∧nws.length≤c1∧wx.ownsRow (b14+1) 3 1 (.slice A2 nks.length c2) nks.length (bY nks)∧nks.length≤c2)∧But (fun g=>g=b14) W2 wx)
     case first=>
      have HKP:=jI (show ∀X,But (fun g=>g=b14) W2 X→Kept S wr X from fun X bx=>(Kept.trans (aj hb02 hSb) (bx.kept hSq) hb02.size))
      refine av.start (fun W'=>W'.heap[b14]?=some (.cells #[.int .i64 kd,.int .i64 sv,.int .i64 nd,.slice nwA nws.length nwc,.slice nkA nks.length nkc] 79 (0,0))∧But (fun g=>g=b14) W2 W') [7,9] [0,1,3,4,6,8] (by kernel_rfl) ⟨hr14,⟨rfl,rfl,rfl,aP _,fun _ _ _=>rfl⟩⟩ (fun hHeld=>?_)
      obtain⟨g9,bx⟩:=hHeld
      repeat
       refine av.take (v:=?_) rfl (by decide +kernel) (by rfl) (fun _ _ _ h=>h) ⟨g9,bx⟩ ?_ ?_
       rotate_left
       focus
        intro w9 h9
        have k4:=ah h9.1 3 _ rfl
        have k5:=ah h9.1 4 _ rfl
        go_simp
        (try with_reducible rfl)
        done
       simp only[Act.put,List.getElem_toArray,List.getElem_cons_succ,List.getElem_cons_zero,List.setIfInBounds_toArray,List.set_cons_zero,List.set_cons_succ]
      repeat'
       first
       |refine av.pure (v:=?_) rfl (by decide +kernel) (by rfl) (fun _ _ _ h=>h) (by first|exact fun h=>absurd h (by decide)|exact fun _=>⟨g9,bx⟩) ?_ ?_
        rotate_left
        focus
         intro w9
         go_simp
         (try with_reducible rfl)
         done
        simp only[Act.put,List.getElem_toArray,List.getElem_cons_succ,List.getElem_cons_zero,List.setIfInBounds_toArray,List.set_cons_zero,List.set_cons_succ]
       |refine av.one 2 rfl (by decide +kernel) (by rfl) (fun K hK=>?_)
       |refine av.one 5 rfl (by decide +kernel) (by rfl) (fun K hK=>?_)
       |refine av.one 7 rfl (by decide +kernel) (by rfl) (fun K hK=>?_)
       |refine av.one 9 rfl (by decide +kernel) (by rfl) (fun K hK=>?_)
       |refine av.two 5 7 rfl rfl (by decide +kernel) (by rfl) (by rfl) (fun K hK=>?_) (fun K hK=>?_)
       |have z4:=ah g9 3 _ rfl
        have z5:=ah g9 4 _ rfl
        have y4:=jT _ _ 3 _ _ g9
        have y5:=jT _ _ 4 _ _ g9
        go_simp
        first
        |go_at_call 99
         first
         |(with_reducible refine (HC1.out _ (HKP.out _ bx)).mono ?_);rintro e Y1 ⟨v,rfl,hown,hb⟩;obtain⟨A1,c1,rfl,hn1⟩:=aD hown;have hs1:=(ak.own hown).mono (S':=fun g=>b14<g) (fun g8 hg _=>bZ (jS g9) hg) (by decide);clear hown
         |(with_reducible refine (HC2.out _ (HKP.out _ bx)).mono ?_);rintro e Y2 ⟨v,rfl,hown,hb⟩;obtain⟨A2,c2,rfl,hn2⟩:=aD hown;have hs1:=(hs1.mono (S':=fun g=>b14<g∧some g≠(Value.slice A2 nks.length c2).ownBlock) (fun g8 hg hl=>⟨hg,fun e=>by have:=(hown.lt g8 e.symm).1;omega⟩) (by decide)).keep (aA hb);have hs2:=AJ hown (jS g9);clear hown
         have g9:=(hb.block _ (jS g9)).trans g9
         have bx:=bx.trans (.of_below hb)
         try go_simp
         refine hK.out _ _ (by first|exact fun h=>absurd h (by decide)|exact fun _=>⟨g9,bx⟩) ?_
         clear hK K z4 z5 y4 y5
        |refine hK.out _ (World.setCell _ ⟨b14,3,none⟩ _) (fun h=>absurd h (by decide)) ?_
         have hs1:=hs1.keep (((But.refl (fun g=>g=b14) _).setCell rfl 3 (.slice A1 nws.length c1)).kept (fun g h e=>by (try have:=h.1);omega))
         try have hs2:=own_set hs2 (Nat.lt_succ_self _) 3 (.slice A1 nws.length c1)
         have g9:=aF g9 (i:=3) (.slice A1 nws.length c1)
         have bx:=bx.setCell rfl 3 (.slice A1 nws.length c1)
         clear hK K z4 z5 y4 y5
        |refine hK.out _ (World.setCell _ ⟨b14,4,none⟩ _) (fun h=>absurd h (by decide)) ?_
         have hs1:=hs1.keep (((But.refl (fun g=>g=b14) _).setCell rfl 4 (.slice A2 nks.length c2)).kept (fun g h e=>by (try have:=h.1);omega))
         try have hs2:=own_set hs2 (Nat.lt_succ_self _) 4 (.slice A2 nks.length c2)
         have g9:=aF g9 (i:=4) (.slice A2 nks.length c2)
         have bx:=bx.setCell rfl 4 (.slice A2 nks.length c2)
         clear hK K z4 z5 y4 y5
      all_goals
       refine av.done (by decide +kernel) ?_
       go_wp2_with fail
       go_meet
       exact⟨A1,c1,A2,c2,jI g9,jI ⟨hs1,hn1,hs2,hn2⟩,bx⟩
     case rest=>
      obtain⟨A1,c1,A2,c2,hq,hss,hx9⟩:=hcut
      obtain⟨W9,hW9⟩:=kE wc
      rw[←hW9] at hq hss hx9 ⊢
      clear hW9
      obtain⟨u1,u2,u3,u4⟩:=hss.out
      obtain⟨z0,z1,z2,z3,z4⟩:=aV hq.out
      have hbl9:b14<W9.heap.size:=jS hq.out
      go_wp2
      go_loopw [47] (fun y wr=>∃i:Nat,i≤nks.length∧y=.int .i64 i∧wr.ownsRow (b14+1) 3 1 (.slice A2 nks.length c2) nks.length (bY ((nks.take i).map (·+(F:Int))++nks.drop i))∧But (fun g=>some g=(Value.slice A2 nks.length c2).ownBlock) W9 wr) (fun y _=>nks.length-(intOf y).toNat)
      case atStart=>exact⟨0,cu _,rfl,by simpa using u3,But.refl _ _⟩
      case round=>
       obtain⟨i,hi,rfl,hown,hbu⟩:=hrel
       have hr9:=(hbu.block b14 (fun e=>by have:=(hown.lt b14 e.symm).1;omega) hbl9).trans hq.out
       obtain⟨y0,y1,y2,y3,y4⟩:=aV hr9
       by_cases hil:i<nks.length
       ·obtain⟨gk,ck,hvk⟩:=AB hown (by omega)
        obtain⟨rfl,rfl⟩:A2=some ⟨gk,0,none⟩∧c2=ck:=by
         injection hvk with h1 h2 h3
         exact⟨h1,h3⟩
        obtain⟨z,hz⟩:=kE (nks[i])
        have hz2:=HP3.out nks[i] (bQ hil)
        rw[←hz] at hz2
        have hcz:wr.cell? ⟨gk,i,none⟩=some (.int .i64 z):=by
         rw[hown.cellAt i (by omega),bY,List.getElem?_map,gM (by simp;omega)]
         simp only[List.length_map,fH,Nat.min_eq_left (dF hil),Nat.sub_self,List.getElem?_drop,Nat.add_zero,dD hil,Option.map_some,←hz]
        have hfz:=hown.frozenAt i
        obtain⟨hst,hsg⟩:=hown.stored i (.int .i64 (z+(F:Int)))
        have hwrp:IntKind.i64.wrap (z+(F:Int))=z+(F:Int):=IntWalk.i64_in _ (by omega)
        have hiI:(i:Int)<(nks.length:Int):=by omega
        have hi0:(0:Int)≤(i:Int):=by omega
        have hgk:=hown.lt gk rfl
        have HST:=jI hst
        have HSG:=jI hsg
        have HZ:=jI hz
        clear hst hsg hz
        go_wp2
        go_roundw
        case rel=>
         refine⟨i+1,by omega,by go_num,?_,hbu.trans (.bE HSG.out rfl)⟩
         rw[←Hq nks (F:Int) i hil,←HZ.out]
         exact HST.out
        case measure=>simp[intOf];omega
       ·obtain rfl:i=nks.length:=by omega
        have hiI:¬(nks.length:Int)<(nks.length:Int):=by omega
        rw[List.take_length,List.drop_length,List.append_nil] at hown
        have hbc:Below b14 W2 wr:=(hx9.below (B:=b14) (fun g e=>by omega) (by omega)).trans (hbu.below (fun g e=>by have:=(hown.lt g e.symm).1;omega) (by omega))
        obtain⟨hTc,hr11c⟩:=HLAT.out wr hbc
        obtain⟨vs,hv1,hv2,hv3⟩:=hTc.row
        have HV3:=jI hv3
        have HTC:=jI hTc
        obtain⟨x0,x1⟩:=aG hTc.r9
        have hszc:=hTc.size
        have HR11C:=jI hr11c
        have HOWN:=jI hown
        have HBU:=jI hbu
        have HSS:=jI hss.out
        clear hv3 hTc hr11c hown hbu hss u1 u2 u3 u4 z0 z1 z2 z3 z4
        go_wp2_with (at_builtin;refine vT wr rfl (.tmp 60) (.tmp 62) rfl (B8+2) _ _ _ hv2 rfl kd sv nd A1 nws.length c1 A2 nks.length c2 rfl (by omega) hszc ?_;intro v' w' hown' hg' hv';have hown0:=hown';obtain⟨A3,c3,rfl,hc3⟩:=aD hown0;have r9n:=(hg'.block (B8+1) (by omega) (fun e=>by have:=(hv2.lt _ e.symm).1;omega)).trans HTC.out.r9;obtain⟨x2,x3⟩:=aG r9n;have xf:=jT _ _ 0 _ _ r9n;clear hown0 r9n)
        go_roundw
        case rel=>
         have hle9:b14<wr.heap.size:=by have:=hbc.size;omega
         have hnv:qB wr (fun g=>(B8+2≤g∧some g≠vk.ownBlock)∧some g≠vn.ownBlock) (fB F ⟨kd,sv,nd,nws,nks⟩) (.agg #[.int .i64 kd,.int .i64 sv,.int .i64 nd,.slice A1 nws.length c1,.slice A2 nks.length c2]):=by
          obtain⟨u1,u2,u3,u4⟩:=HSS.out
          refine⟨A1,c1,A2,c2,by simp[fB],(u1.keep (w':=wr) (fun g hg hl=>HBU.out.block g (fun e=>hg.2 e) hl)).mono (fun g hg _=>⟨⟨by have:=hg.1;omega,fun e=>?_⟩,fun e=>?_⟩) (by decide),u2,?_,by simpa [fB] using u4⟩
          ·have:=HVK.out g e.symm;have:=hg.1;omega
          ·have:=(HVN.out g e.symm).1;have:=hg.1;omega
          ·have h9:=(ak.own HOWN.out).mono (S':=fun g=>(B8+2≤g∧some g≠vk.ownBlock)∧some g≠vn.ownBlock) (fun g hg _=>⟨⟨by omega,fun e=>by have:=HVK.out g e.symm;omega⟩,fun e=>by have:=(HVN.out g e.symm).1;omega⟩) (by decide)
           simpa [fB] using h9
         refine⟨j+1,.slice A3 (ac2.length+1) c3,by omega,by go_num,jI ?_,?_⟩
         ·have h9:=HTC.out.node hv1 hv2 HV3.out (u:=.agg #[.int .i64 kd,.int .i64 sv,.int .i64 nd,.slice A1 nws.length c1,.slice A2 nks.length c2]) rfl hnv hown' hg' hv'
          rw[HTK.out,List.map_append,List.map_cons,List.map_nil,←List.append_assoc,←HAC2.out]
          exact h9
         ·rw[kC _ _ _ b11 (by show b11≠B8+1;omega)]
          exact (hg'.block b11 (jS HR11C.out) (fun e=>(HVN.out _ e.symm).2 rfl)).trans HR11C.out
        case measure=>simp[intOf];omega
    ·obtain rfl:j=x.nodes.length:=by omega
     have hjI:¬(x.nodes.length:Int)<(x.nodes.length:Int):=by omega
     rw[List.take_length] at hT
     have hszr:=hT.out.size
     obtain⟨d0,d1,d2,d3,d4⟩:=aV hT.out.r8
     obtain⟨e0,e1⟩:=aG hr11
     have hb8:B8<wr.heap.size:=by omega
     have hwF:IntKind.i64.wrap ((F:Int)+x.root)=(F:Int)+x.root:=IntWalk.i64_in _ (by omega)
     have hkl2:kids.length≤100000000:=by omega
     have hok:=hT.out.own
     go_wp2_with (at_builtin;refine Ao wr rfl (.tmp 67) (.tmp 72) rfl (B8+2) vk kids.length _ hok rfl ((F:Int)+x.root) rfl (by omega) hszr ?_;intro v' w' hown' hg' hv';have hown0:=hown';obtain⟨A3,c3,rfl,hc3⟩:=aD hown0;have r8n:=(hg'.block B8 (by omega) (fun e=>by have:=(hok.lt _ e.symm).1;omega)).trans hT.out.r8;obtain⟨x0,x1,x2,x3,x4⟩:=aV r8n;have xf:=jT _ _ 4 _ _ r8n;clear hown0 r8n)
     go_roundw
     case rel=>
      refine⟨k+1,vn,.slice A3 (kids.length+1) c3,by omega,by go_num,jI ?_⟩
      rw[HSN.out]
      simp only
      rw[←HF.out]
      exact hT.out.kid hown' hg' hv'
     case measure=>simp[intOf];omega
  ·obtain rfl:k=ks.length:=by omega
   have hkI:¬(ks.length:Int)<(ks.length:Int):=by omega
   rw[List.take_length] at hT hn60 hk60
   obtain⟨acc,hacc⟩:=kE ((iV ks).1)
   obtain⟨kids,yt⟩:=kE ((iV ks).2)
   have hr:lK need ws ks=if 60<acc.length+1 then (ex0,3) else (⟨acc++[⟨2,0,need,ws,kids⟩],acc.length⟩,0):=by rw[hacc,yt];rfl
   rw[←hacc,←yt] at hT
   rw[←hacc] at hn60
   rw[←yt] at hk60
   have hkle:kids.length≤1600000:=by omega
   clear hk60
   have hT1:=hT.out
   obtain⟨vs,hv1,hv2,hv3⟩:=hT1.row
   obtain⟨Ak,ck,hvk,hck⟩:=aD hT1.own
   subst hvk
   have HV3:=jI hv3
   have HR:=jI hr
   obtain⟨d0,d1,d2,d3,d4⟩:=aV hT1.r8
   obtain⟨x0,x1⟩:=aG hT1.r9
   have hszr:=hT1.size
   have hb9:B8+1<wr.heap.size:=hszr
   have hb8:B8<wr.heap.size:=by omega
   have hacl:acc.length≤100000000:=by omega
   have hlo6:=hT.out.lo.2
   have hne6:¬w.heap.size=B8+1:=by omega
   have hne7:¬B8+1=w.heap.size:=by omega
   clear hv3 hr hacc yt hT1
   go_wp2_with (at_builtin;refine vT wr rfl (.tmp 77) (.tmp 79) rfl (B8+2) _ _ _ hv2 rfl 2 0 need wA2 ws.length wc2 Ak kids.length ck rfl (by omega) hszr ?_;intro v' w' hown' hg' hv';have hown0:=hown';obtain⟨A3,c3,rfl,hc3⟩:=aD hown0;have r9n:=(hg'.block (B8+1) (by omega) (fun e=>by have:=(hv2.lt _ e.symm).1;omega)).trans hT.out.r9;obtain⟨x2,x3⟩:=aG r9n;have xf:=jT _ _ 0 _ _ r9n;have xf1:=jT _ _ 1 _ _ r9n;have r6n:=(hg'.block w.heap.size (by omega) (fun e=>by have:=(hv2.lt _ e.symm).1;omega)).trans hT.out.r6;obtain⟨x4,x5⟩:=aG r6n;have xf4:=jT _ _ 0 _ _ r6n;have xf5:=jT _ _ 1 _ _ r6n;have hb1':=hT.out.b.grown hg' hT.out.b.size (fun j e=>by have:=(hv2.lt _ e).1;omega);clear hown0)
   ·have r6f:=jJ (u':=.slice none 0 0) (v':=.int .i64 0) (show ((w'.setCell ⟨B8+1,0,none⟩ (.slice A3 (acc.length+1) c3)).setCell ⟨B8+1,1,none⟩ (.int .i64 (acc.length:Nat))).heap[w.heap.size]?=_ by
     rw[kC _ _ _ _ (show w.heap.size≠B8+1 from hne6),kC _ _ _ _ (show w.heap.size≠B8+1 from hne6)];exact r6n)
    refine qU rfl rfl rfl rfl (aG r6f).1 (aG r6f).2 ?_
    rw[HR.out,if_pos (by omega)]
    exact⟨_,rfl,nu.zero _ _,((((hb1'.setCell (p:=⟨B8+1,0,none⟩) (by show w.heap.size≤B8+1;omega) _).setCell (p:=⟨B8+1,1,none⟩) (by show w.heap.size≤B8+1;omega) _).setCell (p:=⟨w.heap.size,0,none⟩) (aP _) _).setCell (p:=⟨w.heap.size,1,none⟩) (aP _) _)⟩
   ·have r6f:=jJ (u':=.slice A3 (acc.length+1) c3) (v':=.int .i64 (acc.length:Nat)) (show ((w'.setCell ⟨B8+1,0,none⟩ (.slice A3 (acc.length+1) c3)).setCell ⟨B8+1,1,none⟩ (.int .i64 (acc.length:Nat))).heap[w.heap.size]?=_ by
     rw[kC _ _ _ _ (show w.heap.size≠B8+1 from hne6),kC _ _ _ _ (show w.heap.size≠B8+1 from hne6)];exact r6n)
    have hap:=sI hT.out.own hv2 (by decide)
    have hlov:∀g,vn.ownBlock=some g→B8+2≤g:=fun g e=>(hv2.lt g e).1
    have hrow:dZ qB w' (fun g=>w.heap.size<g∧g≠B8+1) (B8+2) 79 5 (.slice A3 (acc.length+1) c3) (acc++[⟨2,0,need,ws,kids⟩]):=
     dZ.push hv1 (fun i x u hx hu=>(HV3.out i x u hx hu).mono (fun g hg _=>⟨⟨by have:=hg.1.1;omega,by have:=hg.1.1;omega⟩,hg.2⟩)) iM (u:=.agg #[.int .i64 2,.int .i64 0,.int .i64 need,.slice wA2 ws.length wc2,.slice Ak kids.length ck]) rfl
      ⟨wA2,wc2,Ak,ck,rfl,hT.out.hws.mono (fun g hg _=>⟨⟨by omega,by omega⟩,fun e=>by have:=hlov g e.symm;omega⟩) (by decide),hwc2,(own_sees hT.out.own).mono (fun g hg _=>⟨⟨by have:=(hT.out.own.lt g hg).1;omega,by have:=(hT.out.own.lt g hg).1;omega⟩,fun e=>hap g hg e.symm⟩) (by decide),hck⟩ hown' hg' hv'
    have hrow2:=hrow.keep (w':=(((w'.setCell ⟨B8+1,0,none⟩ (.slice A3 (acc.length+1) c3)).setCell ⟨B8+1,1,none⟩ (.int .i64 (acc.length:Nat))).setCell ⟨w.heap.size,0,none⟩ (.slice A3 (acc.length+1) c3)).setCell ⟨w.heap.size,1,none⟩ (.int .i64 (acc.length:Nat))) iM
     (fun g hg _=>by rw[kC _ _ _ g (show g≠w.heap.size by omega),kC _ _ _ g (show g≠w.heap.size by omega),kC _ _ _ g (show g≠B8+1 from hg.2),kC _ _ _ g (show g≠B8+1 from hg.2)])
     (fun g e=>by
      have:=(hrow.lt g e).1
      rw[kC _ _ _ g (show g≠w.heap.size by omega),kC _ _ _ g (show g≠w.heap.size by omega),kC _ _ _ g (show g≠B8+1 by omega),kC _ _ _ g (show g≠B8+1 by omega)])
    obtain⟨A4,c4,he4,hc4,hl4⟩:=hrow2.list iM
    refine qU rfl rfl rfl rfl (aG r6f).1 (aG r6f).2 ?_
    rw[HR.out,if_neg (by omega)]
    rw[bD,List.length_singleton] at he4 hc4
    injection he4 with q1 q2 q3
    subst q1 q3
    refine⟨_,rfl,⟨A3,c3,by simp,hl4.mono (fun g hg _=>by omega) (by decide) (fun _ _ h=>h.mono (fun g hg _=>by omega)),by simpa using hc4⟩,((((hb1'.setCell (p:=⟨B8+1,0,none⟩) (by show w.heap.size≤B8+1;omega) _).setCell (p:=⟨B8+1,1,none⟩) (by show w.heap.size≤B8+1;omega) _).setCell (p:=⟨w.heap.size,0,none⟩) (aP _) _).setCell (p:=⟨w.heap.size,1,none⟩) (aP _) _)⟩
end
section
structure kY(x:Ex):Prop where
 len:x.nodes.length≤60
 root:0≤x.root∧x.root<x.nodes.length
 each:∀n∈x.nodes,n.ws.length≤1600000∧n.kids.length≤1600000∧∀k∈n.kids,0≤k∧k<x.nodes.length
theorem BU(i:Nat):kY (lY i):=⟨by simp[lY],by simp[lY],fun n hn=>by simp[lY] at hn;subst hn;simp⟩
def GoLim(a:List Nd × List Int):Prop:=(∀n∈a.1,n.ws.length≤1600000∧n.kids.length≤1600000∧∀k∈n.kids,0≤k∧k<a.1.length)∧∀r∈a.2,0≤r∧r<a.1.length
theorem exGo_lim{ks:List Ex}(h:∀x∈ks,kY x):GoLim (iV ks):=by
 have key:∀(ks:List Ex),(∀x∈ks,kY x)→∀a:List Nd × List Int,GoLim a→GoLim (ks.foldl (fun a k=>(a.1++k.nodes.map (fB a.1.length),a.2++[(a.1.length:Int)+k.root])) a):=by
  intro ks
  induction ks with
  |nil=>intro _ a h;exact h
  |cons x r ih=>
   intro hx a ha
   rw[List.foldl_cons]
   refine ih (fun y hy=>hx y (List.mem_cons_of_mem _ hy)) _ ⟨fun n hn=>?_,fun q hq=>?_⟩
   ·simp only[bD,List.length_map,Int.natCast_add]
    rcases List.mem_append.1 hn with hn|hn
    ·obtain⟨h1,h2,h3⟩:=ha.1 n hn
     exact⟨h1,h2,fun k hk=>by have:=h3 k hk;omega⟩
    ·obtain⟨m,hm,rfl⟩:=List.mem_map.1 hn
     obtain⟨h1,h2,h3⟩:=(hx x fO).each m hm
     refine⟨h1,by simpa [fB] using h2,fun k hk=>?_⟩
     simp only[fB,List.mem_map] at hk
     obtain⟨k',hk',rfl⟩:=hk
     have:=h3 k' hk'
     omega
   ·simp only[bD,List.length_map,Int.natCast_add]
    rcases List.mem_append.1 hq with hq|hq
    ·have:=ha.2 q hq;omega
    ·simp only[List.mem_singleton] at hq
     subst hq
     have:=(hx x fO).root
     omega
 exact key ks h ([],[]) ⟨fun n hn=>by simp at hn,fun r hr=>by simp at hr⟩
theorem xO.of{ks:List Ex}(hl:ks.length≤1600000)(h:∀x∈ks,kY x):xO ks:=
 ⟨hl,fun x hx=>by
  have hh:=h x hx
  refine⟨hh.len,⟨hh.root.1,by have:=hh.root;have:=hh.len;omega⟩,fun n hn=>?_⟩
  obtain⟨h1,h2,h3⟩:=hh.each n hn
  exact⟨h1,h2,fun k hk=>by have:=h3 k hk;have:=hh.len;omega⟩⟩
theorem zY{need:Int}{ws:List Int}{ks:List Ex}(hl:ks.length≤1600000)(hw:ws.length≤1600000)(h:∀x∈ks,kY x)(he:(lK need ws ks).2=0):kY (lK need ws ks).1:=by
 have hg:=exGo_lim h
 have hk:=Dt ks
 unfold lK at he ⊢
 split at he
 ·cases he
 ·rename_i h60
  rw[if_neg h60]
  refine⟨by simp;omega,by simp;omega,fun n hn=>?_⟩
  simp only[bD,List.length_singleton,Int.natCast_add]
  rcases List.mem_append.1 hn with hn|hn
  ·obtain⟨h1,h2,h3⟩:=hg.1 n hn
   exact⟨h1,h2,fun k hk=>by have:=h3 k hk;omega⟩
  ·simp only[List.mem_singleton] at hn
   subst hn
   exact⟨hw,by simp only;omega,fun k hk=>by have:=hg.2 k hk;omega⟩
theorem FH(n:Nd):(jP n).ws=n.ws∧(jP n).kids=n.kids:=by unfold jP;split<;>exact⟨rfl,rfl⟩
theorem dual_lim{x:Ex}(h:kY x)(he:(kU x).2=0):kY (kU x).1:=by
 unfold kU at he ⊢
 split at he
 ·rename_i h9;exact absurd he h9
 ·rename_i h9
  rw[if_neg h9]
  refine⟨by simpa using h.len,by simpa using h.root,fun n hn=>?_⟩
  obtain⟨m,hm,rfl⟩:=List.mem_map.1 hn
  obtain⟨e1,e2⟩:=FH m
  rw[e1,e2]
  simpa using h.each m hm
theorem yJ(s n:Nat):∀x∈iH s n,kY x:=fun x hx=>by
 unfold iH at hx
 obtain⟨i,-,rfl⟩:=List.mem_map.1 hx
 exact BU i
theorem yK(s n:Nat):(iH s n).length≤n:=by
 unfold iH
 rw[List.length_map]
 refine cK (List.length_filter_le _ _) ?_
 simp
end
end Go.Proofs.YtmohibkomlhlaaaGreatDoor
