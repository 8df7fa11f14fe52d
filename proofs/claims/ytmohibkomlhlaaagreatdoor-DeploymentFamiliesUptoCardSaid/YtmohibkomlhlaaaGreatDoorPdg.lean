/- The contract of model where it has not been asked yet. Numbers in range. Condition: the table of math/bits lies in the world. The contract of config: the configuration of a declaration. Where its terms and its model have no error. Condition: the table of math/bits lies in the world. The contract of Dual: the dual expression, or what Valid returns. iX of a size up to a bound. -/
import Derived.Test.YtmohibkomlhlaaaGreatDoorPdf
set_option maxRecDepth 100000
set_option maxHeartbeats 8000000
namespace Go.Proofs.YtmohibkomlhlaaaGreatDoor
section
open Go.RowKit
open _root_.Go.Proofs.Tryz
theorem FY(w:World):(zeroValue 144).run prog w=.ok (.agg #[.slice none 0 0,.int .i64 0]) w:=by kernel_rfl
end
section
open Go.RowKit
open _root_.Go.Proofs.Tryz
structure CSt(w W:World)(nm:ByteArray)(cs:List Value)(mem:Nat)(v3 v4:Value):Prop where
 bl:Below w.heap.size w W
 r3:W.heap[w.heap.size]?=some (.cells cs.toArray 35 (0,0))
 r4:W.heap[w.heap.size+1]?=some (.cells #[.string ⟨#[]⟩,.int .i64 0,.int .u16 0,.slice none 0 0,.slice none 0 0,.slice none 0 0] 54 (0,0))
 r6:W.heap[w.heap.size+1+1]?=some (.cells #[.string nm,.int .i64 1,.int .u16 (mem:Nat),v3,v4,.slice none 0 0] 54 (0,0))
section
variable {w W W':World} {nm:ByteArray} {cs:List Value} {mem:Nat} {v3 v4:Value}
theorem CSt.later(h:CSt w W nm cs mem v3 v4)(hb:Below W.heap.size W W'):CSt w W' nm cs mem v3 v4:=
 ⟨h.bl.trans (hb.mono h.bl.size),(hb.block _ (jS h.r3)).trans h.r3,(hb.block _ (jS h.r4)).trans h.r4,(hb.block _ (jS h.r6)).trans h.r6⟩
theorem CSt.set{mem':Nat}{v3' v4':Value}(h:CSt w W nm cs mem v3 v4)(i:Nat)(u:Value)(hrow:(#[.string nm,.int .i64 1,.int .u16 (mem:Nat),v3,v4,.slice none 0 0]:Array Value).setIfInBounds i u=#[.string nm,.int .i64 1,.int .u16 (mem':Nat),v3',v4',.slice none 0 0]):CSt w (W.setCell ⟨w.heap.size+1+1,i,none⟩ u) nm cs mem' v3' v4':=by
 have hne:∀g,g≠w.heap.size+1+1→(W.setCell ⟨w.heap.size+1+1,i,none⟩ u).heap[g]?=W.heap[g]?:=fun g hg=>kC W ⟨w.heap.size+1+1,i,none⟩ u g hg
 refine⟨h.bl.setCell (p:=⟨w.heap.size+1+1,i,none⟩) (by show w.heap.size≤w.heap.size+1+1;omega) _,(hne _ (by omega)).trans h.r3,(hne _ (by omega)).trans h.r4,?_⟩
 rw[←hrow]
 exact aF h.r6 (i:=i) u
theorem CSt.cells(h:CSt w W nm cs mem v3 v4):W.cell? ⟨w.heap.size+1+1,0,none⟩=some (.string nm)∧W.cell? ⟨w.heap.size+1+1,1,none⟩=some (.int .i64 1)∧W.cell? ⟨w.heap.size+1+1,2,none⟩=some (.int .u16 (mem:Nat))∧W.cell? ⟨w.heap.size+1+1,3,none⟩=some v3∧W.cell? ⟨w.heap.size+1+1,4,none⟩=some v4∧W.cell? ⟨w.heap.size+1+1,5,none⟩=some (.slice none 0 0):=by
 refine⟨?_,?_,?_,?_,?_,?_⟩<;>rw[j5 W _ _ _ _ _ h.r6]<;>rfl
theorem CSt.dc(h:CSt w W nm cs mem v3 v4){j:Nat}{u:Value}(hj:cs[j]?=some u):W.cell? ⟨w.heap.size,j,none⟩=some u:=aY h.r3 hj
end
theorem mO:(prog.info? 54).map (·.size)=some 6:=by kernel_rfl
theorem pE{fn:Func}{slot u:Nat}{R:Ending→World→Prop}{a:Act}{W:World}{r:Nat}{cells:Array Value}{q:Value}(hres:fn.results=#[.cell slot 54,.tmp u])(hp:a.tmps.getD slot undef=.pointer (some ⟨r,0,none⟩))(hq:a.tmps.getD u undef=q)(hd:a.defers=[])
  (hblk:W.heap[r]?=some (.cells cells 54 (0,0))) (hc:cells.size=6) (hR:R (.returned (.tuple #[.agg cells,q])) W):bodyPost prog fn R .ret a W:=by
 refine bodyPost_ret (v:=.tuple #[.agg cells,q]) ?_ hd hR
 rw[results_cell_tmp hres,hp,hq]
 simp[asAddr,run_loadVar_row W r 54 54 cells (0,0) _ hblk underlying54 rfl (by rw[hc];exact mO),Result.andThen]
theorem row_put6{W:World}{b:Nat}{a0 a1 a2 a3 a4 a5 b0 b1 b2 b3 b4 b5:Value}{T:TypeId}(h:W.heap[b]?=some (.cells #[a0,a1,a2,a3,a4,a5] T (0,0))):
  ((((((W.setCell ⟨b,0,none⟩ b0).setCell ⟨b,1,none⟩ b1).setCell ⟨b,2,none⟩ b2).setCell ⟨b,3,none⟩ b3).setCell ⟨b,4,none⟩ b4).setCell ⟨b,5,none⟩ b5).heap[b]?=some (.cells #[b0,b1,b2,b3,b4,b5] T (0,0)):=
 aF (aF (aF (aF (aF (aF h b0) b1) b2) b3) b4) b5
end
section
open Go.RowKit
open _root_.Go.Proofs.Tryz
structure DSt(w W:World)(b5:Nat)(rt:Int)(acc:List Nd)(vn:Value):Prop where
 b:Below w.heap.size w W
 lo:w.heap.size+2≤b5
 r1:W.heap[w.heap.size+1]?=some (.cells #[.slice none 0 0,.int .i64 0] 38 (0,0))
 r5:W.heap[b5]?=some (.cells #[vn,.int .i64 rt] 38 (0,0))
 row:dZ qB W (fun g=>b5+1≤g) (b5+1) 79 5 vn acc
section
variable {w W W':World} {b5:Nat} {rt:Int} {acc:List Nd} {vn:Value}
theorem DSt.later(h:DSt w W b5 rt acc vn)(hb:Below W.heap.size W W'):DSt w W' b5 rt acc vn where
 b:=h.b.trans (hb.mono h.b.size)
 lo:=h.lo
 r1:=(hb.block _ (jS h.r1)).trans h.r1
 r5:=(hb.block _ (jS h.r5)).trans h.r5
 row:=h.row.keep iM (aA hb) (fun g hg=>hb.block g (h.row.lt g hg).2)
theorem DSt.size(h:DSt w W b5 rt acc vn):b5+1≤W.heap.size:=jS h.r5
theorem DSt.node(h:DSt w W b5 rt acc vn){vs:List Value}(hv1:vs.length=acc.length)(hv2:W.ownsRow (b5+1) 79 5 vn acc.length (vs.flatMap cellsOf))(hv3:∀(i:Nat)(x:Nd)(u:Value),acc[i]?=some x→vs[i]?=some u→qB W (fun g=>b5+1≤g∧some g≠vn.ownBlock) x u)
  {n:Nd} {u v':Value} {news:List Value} (hn:cellsOf u=news) (hp:qB W (fun g=>b5+1≤g∧some g≠vn.ownBlock) n u) (hown:W'.ownsRow (b5+1) 79 5 v' (acc.length+1) (vs.flatMap cellsOf++news)) (hg:W.grownBy W' vn.ownBlock) (hv:v'.ownBlock=vn.ownBlock∨v'.ownBlock=some (W.heap.size+1)):
  DSt w (W'.setCell ⟨b5,0,none⟩ v') b5 rt (acc++[n]) v':=by
 have hsz:=h.size
 have hlo:∀g,vn.ownBlock=some g→b5+1≤g:=fun g e=>(hv2.lt g e).1
 have hold:∀g,g<b5+1→W'.heap[g]?=W.heap[g]?:=fun g hl=>hg.block g (by omega) (fun e=>by have:=hlo g e.symm;omega)
 have hset:∀g,g≠b5→(W'.setCell ⟨b5,0,none⟩ v').heap[g]?=W'.heap[g]?:=fun g hne=>kC W' _ v' g hne
 have hrow:=dZ.push hv1 hv3 iM hn hp hown hg hv
 have hb1:Below w.heap.size w W':=h.b.grown hg h.b.size (fun k e=>by have:=hlo k e;have:=h.lo;omega)
 refine⟨hb1.setCell (p:=⟨b5,0,none⟩) (by show w.heap.size≤b5;have:=h.lo;omega) _,h.lo,?_,aF ((hold _ (by omega)).trans h.r5) v',?_⟩
 ·have:=h.lo
  rw[hset _ (by omega),hold _ (by omega)];exact h.r1
 ·exact hrow.keep iM (fun g hS _=>hset g (by omega)) (fun g e=>hset g (by have:=(hrow.lt g e).1;omega))
end
theorem FE(l:List Nd)(j:Nat)(h:j<l.length):(l.take (j+1)).map jP=(l.take j).map jP++[jP l[j]]:=by
 rw[cO h,List.map_append,List.map_singleton]
def wTo(n:Nd)(k:Nat):Int:=((List.range k).map fun k=>wgt n k).sum
theorem F5(n:Nd)(k:Nat):wTo n (k+1)=wTo n k+wgt n k:=by
 unfold wTo
 rw[List.range_succ,List.map_append,List.sum_append]
 simp
theorem wTo_in{n:Nd}(h:∀v∈n.ws,1≤v∧v≤1000)(hw:n.ws.length=0∨n.ws.length=n.kids.length):∀k,k≤n.kids.length→0≤wTo n k∧wTo n k≤1000 * k:=by
 intro k
 induction k with
 |zero=>intro _;simp[wTo]
 |succ k ih=>
  intro hk
  have:=ih (by omega)
  have:=F4 h (k:=k) (by omega)
  rw[F5]
  omega
theorem dual_any:DualOk:=by
 intro x v w S hv hS hlm
 have hbA:∀(W:World)(o:Obj),Below W.heap.size W (W.alloc o):=fun W o=>(jQ _ _).alloc (aP _) o
 have hx0:=hv
 obtain⟨A,c,rfl,hn,hc⟩:=hv
 obtain⟨r,hr⟩:=kE (kU x)
 rw[←hr]
 unfold kU at hr
 obtain⟨er,her⟩:=kE (exE x)
 rw[←her] at hr
 obtain⟨W0,hW0⟩:=kE ((w.alloc (.cells #[.slice A x.nodes.length c,.int .i64 x.root] 38)).alloc (.cells #[.slice none 0 0,.int .i64 0] 38))
 have hb0:Below w.heap.size w W0:=by rw[hW0];exact (hbA _ _).alloc (by simp) _
 have hr0:W0.heap[w.heap.size]?=some (.cells #[.slice A x.nodes.length c,.int .i64 x.root] 38 (0,0)):=by rw[hW0];exact heap_alloc2_old _ _ _
 have hr1:W0.heap[w.heap.size+1]?=some (.cells #[.slice none 0 0,.int .i64 0] 38 (0,0)):=by rw[hW0];exact heap_alloc2_new _ _ _
 have HV:=jI (xq x _ W0 S (hx0.keep (aj hb0 hS)) (fun g hg=>by have:=hS g hg;have:=hb0.size;omega) (fun n hn=>⟨by have:=(hlm.each n hn).1;omega,by have:=(hlm.each n hn).2.1;omega⟩))
 rw[←her] at HV
 have HR:=jI hr
 have HE:=jI her
 have HN:=jI hn
 have H0:=jI hW0
 have HR0:=jI hr0
 have HR1:=jI hr1
 have HLM:=jI hlm
 have hN60:=hlm.len
 have hlt1:=jS hr1
 clear hx0 hn hr her hW0 hr0 hr1 hlm
 go_enter func68,ntmps68
 go_wp2_with fail
 rw[←H0.out]
 refine HV.out.mono ?_
 rintro e w2 ⟨rfl,hb2⟩
 have hbw2:=hb0.trans (hb2.mono hb0.size)
 have r0:=(hb2.block _ (jS HR0.out)).trans HR0.out
 have r1:=(hb2.block _ hlt1).trans HR1.out
 obtain⟨x0,x1⟩:=aG r0
 obtain⟨y0,y1⟩:=aG r1
 have f0:=jT _ _ 0 _ _ r1
 have f1:=jT _ _ 1 _ _ r1
 have hlt2:=jS r1
 by_cases h0:er=0
 ·subst h0
  have HR2:=jI (show r=(⟨x.nodes.map jP,x.root⟩,0) by rw[HR.out];rfl)
  have hxv:=GH HE.out.symm
  have HXV:=jI hxv
  obtain⟨b5,hb5⟩:=kE w2.heap.size
  obtain⟨W3,hW3⟩:=kE (w2.alloc (.cells #[.slice none 0 0,.int .i64 x.root] 38))
  have hb3:Below w2.heap.size w2 W3:=by rw[hW3];exact hbA _ _
  have hT0:DSt w W3 b5 x.root [] (.slice none 0 0):=
   ⟨hbw2.trans (hb3.mono hbw2.size),by omega,(hb3.block _ hlt2).trans r1,by rw[hW3,hb5];exact jR _ _,.nil _ _ _ _ _⟩
  have H3:=jI hW3
  have HB5:=jI hb5
  have hlt20:w.heap.size<w2.heap.size:=by omega
  clear hW3 r0 r1 hb2 hb3 hxv hb5
  go_wp2
  rw[←H3.out,←HB5.out]
  clear H3 x0 x1 y0 y1 f0 f1
  go_loopw [22] (fun y wr=>∃(j:Nat)(vn:Value),j≤x.nodes.length∧y=.int .i64 j∧Hid (DSt w wr b5 x.root ((x.nodes.take j).map jP) vn)) (fun y _=>x.nodes.length-(intOf y).toNat)
  case atStart=>exact⟨0,_,cu _,rfl,jI hT0⟩
  case round=>
   obtain⟨j,vn,hj,rfl,hT⟩:=hrel
   by_cases hjl:j<x.nodes.length
   ·obtain⟨g2,o2,nwA,nwc,nkA,nkc,rfl,hSg2,q0,q1,q2,q3,q4,m1,m2,m3,m4⟩:=ru (HN.out.keep (P':=qB wr S) (aj hT.out.b hS) (fun _ _ h=>h.keep (aj hT.out.b hS))) hjl
    obtain⟨n,hn⟩:=kE (x.nodes[j])
    obtain⟨p1,p2,-⟩:=HLM.out.each x.nodes[j] (bQ hjl)
    have htk:=FE x.nodes j hjl
    have hmem:x.nodes[j]∈x.nodes:=bQ hjl
    have hkd:=HXV.out.kind _ hmem
    have hwt:=HXV.out.wt _ hmem
    have hwl:=HXV.out.ws _ hmem
    have hnd:=HXV.out.need _ hmem
    rw[←hn] at q0 q1 q2 q3 q4 m1 m2 m3 m4 p1 p2 htk hkd hwt hwl hnd
    have HTK:=jI htk
    have HWT:=jI hwt
    have HWTO:=jI (wTo_in hwt hwl)
    obtain⟨ac2,hac2⟩:=kE ((x.nodes.take j).map jP)
    rw[←hac2] at hT
    have HAC2:=jI hac2
    have hlen2:ac2.length≤100:=by rw[hac2,List.length_map,fH];omega
    have hbT:=hT.out.b
    have hszr:=hT.out.size
    have hgs2:g2<wr.heap.size:=by have:=hS g2 hSg2;have:=hbT.size;omega
    have hjI:(j:Int)<(x.nodes.length:Int):=by omega
    have hj0:(0:Int)≤(j:Int):=by omega
    obtain⟨kd,sv,nd,nws,nks⟩:=n
    simp only at q0 q1 q2 q3 q4 m1 m2 m3 m4 p1 p2 HTK hkd hwl hnd HWT HWTO
    have HM1:=jI m1
    have HM3:=jI m3
    obtain⟨b14,hb14⟩:=kE wr.heap.size
    clear hn htk hac2 m1 m3 hmem hwt
    go_upto_region 8 with fail
    obtain⟨W2,hW2⟩:=kE (wr.alloc (.cells #[.int .i64 kd,.int .i64 sv,.int .i64 nd,.slice nwA nws.length nwc,.slice nkA nks.length nkc] 79))
    have hb02:Below wr.heap.size wr W2:=by rw[hW2];exact hbA _ _
    have hr14:W2.heap[b14]?=some (.cells #[.int .i64 kd,.int .i64 sv,.int .i64 nd,.slice nwA nws.length nwc,.slice nkA nks.length nkc] 79 (0,0)):=by rw[hW2,hb14];exact jR wr _
    rw[←hW2,←hb14]
    have HB14:=jI hb14
    have hbw:wr.heap.size≤b14:=by omega
    have hb14s:b14≤wr.heap.size:=by omega
    clear hW2 q0 q1 q2 q3 q4 hb14
    have HLAT:=jI (show ∀X,Below b14 W2 X→DSt w X b5 x.root ac2 vn from fun X hb=>hT.out.later (hb02.trans (hb.mono hbw)))
    have HVN:=jI (show ∀g,vn.ownBlock=some g→g<b14 from fun g e=>by
     obtain⟨vs,-,k2,-⟩:=hT.out.row
     exact bZ (k2.lt g e).2 hbw)
    have hlob:b5+1≤b14:=by omega
    have hszb:b14<W2.heap.size:=jS hr14
    have HC1:=jI (fun(X:World)(hk:Kept S wr X)=>mG nws nwA nwc X S (HM1.out.keep hk) (by omega))
    have HC2:=jI (fun(X:World)(hk:Kept S wr X)=>mG nks nkA nkc X S (HM3.out.keep hk) (by omega))
    have hSb:∀g,S g→g<wr.heap.size:=fun g hg=>by have:=hS g hg;have:=hbT.size;omega
    have hSq:∀g,S g→¬g=b14:=fun g hg=>by have:=hSb g hg;omega
    go_cut [] (fun wx=>∃A1 c1 A2 c2,Hid (wx.heap[b14]?=some (.cells #[.int .i64 kd,.int .i64 sv,.int .i64 nd,.slice A1 nws.length c1,.slice A2 nks.length c2] 79 (0,0)))∧Hid (ak wx (b14<·) 1 A1 nws.length (bY nws)∧nws.length≤c1∧ak wx (b14<·) 1 A2 nks.length (bY nks)∧nks.length≤c2)∧But (fun g=>g=b14) W2 wx)
    case first=>
     have HKP:=jI (show ∀X,But (fun g=>g=b14) W2 X→Kept S wr X from fun X bx=>(Kept.trans (aj hb02 hSb) (bx.kept hSq) hb02.size))
     refine av.start (fun W'=>W'.heap[b14]?=some (.cells #[.int .i64 kd,.int .i64 sv,.int .i64 nd,.slice nwA nws.length nwc,.slice nkA nks.length nkc] 79 (0,0))∧But (fun g=>g=b14) W2 W') [7,9] [0,1,3,4,6,8] (by kernel_rfl) ⟨hr14,⟨rfl,rfl,rfl,aP _,fun _ _ _=>rfl⟩⟩ (fun hHeld=>?_)
     obtain⟨g9,bx⟩:=hHeld
     repeat
      refine av.take (v:=?_) rfl (by decide +kernel) (by rfl) (fun _ _ _ h=>h) ⟨g9,bx⟩ ?_ ?_
      rotate_left
      focus
       intro w9 h9
       have k4:=ah h9.1 3 _ rfl
       have k5:=ah h9.1 4 _ rfl
       go_simp
       (try with_reducible rfl)
       done
      simp only[Act.put,List.getElem_toArray,List.getElem_cons_succ,List.getElem_cons_zero,List.setIfInBounds_toArray,List.set_cons_zero,List.set_cons_succ]
     repeat'
      first
      |refine av.pure (v:=?_) rfl (by decide +kernel) (by rfl) (fun _ _ _ h=>h) (by first|exact fun h=>absurd h (by decide)|exact fun _=>⟨g9,bx⟩) ?_ ?_
       rotate_left
       focus
        intro w9
        go_simp
        (try with_reducible rfl)
        done
       simp only[Act.put,List.getElem_toArray,List.getElem_cons_succ,List.getElem_cons_zero,List.setIfInBounds_toArray,List.set_cons_zero,List.set_cons_succ]
      |refine av.one 2 rfl (by decide +kernel) (by rfl) (fun K hK=>?_)
      |refine av.one 5 rfl (by decide +kernel) (by rfl) (fun K hK=>?_)
      |refine av.one 7 rfl (by decide +kernel) (by rfl) (fun K hK=>?_)
      |refine av.one 9 rfl (by decide +kernel) (by rfl) (fun K hK=>?_)
      |refine av.two 5 7 rfl rfl (by decide +kernel) (by rfl) (by rfl) (fun K hK=>?_) (fun K hK=>?_)
      |have z4:=ah g9 3 _ rfl
       have z5:=ah g9 4 _ rfl
       have y4:=jT _ _ 3 _ _ g9
       have y5:=jT _ _ 4 _ _ g9
       go_simp
       first
       |go_at_call 99
        first
        |(with_reducible refine (HC1.out _ (HKP.out _ bx)).mono ?_);rintro e Y1 ⟨v,rfl,hown,hb⟩;obtain⟨A1,c1,rfl,hn1⟩:=aD hown;have hs1:=(ak.own hown).mono (S':=fun g=>b14<g) (fun g8 hg _=>bZ (jS g9) hg) (by decide);clear hown
        |(with_reducible refine (HC2.out _ (HKP.out _ bx)).mono ?_);rintro e Y2 ⟨v,rfl,hown,hb⟩;obtain⟨A2,c2,rfl,hn2⟩:=aD hown;have hs1:=hs1.keep (aA hb);have hs2:=(ak.own hown).mono (S':=fun g=>b14<g) (fun g8 hg _=>bZ (jS g9) hg) (by decide);clear hown
        have g9:=(hb.block _ (jS g9)).trans g9
        have bx:=bx.trans (.of_below hb)
        try go_simp
        refine hK.out _ _ (by first|exact fun h=>absurd h (by decide)|exact fun _=>⟨g9,bx⟩) ?_
        clear hK K z4 z5 y4 y5
       |refine hK.out _ (World.setCell _ ⟨b14,3,none⟩ _) (fun h=>absurd h (by decide)) ?_
        have hs1:=hs1.keep (((But.refl (fun g=>g=b14) _).setCell rfl 3 (.slice A1 nws.length c1)).kept (fun g h e=>by omega))
        try have hs2:=hs2.keep (((But.refl (fun g=>g=b14) _).setCell rfl 3 (.slice A1 nws.length c1)).kept (fun g h e=>by omega))
        have g9:=aF g9 (i:=3) (.slice A1 nws.length c1)
        have bx:=bx.setCell rfl 3 (.slice A1 nws.length c1)
        clear hK K z4 z5 y4 y5
       |refine hK.out _ (World.setCell _ ⟨b14,4,none⟩ _) (fun h=>absurd h (by decide)) ?_
        have hs1:=hs1.keep (((But.refl (fun g=>g=b14) _).setCell rfl 4 (.slice A2 nks.length c2)).kept (fun g h e=>by omega))
        try have hs2:=hs2.keep (((But.refl (fun g=>g=b14) _).setCell rfl 4 (.slice A2 nks.length c2)).kept (fun g h e=>by omega))
        have g9:=aF g9 (i:=4) (.slice A2 nks.length c2)
        have bx:=bx.setCell rfl 4 (.slice A2 nks.length c2)
        clear hK K z4 z5 y4 y5
     all_goals
      refine av.done (by decide +kernel) ?_
      go_wp2_with fail
      go_meet
      exact⟨A1,c1,A2,c2,jI g9,jI ⟨hs1,hn1,hs2,hn2⟩,bx⟩
    case rest=>
     obtain⟨A1,c1,A2,c2,hq,hss,hx9⟩:=hcut
     obtain⟨W9,hW9⟩:=kE wc
     rw[←hW9] at hq hss hx9 ⊢
     clear hW9
     have hbl9:b14<W9.heap.size:=jS hq.out
     have HND:=jI (show (⟨kd,sv,nd,nws,nks⟩:Nd).kind=kd from rfl)
     obtain⟨dn,hdn⟩:=kE ((jP ⟨kd,sv,nd,nws,nks⟩).need)
     have HDN:=jI hdn
     clear hdn
     obtain⟨z0,z1,z2,z3,z4⟩:=aV hq.out
     go_upto_if 36 with fail
     go_cut [] (fun wx=>Hid (wx.heap[b14]?=some (.cells #[.int .i64 kd,.int .i64 sv,.int .i64 dn,.slice A1 nws.length c1,.slice A2 nks.length c2] 79 (0,0)))∧But (fun g=>g=b14) W9 wx)
     case first=>
      rcases hkd with rfl|rfl
      ·have hdn:dn=nd:=HDN.out
       subst hdn
       go_wp2
       go_meet
       exact⟨hq,But.refl _ _⟩
      ·have hdn:dn=max 0 (wTo ⟨2,sv,nd,nws,nks⟩ nks.length-nd+1):=HDN.out
       have HD2:=jI hdn
       clear hdn
       go_wp2
       go_loopw [8,40] (fun y x wn=>∃i:Nat,i≤nks.length∧x=.int .i64 i∧y=.int .i64 (wTo ⟨2,sv,nd,nws,nks⟩ i)∧Below W9.heap.size W9 wn) (fun _ x _=>nks.length-(intOf x).toNat)
       case atStart=>exact⟨0,cu _,rfl,rfl,jQ _ _⟩
       case round=>
        obtain⟨i,hi,rfl,rfl,hbn⟩:=hrel
        have hwi:=HWTO.out i hi
        have hr14b:=(hbn.block _ hbl9).trans hq.out
        obtain⟨z0,z1,z2,z3,z4⟩:=aV hr14b
        have zf:=jT _ _ 2 _ _ hr14b
        by_cases hil:i<nks.length
        ·have hs:=F5 ⟨2,sv,nd,nws,nks⟩ i
         have hwg:=F4 HWT.out (n:=⟨2,sv,nd,nws,nks⟩) (k:=i) (by show nws.length=0∨i<nws.length;omega)
         have HWC:=jI (yE ⟨2,sv,nd,nws,nks⟩ (.agg #[.int .i64 2,.int .i64 sv,.int .i64 nd,.slice A1 nws.length c1,.slice A2 nks.length c2]) i wr (fun g=>b14<g∧g<wr.heap.size) ⟨A1,c1,A2,c2,rfl,(hss.out.1.keep (aA hbn)).mono (fun g h hl=>⟨h,hl⟩) (by decide),hss.out.2.1,(hss.out.2.2.1.keep (aA hbn)).mono (fun g h hl=>⟨h,hl⟩) (by decide),hss.out.2.2.2⟩ (fun g hg=>hg.2) (by show nws.length=0∨i<nws.length;omega) (by show nws.length≤_;omega))
         obtain⟨wg,hwg2⟩:=kE (wgt ⟨2,sv,nd,nws,nks⟩ i)
         rw[←hwg2] at HWC hs hwg
         obtain⟨sm,hsm⟩:=kE (wTo ⟨2,sv,nd,nws,nks⟩ i)
         rw[←hsm] at hs hwi ⊢
         have HS:=jI hs
         have hwrap:IntKind.i64.wrap (sm+wg)=sm+wg:=IntWalk.i64_in _ (by omega)
         have hiI:(i:Int)<(nks.length:Int):=by omega
         have hi0:(0:Int)≤(i:Int):=by omega
         clear hwg2 hsm hs
         go_wp2_with fail
         refine HWC.out.mono ?_
         rintro e w8 ⟨rfl,hb8⟩
         go_wp2
         go_roundw
         case rel=>exact⟨i+1,by omega,by go_num,by rw[HS.out],hbn.trans (hb8.mono hbn.size)⟩
         case measure=>simp[intOf];omega
        ·obtain rfl:i=nks.length:=by omega
         have hiI:¬(nks.length:Int)<(nks.length:Int):=by omega
         obtain⟨sm,hsm⟩:=kE (wTo ⟨2,sv,nd,nws,nks⟩ nks.length)
         rw[←hsm] at hwi HD2 ⊢
         have hw1:IntKind.i64.wrap (sm-nd)=sm-nd:=IntWalk.i64_in _ (by omega)
         have hw2:IntKind.i64.wrap (sm-nd+1)=sm-nd+1:=IntWalk.i64_in _ (by omega)
         clear hsm
         go_wp2
         go_meet
         refine⟨jI ?_,But.setCell (T:=fun g=>g=b14) (b:=b14) (But.of_below hbn) rfl 2 _⟩
         rw[HD2.out]
         exact aF hr14b (i:=2) _
     case rest=>
      clear z0 z1 z2 z3 z4
      obtain⟨hq2,hx2⟩:=hcut
      obtain⟨X9,hX9⟩:=kE wc
      rw[←hX9] at hq2 hx2 ⊢
      clear hX9
      have hbc:Below b14 W2 X9:=(hx9.trans hx2).below (B:=b14) (fun g e=>by omega) (by omega)
      have hTc:=HLAT.out X9 hbc
      obtain⟨vs,hv1,hv2,hv3⟩:=hTc.row
      have HV3:=jI hv3
      have HTC:=jI hTc
      obtain⟨x0,x1⟩:=aG hTc.r5
      obtain⟨z0,z1,z2,z3,z4⟩:=aV hq2.out
      have hszc:=hTc.size
      have hs1:=hss.out.1.keep (hx2.kept (S:=(b14<·)) (fun g h e=>by omega))
      have hs2:=hss.out.2.2.1.keep (hx2.kept (S:=(b14<·)) (fun g h e=>by omega))
      have HS1:=jI hs1
      have HS2:=jI hs2
      have hbl:b14<X9.heap.size:=jS hq2.out
      have hac:=hlen2
      clear hv3 hTc hs1 hs2
      go_wp2_with (at_builtin;refine vT X9 rfl (.tmp 57) (.tmp 59) rfl (b5+1) _ _ _ hv2 rfl kd sv dn A1 nws.length c1 A2 nks.length c2 rfl (by omega) hszc ?_;intro v' w' hown' hg' hv';have hown0:=hown';obtain⟨A3,c3,rfl,hc3⟩:=aD hown0;have r9n:=(hg'.block b5 (by omega) (fun e=>by have:=(hv2.lt _ e.symm).1;omega)).trans HTC.out.r5;obtain⟨x2,x3⟩:=aG r9n;have xf:=jT _ _ 0 _ _ r9n;clear hown0 r9n)
      go_roundw
      case rel=>
       have hdv:jP ⟨kd,sv,nd,nws,nks⟩=⟨kd,sv,dn,nws,nks⟩:=by
        rw[HDN.out]
        unfold jP
        split<;>rfl
       refine⟨j+1,.slice A3 (ac2.length+1) c3,by omega,by go_num,jI ?_⟩
       rw[HTK.out,hdv,←HAC2.out]
       exact HTC.out.node hv1 hv2 HV3.out (u:=.agg #[.int .i64 kd,.int .i64 sv,.int .i64 dn,.slice A1 nws.length c1,.slice A2 nks.length c2]) rfl
        ⟨A1,c1,A2,c2,rfl,HS1.out.mono (fun g hg _=>⟨by omega,fun e=>by have:=HVN.out g e.symm;omega⟩) (by decide),hss.out.2.1,HS2.out.mono (fun g hg _=>⟨by omega,fun e=>by have:=HVN.out g e.symm;omega⟩) (by decide),hss.out.2.2.2⟩ hown' hg' hv'
      case measure=>simp[intOf];omega
   ·obtain rfl:j=x.nodes.length:=by omega
    have hjI:¬(x.nodes.length:Int)<(x.nodes.length:Int):=by omega
    rw[List.take_length] at hT
    have hT1:=hT.out
    obtain⟨An,cn,hvn,hcn,hln⟩:=hT1.row.list iM
    subst hvn
    obtain⟨x0,x1⟩:=aG hT1.r5
    obtain⟨y0,y1⟩:=aG hT1.r1
    have f0:=jT _ _ 0 _ _ hT1.r1
    have f1:=jT _ _ 1 _ _ hT1.r1
    have hszr:=hT1.size
    have hlo:=hT1.lo
    have HLN:=jI hln
    have HT1:=jI hT1
    have hlt9:=jS hT1.r1
    clear hln hT hT1
    go_wp2
    have r6f:=jJ (u':=.slice An x.nodes.length cn) (v':=.int .i64 x.root) HT1.out.r1
    refine qU rfl rfl rfl rfl (aG r6f).1 (aG r6f).2 ?_
    rw[HR2.out]
    have hk2:Kept (fun g=>b5+1≤g) wr ((wr.setCell ⟨w.heap.size+1,0,none⟩ (.slice An x.nodes.length cn)).setCell ⟨w.heap.size+1,1,none⟩ (.int .i64 x.root)):=fun g hg _=>by
     rw[kC _ _ _ g (show g≠w.heap.size+1 by omega),kC _ _ _ g (show g≠w.heap.size+1 by omega)]
    refine⟨_,rfl,⟨An,cn,by simp,?_,hcn⟩,(HT1.out.b.setCell (p:=⟨w.heap.size+1,0,none⟩) (by show w.heap.size≤w.heap.size+1;omega) _).setCell (p:=⟨w.heap.size+1,1,none⟩) (by show w.heap.size≤w.heap.size+1;omega) _⟩
    exact (HLN.out.keep (P':=qB _ (fun g=>b5+1≤g)) hk2 (fun _ _ h=>h.keep hk2)).mono (fun g hg _=>by omega) (by decide) (fun _ _ h=>h.mono (fun g hg _=>by omega))
 ·have HR2:=jI (show r=(ex0,er) by rw[HR.out,if_pos h0])
  have h0b:((er:Int) != 0)=true:=by simp;omega
  have h0c:((er:Int)==0)=false:=by simp;omega
  go_wp2
  have r6f:=jJ (u':=.slice none 0 0) (v':=.int .i64 0) r1
  refine qU rfl rfl rfl rfl (aG r6f).1 (aG r6f).2 ?_
  rw[HR2.out]
  exact⟨_,rfl,nu.zero _ _,(hbw2.setCell (p:=⟨w.heap.size+1,0,none⟩) (by show w.heap.size≤w.heap.size+1;omega) _).setCell (p:=⟨w.heap.size+1,1,none⟩) (by show w.heap.size≤w.heap.size+1;omega) _⟩
end
end Go.Proofs.YtmohibkomlhlaaaGreatDoor
