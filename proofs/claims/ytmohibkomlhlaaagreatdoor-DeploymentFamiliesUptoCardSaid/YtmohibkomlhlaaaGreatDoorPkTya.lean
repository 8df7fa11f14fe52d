/- The contracts of the scope's methods put, is. The contracts of the scope's methods is, each, and of declared and empty. The contract of the scope's beginning, empty. The contracts of the scope's method each, and of empty. The contract of the scope's method fault. The contract of the scope's method term. Terms of a size up to a bound. The contract of the scope's method byzantine, where faults name earlier faults alone. The contracts of the scope's methods add and of behind. -/
import Derived.Maps.OwnOps
import Derived.Test.YtmohibkomlhlaaaGreatDoorPkNms
set_option maxRecDepth 100000
set_option maxHeartbeats 8000000
namespace Go.Proofs.YtmohibkomlhlaaaGreatDoor
section
open Go.RowKit
open _root_.Go.Proofs.Tryz
theorem Ah{w:World}{b:Nat}{v0 v1 v2 v3 v4 v5 v6 v7 v8 v9:Value}{t:TypeId}(h:w.heap[b]?=some (.cells #[v0,v1,v2,v3,v4,v5,v6,v7,v8,v9] t (0,0))):
  w.cell? ⟨b,0,none⟩=some v0∧w.cell? ⟨b,1,none⟩=some v1∧w.cell? ⟨b,2,none⟩=some v2∧w.cell? ⟨b,3,none⟩=some v3∧w.cell? ⟨b,4,none⟩=some v4∧w.cell? ⟨b,5,none⟩=some v5∧w.cell? ⟨b,6,none⟩=some v6∧w.cell? ⟨b,7,none⟩=some v7∧w.cell? ⟨b,8,none⟩=some v8∧w.cell? ⟨b,9,none⟩=some v9∧∀i,w.frozen? ⟨b,i,none⟩=false:=
 ⟨(j5 _ _ _ _ _ _ h).trans rfl,(j5 _ _ _ _ _ _ h).trans rfl,(j5 _ _ _ _ _ _ h).trans rfl,(j5 _ _ _ _ _ _ h).trans rfl,(j5 _ _ _ _ _ _ h).trans rfl,(j5 _ _ _ _ _ _ h).trans rfl,(j5 _ _ _ _ _ _ h).trans rfl,(j5 _ _ _ _ _ _ h).trans rfl,(j5 _ _ _ _ _ _ h).trans rfl,(j5 _ _ _ _ _ _ h).trans rfl,fun i=>jT _ _ i _ _ h⟩
theorem eU(w:World):(zeroValue 3).run prog w=.ok (.int .i64 0) w:=by kernel_rfl
theorem zero_dc(w:World):(zeroValue 35).run prog w=.ok (.agg #[.int .i64 0,.int .i64 0,.string ByteArray.empty,.slice none 0 0,.slice none 0 0,.int .i64 0,.string ByteArray.empty,.int .i64 0,.slice none 0 0,.slice none 0 0,.string ByteArray.empty,.int .i64 0,.string ByteArray.empty,.int .i64 0,.slice none 0 0,.slice none 0 0,.int .i64 0,.string ByteArray.empty,.int .i64 0,.slice none 0 0,.slice none 0 0,.string ByteArray.empty]) w:=by kernel_rfl
theorem cell_of_block{w w':World}{b i:Nat}(h:w'.heap[b]?=w.heap[b]?):w'.cell? ⟨b,i,none⟩=w.cell? ⟨b,i,none⟩:=by
 unfold World.cell?
 rw[h]
theorem vS{w:World}{b:Nat}{cs:List Value}{t:TypeId}{fr:Nat × Nat}(h:w.heap[b]?=some (.cells cs.toArray t fr)):w.rangeAt b 0 cs:=fun j v hv=>by
 rw[j5 w b (0+j) _ t fr h]
 simpa using hv
theorem bB:prog.underlying 9=some .string:=underlying9
section
variable {w:World} {S:Nat→Prop} {b kb db wb cb zb n zn:Nat} {t:Tab} {ns nc nl:Nat} {oth chn:Bool} {W C:List ByteArray} {Z:ByteArray→Option Bool}
theorem put_any(h:Sc prog 121 w S b kb db wb cb zb n zn t ns nc nl oth chn W C Z)(hn:n<1000000000000)(name:ByteArray)(hnm:name.size≤maxLen)(k:Int)(hk:k≠0)(d:Dc)(v:Value)(hd:dS w S d v):
  Calls prog 92 #[.pointer (some ⟨b,0,none⟩),.string name,.int .i64 k,v] w fun e w'=>e=.returned (.tuple #[])∧
   Sc prog 121 w' S b kb db wb cb zb (n+1) zn (t++[(name,k,d)]) ns nc nl oth chn W C Z∧But (fun g=>g=kb∨g=db) w w':=by
 obtain⟨c0,c1,-,-,-,-,-,-,-,-,-⟩:=Ah h.row
 have hbs:=h.lt.1
 have hd':=hd
 obtain⟨nA,nc',fA,fc,vt,vr,vw,hv,-,-,-,-,h5,h6,h7⟩:=hd
 obtain⟨o1,m1,d1,wA1,wn1,wc1,kA1,kn1,kc1,rfl⟩:=h5.form
 obtain⟨o2,m2,d2,wA2,wn2,wc2,kA2,kn2,kc2,rfl⟩:=h6.form
 obtain⟨o3,m3,d3,wA3,wn3,wc3,kA3,kn3,kc3,rfl⟩:=h7.form
 subst hv
 simp only[Value.cells,List.append_toArray,List.cons_append,List.nil_append]
 obtain⟨w0,hw0⟩:=kE (w.alloc (.cells (xX d.kind d.line d.name nA d.names.length nc' fA d.faults.length fc o1 m1 d1 wA1 wn1 wc1 kA1 kn1 kc1 d.proto o2 m2 d2 wA2 wn2 wc2 kA2 kn2 kc2 o3 m3 d3 wA3 wn3 wc3 kA3 kn3 kc3 d.use) 35 (0,0)))
 have hb0:Below w.heap.size w w0:=by rw[hw0];exact (jQ _ _).alloc (aP _) _
 have h0:=h.below hb0
 have hkd:kb<w.heap.size∧db<w.heap.size:=⟨h.kinds.lt,by obtain⟨g,hg,-⟩:=h.decls;exact hg.lt⟩
 have HD:=jI (hd'.keep (aA hb0))
 clear hd'
 have HZ0:=jI (show w0.heap.size=w.heap.size+1 by rw[hw0];simp)
 have HR0:=jI (show w0.heap[w.heap.size]?=some (.cells (xX d.kind d.line d.name nA d.names.length nc' fA d.faults.length fc o1 m1 d1 wA1 wn1 wc1 kA1 kn1 kc1 d.proto o2 m2 d2 wA2 wn2 wc2 kA2 kn2 kc2 o3 m3 d3 wA3 wn3 wc3 kA3 kn3 kc3 d.use) 35 (0,0)) by rw[hw0];exact jR w _)
 have c0':=(hb0.cell (p:=⟨b,0,none⟩) hbs).trans c0
 have c1':=(hb0.cell (p:=⟨b,1,none⟩) hbs).trans c1
 have HK:=jI h0.kinds
 have HH:=jI h0
 have HW0:=jI hw0
 clear h0 h h5 h6 h7 hw0 c0 c1
 go_enter func92,ntmps92
 go_upto_region 1 with fail
 rw[←HW0.out]
 clear HW0
 by_cases hz:kS t name=0
 ·have hzI:(kS t name==(0:Int))=true:=by rw[hz];rfl
  go_wp2_with (at_lookup;refine jv _ rfl _ _ 117 rfl 9 3 bB underlying117 (eU _) kb n _ rfl HK.out name hnm rfl _ (wO t name) ?_)
  obtain⟨v0,st,W1,e1,g1,z1,r1⟩:=(show bH prog w0.drew 9 kb n (kF t) from HK.out).entry bB underlying117 eU (by unfold maxLen;omega) hnm
  obtain⟨W2,e2,m2',g2,z2⟩:=r1 W1 (.int .i64 k) rfl
  obtain⟨g,hg,hall⟩:=HH.out.decls
  have hne:=HH.out.ne
  have hbk:But (fun x=>x=kb) w0 W2:=(But.bE (T:=fun x=>x=kb) (show w0.grownBy W1 (some kb) from ⟨g1.os,g1.tape,g1.output,g1.size,g1.block⟩) rfl).trans (.bE g2 rfl)
  obtain⟨v1,st',W3,e3,g3,z3,r3⟩:=(hg.but hbk (by omega)).entry bB underlying118 zero_dc (by unfold maxLen;omega) hnm
  obtain⟨W4,e4,m4,g4,z4⟩:=r3 W3 (.agg #[.int .i64 d.kind,.int .i64 d.line,.string d.name,.slice nA d.names.length nc',.slice fA d.faults.length fc,.int .i64 o1,.string m1,.int .i64 d1,.slice wA1 wn1 wc1,.slice kA1 kn1 kc1,.string d.proto,.int .i64 o2,.string m2,.int .i64 d2,.slice wA2 wn2 wc2,.slice kA2 kn2 kc2,.int .i64 o3,.string m3,.int .i64 d3,.slice wA3 wn3 wc3,.slice kA3 kn3 kc3,.string d.use]) rfl
  have hb1:But (fun x=>x=kb∨x=db) w0 W1:=.bE (show w0.grownBy W1 (some kb) from ⟨g1.os,g1.tape,g1.output,g1.size,g1.block⟩) (Or.inl rfl)
  have hb2:=hb1.trans (.bE g2 (Or.inl rfl))
  have hb3:=hb2.trans (.bE g3 (Or.inr rfl))
  have hb4:=hb3.trans (.bE g4 (Or.inr rfl))
  have hbs0:b<w0.heap.size:=HH.out.lt.1
  have hkdl:kb<w.heap.size∧db<w.heap.size:=hkd
  have hz0:w0.heap.size=w.heap.size+1:=HZ0.out
  have s0:∀W,But (fun x=>x=kb∨x=db) w0 W→W.cell? ⟨b,0,none⟩=some (.map (some kb)):=fun W hW=>(cell_of_block (hW.block b (by omega) hbs0)).trans c0'
  have s1:∀W,But (fun x=>x=kb∨x=db) w0 W→W.cell? ⟨b,1,none⟩=some (.map (some db)):=fun W hW=>(cell_of_block (hW.block b (by omega) hbs0)).trans c1'
  have s2:∀W,But (fun x=>x=kb∨x=db) w0 W→W.heap[w.heap.size]?=some (.cells (xX d.kind d.line d.name nA d.names.length nc' fA d.faults.length fc o1 m1 d1 wA1 wn1 wc1 kA1 kn1 kc1 d.proto o2 m2 d2 wA2 wn2 wc2 kA2 kn2 kc2 o3 m3 d3 wA3 wn3 wc3 kA3 kn3 kc3 d.use) 35 (0,0)):=fun W hW=>(hW.block _ (by omega) (by omega)).trans HR0.out
  have hb0':But (fun x=>x=kb∨x=db) w0 w0.drew:=⟨rfl,rfl,rfl,aP _,fun _ _ _=>rfl⟩
  refine av.start (fun w'=>w'.cell? ⟨b,0,none⟩=some (.map (some kb))∧w'.cell? ⟨b,1,none⟩=some (.map (some db))∧w'.heap[w.heap.size]?=some (.cells (xX d.kind d.line d.name nA d.names.length nc' fA d.faults.length fc o1 m1 d1 wA1 wn1 wc1 kA1 kn1 kc1 d.proto o2 m2 d2 wA2 wn2 wc2 kA2 kn2 kc2 o3 m3 d3 wA3 wn3 wc3 kA3 kn3 kc3 d.use) 35 (0,0))) [] [0,1,2,3,4,5,6,7,8,9,10,11,12,13,14,15,16,17] (by kernel_rfl) (⟨s0 _ hb0',s1 _ hb0',s2 _ hb0'⟩) (fun hHeld=>?_)
  repeat
   first
   |refine av.skip rfl (by decide +kernel) (by rfl) (fun _ _ _ h=>h) hHeld ?_
   |refine av.take (v:=?_) rfl (by decide +kernel) (by rfl) (fun _ _ _ h=>h) hHeld ?_ ?_
    rotate_left
    focus
     intro w9 hS9
     (try dsimp only at hS9)
     go_simp
     (try with_reducible rfl)
     done
   try simp only[Act.put,List.getElem_toArray,List.getElem_cons_succ,List.getElem_cons_zero,List.setIfInBounds_toArray,List.set_cons_zero,List.set_cons_succ]
  refine av.take (v:=?_) rfl (by decide +kernel) (by rfl) (fun _ _ _ h=>h) hHeld ?_ ?_
  rotate_left
  focus
   intro w9 hS9
   show Sem.run _ (do pure (Next.value (←Instr.loadAt 35 (.pointer (some ⟨w.heap.size,0,none⟩))))) w9=_
   rw[Sem.run_bind,run_loadAt_mid w9 w.heap.size 0 35 _ _ (vS hS9.2.2) underlying35 rfl cZ]
   rfl
  try simp only[Act.put,List.getElem_toArray,List.getElem_cons_succ,List.getElem_cons_zero,List.setIfInBounds_toArray,List.set_cons_zero,List.set_cons_succ]
  refine av.call rfl (by decide +kernel) (by rfl) (fun K hK=>?_)
  go_simp
  have hHeld:=And.intro (s0 _ hb1) (And.intro (s1 _ hb1) (s2 _ hb1))
  refine hK.out _ _ (fun _=>hHeld) ?_
  clear hK K
  try simp only[Act.put,List.getElem_toArray,List.getElem_cons_succ,List.getElem_cons_zero,List.setIfInBounds_toArray,List.set_cons_zero,List.set_cons_succ]
  repeat
   first
   |refine av.skip rfl (by decide +kernel) (by rfl) (fun _ _ _ h=>h) hHeld ?_
   |refine av.take (v:=?_) rfl (by decide +kernel) (by rfl) (fun _ _ _ h=>h) hHeld ?_ ?_
    rotate_left
    focus
     intro w9 hS9
     (try dsimp only at hS9)
     go_simp
     (try with_reducible rfl)
     done
   try simp only[Act.put,List.getElem_toArray,List.getElem_cons_succ,List.getElem_cons_zero,List.setIfInBounds_toArray,List.set_cons_zero,List.set_cons_succ]
  refine av.call rfl (by decide +kernel) (by rfl) (fun K hK=>?_)
  go_simp
  have hHeld:=And.intro (s0 _ hb2) (And.intro (s1 _ hb2) (s2 _ hb2))
  refine hK.out _ _ (fun _=>hHeld) ?_
  clear hK K
  try simp only[Act.put,List.getElem_toArray,List.getElem_cons_succ,List.getElem_cons_zero,List.setIfInBounds_toArray,List.set_cons_zero,List.set_cons_succ]
  refine av.call rfl (by decide +kernel) (by rfl) (fun K hK=>?_)
  go_simp
  have hHeld:=And.intro (s0 _ hb3) (And.intro (s1 _ hb3) (s2 _ hb3))
  refine hK.out _ _ (fun _=>hHeld) ?_
  clear hK K
  try simp only[Act.put,List.getElem_toArray,List.getElem_cons_succ,List.getElem_cons_zero,List.setIfInBounds_toArray,List.set_cons_zero,List.set_cons_succ]
  repeat
   first
   |refine av.skip rfl (by decide +kernel) (by rfl) (fun _ _ _ h=>h) hHeld ?_
   |refine av.take (v:=?_) rfl (by decide +kernel) (by rfl) (fun _ _ _ h=>h) hHeld ?_ ?_
    rotate_left
    focus
     intro w9 hS9
     (try dsimp only at hS9)
     go_simp
     (try with_reducible rfl)
     done
   try simp only[Act.put,List.getElem_toArray,List.getElem_cons_succ,List.getElem_cons_zero,List.setIfInBounds_toArray,List.set_cons_zero,List.set_cons_succ]
  refine av.call rfl (by decide +kernel) (by rfl) (fun K hK=>?_)
  go_simp
  have hHeld:=And.intro (s0 _ hb4) (And.intro (s1 _ hb4) (s2 _ hb4))
  refine hK.out _ _ (fun _=>hHeld) ?_
  clear hK K
  try simp only[Act.put,List.getElem_toArray,List.getElem_cons_succ,List.getElem_cons_zero,List.setIfInBounds_toArray,List.set_cons_zero,List.set_cons_succ]
  refine av.done (by decide +kernel) ?_
  go_wp2
  go_end0
  refine⟨rfl,?_,(But.of_below hb0).trans hb4⟩
  clear hHeld s0 s1 s2 e1 e2 e3 e4
  have ho:dN t name=none:=(ze HH.out.nz name).1 hz
  exact HH.out.put_new ho hk HD.out hall m2' (au (show w0.grownBy W1 (some kb) from ⟨g1.os,g1.tape,g1.output,g1.size,g1.block⟩) g2) m4 (au g3 g4)
 ·have hzI:(kS t name==(0:Int))=false:=by rw[bP];exact hz
  go_wp2_with (at_lookup;refine jv _ rfl _ _ 117 rfl 9 3 bB underlying117 (eU _) kb n _ rfl HK.out name hnm rfl _ (wO t name) ?_)
  go_end0
  refine⟨rfl,?_,.of_below hb0⟩
  have ho:(dN t name).isSome=true:=by
   rw[Option.isSome_iff_ne_none]
   exact fun e=>hz ((ze HH.out.nz name).2 e)
  exact HH.out.put_old ho hk
end
end
section
open Go.RowKit
open _root_.Go.Proofs.Tryz
def tyK(t:Tab):List (ByteArray × Int):=t.map fun p=>(p.1,p.2.1)
theorem tyK_find(t:Tab)(x:ByteArray):aQ (tyK t) x=kS t x:=Dj t x
theorem lI(l:List Dc):tyK (kZ l)=tab l:=Gb l
theorem isE_tyK(t:Tab)(x:ByteArray)(ks:List Int):isE (tyK t) x ks=if kS t x=0 then 4 else if ks.contains (kS t x) then 0 else 11:=by unfold isE;rw[tyK_find]
theorem qC(w:World):(zeroValue 4).run prog w=.ok (.bool false) w:=by kernel_rfl
theorem iE:prog.underlying 3=some (.int .i64):=underlying3
section
variable {w:World} {b kb n:Nat} {t:Tab}
theorem is_scope(c0:w.cell? ⟨b,0,none⟩=some (.map (some kb)))(hK:bH prog w 9 kb n (kF t))(name:ByteArray)(hnm:name.size≤maxLen)(g o c:Nat)(ks:List Int)(hks:ks.length≤1000)
  (hc:∀j,j<ks.length→w.cell? ⟨g,o+j,none⟩=some (.int .i64 (ks.getD j 0))):
  Calls prog 89 #[.pointer (some ⟨b,0,none⟩),.string name,.slice (some ⟨g,o,none⟩) ks.length c] w fun e w'=>e=.returned (.int .i64 (isE (tyK t) name ks))∧w=w':=by
 have HK:=jI hK
 have HC:=jI (Tryz.slices_Contains_int g o ks.length c ks (kS t name) w (aP _) (by omega) hc)
 rw[List.take_length] at HC
 rw[isE_tyK]
 clear hK hc
 obtain⟨k,hk⟩:=kE (kS t name)
 have hg:(kF t name).getD (.int .i64 0)=.int .i64 k:=by rw[hk];exact wO t name
 rw[←hk] at HC ⊢
 clear hk
 by_cases hz:k=0
 ·subst hz
  go_enter func89,ntmps89
  go_wp2_with (at_lookup;refine jv _ rfl _ _ 117 rfl 9 3 bB underlying117 (eU _) kb n _ rfl HK.out name hnm rfl _ hg ?_)
  go_ret
  exact⟨rfl,rfl⟩
 ·have hzI:(k==(0:Int))=false:=by rw[bP];exact hz
  rw[if_neg hz]
  cases hq:ks.contains k
  ·rw[hq] at HC
   clear hq hz
   go_enter func89,ntmps89
   go_wp2_with (first|(at_lookup;refine jv _ rfl _ _ 117 rfl 9 3 bB underlying117 (eU _) kb n _ rfl HK.out name hnm rfl _ hg ?_)|(go_at_call 122;refine HC.out.mono ?_;rintro e w' ⟨rfl,rfl⟩))
   go_ret
   exact⟨rfl,rfl⟩
  ·rw[hq] at HC
   clear hq hz
   go_enter func89,ntmps89
   go_wp2_with (first|(at_lookup;refine jv _ rfl _ _ 117 rfl 9 3 bB underlying117 (eU _) kb n _ rfl HK.out name hnm rfl _ hg ?_)|(go_at_call 122;refine HC.out.mono ?_;rintro e w' ⟨rfl,rfl⟩))
   go_ret
   exact⟨rfl,rfl⟩
theorem wP(c0:w.cell? ⟨b,0,none⟩=some (.map (some kb)))(hK:bH prog w 9 kb n (kF t))(name:ByteArray)(hnm:name.size≤maxLen)(ks:List Int)(hks:ks.length≤1000)(c:Nat)(T:TypeId):
  Calls prog 89 #[.pointer (some ⟨b,0,none⟩),.string name,.slice (some ⟨w.heap.size,0,none⟩) ks.length c] (w.alloc (.cells (ks.map (Value.int .i64)).toArray T)) fun e w'=>
   e=.returned (.int .i64 (isE (tyK t) name ks))∧w.alloc (.cells (ks.map (Value.int .i64)).toArray T)=w':=by
 have hb:Below w.heap.size w (w.alloc (.cells (ks.map (Value.int .i64)).toArray T)):=(jQ _ _).alloc (aP _) _
 refine is_scope ((hb.cell (p:=⟨b,0,none⟩) (World.block_lt_of_cell? w _ c0)).trans c0) (hK.below hb hK.lt) name hnm w.heap.size 0 c ks hks (fun j hj=>?_)
 rw[j5 _ _ (0+j) _ _ _ (jR w _)]
 simp[hj]
end
theorem inI(k:Int)(h:-9223372036854775808≤k∧k≤9223372036854775807):InI k:=by
 unfold InI
 simp[Lit.wf,IntKind.min,IntKind.max,IntKind.signed,IntKind.bits]
 omega
def dKF(k:Int):Option Value:=if k=6 then some (.int .i64 6) else if k=4 then some (.int .i64 5) else if k=3 then some (.int .i64 4) else if k=2 then some (.int .i64 3) else if k=1 then some (.int .i64 1) else none
theorem dKF_getD(k:Int):(dKF k).getD (.int .i64 0)=.int .i64 (dI k):=by
 unfold dKF dI
 by_cases h1:k=1
 ·subst h1;rfl
 by_cases h2:k=2
 ·subst h2;rfl
 by_cases h3:k=3
 ·subst h3;rfl
 by_cases h4:k=4
 ·subst h4;rfl
 by_cases h6:k=6
 ·subst h6;rfl
 rw[if_neg h6,if_neg h4,if_neg h3,if_neg h2,if_neg h1,if_neg h1,if_neg h2,if_neg h3,if_neg h4,if_neg h6]
 rfl
theorem uf(d:Dc)(v:Value)(w:World)(S:Nat→Prop)(hd:dS w S d v)(hk:-9223372036854775808≤d.kind∧d.kind≤9223372036854775807):
  Calls prog 86 #[v] w fun e w'=>e=.returned (.int .i64 (dI d.kind))∧Below w.heap.size w w':=by
 obtain⟨nA,nc',fA,fc,vt,vr,vw,rfl,-,-,-,-,h5,h6,h7⟩:=hd
 obtain⟨o1,m1,d1,wA1,wn1,wc1,kA1,kn1,kc1,rfl⟩:=h5.form
 obtain⟨o2,m2,d2,wA2,wn2,wc2,kA2,kn2,kc2,rfl⟩:=h6.form
 obtain⟨o3,m3,d3,wA3,wn3,wc3,kA3,kn3,kc3,rfl⟩:=h7.form
 clear h5 h6 h7
 simp only[Value.cells,List.append_toArray,List.cons_append,List.nil_append]
 obtain⟨w0,hw0⟩:=kE (w.alloc (.cells (xX d.kind d.line d.name nA d.names.length nc' fA d.faults.length fc o1 m1 d1 wA1 wn1 wc1 kA1 kn1 kc1 d.proto o2 m2 d2 wA2 wn2 wc2 kA2 kn2 kc2 o3 m3 d3 wA3 wn3 wc3 kA3 kn3 kc3 d.use) 35 (0,0)))
 have hb0:Below w.heap.size w w0:=by rw[hw0];exact (jQ _ _).alloc (aP _) _
 have hz0:w0.heap.size=w.heap.size+1:=by rw[hw0];simp
 have hk0:w0.cell? ⟨w.heap.size,0,none⟩=some (.int .i64 d.kind):=by rw[hw0,j5 _ _ 0 _ _ _ (jR w _)];rfl
 have HW0:=jI hw0
 clear hw0
 have HM0:=jI (lG.made prog w0 3)
 have hb00:Below w.heap.size w (w0.alloc (.map #[] 0)):=hb0.alloc (by omega) _
 have HKC:=jI (show ∀W,But (fun x=>x=w0.heap.size) (w0.alloc (.map #[] 0)) W→W.cell? ⟨w.heap.size,0,none⟩=some (.int .i64 d.kind) from fun W hW=>by
  rw[cell_of_block (hW.block _ (by omega) (by simp;omega))]
  exact (World.cell?_alloc_lt _ _ _ (by simp only;omega)).trans hk0)
 have uH:=jI (show ∀W,But (fun x=>x=w0.heap.size) (w0.alloc (.map #[] 0)) W→Below w.heap.size w W from fun W hW=>hb00.trans (hW.below (fun g hg=>by omega) (by simp;omega)))
 have hik:=inI d.kind hk
 clear hz0 hk0 hb0 hb00 hk
 have hmm:=@run_makeMap prog
 go_enter func86,ntmps86
 go_upto_region 1 with fail
 rw[←HW0.out]
 clear HW0
 go_wp2_with (first|(refine eX _ rfl _ _ _ 137 rfl 3 3 iE underlying137 w0.heap.size 0 _ rfl HM0.out (by decide) 1 (inI _ (by decide)) rfl (.int .i64 1) rfl ?_;intro w1 m1 g1 z1)|(refine eX _ rfl _ _ _ 137 rfl 3 3 iE underlying137 w0.heap.size 1 _ rfl m1 (by decide) 2 (inI _ (by decide)) rfl (.int .i64 3) rfl ?_;intro w2 m2 g2 z2)|(refine eX _ rfl _ _ _ 137 rfl 3 3 iE underlying137 w0.heap.size 2 _ rfl m2 (by decide) 3 (inI _ (by decide)) rfl (.int .i64 4) rfl ?_;intro w3 m3 g3 z3)|(refine eX _ rfl _ _ _ 137 rfl 3 3 iE underlying137 w0.heap.size 3 _ rfl m3 (by decide) 4 (inI _ (by decide)) rfl (.int .i64 5) rfl ?_;intro w4 m4 g4 z4)|(refine eX _ rfl _ _ _ 137 rfl 3 3 iE underlying137 w0.heap.size 4 _ rfl m4 (by decide) 6 (inI _ (by decide)) rfl (.int .i64 6) rfl ?_;intro w5 m5 g5 z5;have kc:=HKC.out w5 (((((But.bE (T:=fun x=>x=w0.heap.size) g1 rfl).trans (.bE g2 rfl)).trans (.bE g3 rfl)).trans (.bE g4 rfl)).trans (.bE g5 rfl));have hfin:=uH.out w5 (((((But.bE (T:=fun x=>x=w0.heap.size) g1 rfl).trans (.bE g2 rfl)).trans (.bE g3 rfl)).trans (.bE g4 rfl)).trans (.bE g5 rfl));have m6:lG prog w5 3 w0.heap.size 5 dKF:=m5)|(at_lookup;refine vD _ rfl _ _ 137 rfl 3 3 iE underlying137 (eU _) w0.heap.size 5 _ rfl m6 d.kind hik rfl _ (dKF_getD d.kind) ?_))
 go_ret
 exact⟨rfl,hfin⟩
end
section
open Go.RowKit
open _root_.Go.Proofs.Tryz
theorem bH.again{P:Program}{w w':World}{k:TypeId}{b n:Nat}{f:ByteArray→Option Value}(h:bH P w k b n f)(hb:Below w.heap.size w w'):bH P w' k b n f:=h.below hb h.lt
theorem Dv(w:World)(S:Nat→Prop)(hS:∀g,S g→g<w.heap.size):
  Calls prog 60 #[] w fun e w'=>∃b kb db wb cb zb,e=.returned (.pointer (some ⟨b,0,none⟩))∧Sc prog 121 w' S b kb db wb cb zb 0 0 [] 0 0 0 false false [] [] (fun _=>none)∧Below w.heap.size w w'∧
   (w.heap.size≤b∧w.heap.size≤kb∧w.heap.size≤db∧w.heap.size≤wb∧w.heap.size≤cb∧w.heap.size≤zb):=by
 have hmm:=@run_makeMap prog
 go_enter func60,ntmps60
 go_wp2
 go_ret
 obtain⟨m,hm⟩:=kE w.heap.size
 rw[←hm]
 have ba:∀(W:World)(o:Obj),Below W.heap.size W (W.alloc o):=fun W o=>(jQ _ _).alloc (aP _) o
 obtain⟨w1,h1⟩:=kE (w.alloc (.map #[] 0))
 obtain⟨w2,h2⟩:=kE (w1.alloc (.map #[] 0))
 obtain⟨w3,h3⟩:=kE (w2.alloc (.map #[] 0))
 obtain⟨w4,h4⟩:=kE (w3.alloc (.map #[] 0))
 obtain⟨w5,h5⟩:=kE (w4.alloc (.map #[] 0))
 rw[←h1,←h2,←h3,←h4,←h5]
 have s1:w1.heap.size=m+1:=by rw[h1,hm];simp
 have s2:w2.heap.size=m+1+1:=by rw[h2,←s1];simp
 have s3:w3.heap.size=m+1+1+1:=by rw[h3,←s2];simp
 have s4:w4.heap.size=m+1+1+1+1:=by rw[h4,←s3];simp
 have s5:w5.heap.size=m+1+1+1+1+1:=by rw[h5,←s4];simp
 have b2:Below w1.heap.size w1 w2:=by rw[h2];exact ba _ _
 have b3:Below w2.heap.size w2 w3:=by rw[h3];exact ba _ _
 have b4:Below w3.heap.size w3 w4:=by rw[h4];exact ba _ _
 have b5:Below w4.heap.size w4 w5:=by rw[h5];exact ba _ _
 have b1:Below w.heap.size w w1:=by rw[h1];exact ba _ _
 have m1:bH prog w1 9 m 0 (fun _=>none):=by rw[h1,hm];exact bH.made _ _ _
 have m2:bH prog w2 9 (m+1) 0 (fun _=>none):=by rw[h2,←s1];exact bH.made _ _ _
 have m3:bH prog w3 9 (m+1+1) 0 (fun _=>none):=by rw[h3,←s2];exact bH.made _ _ _
 have m4:bH prog w4 9 (m+1+1+1) 0 (fun _=>none):=by rw[h4,←s3];exact bH.made _ _ _
 have m5:bH prog w5 9 (m+1+1+1+1) 0 (fun _=>none):=by rw[h5,←s4];exact bH.made _ _ _
 have b6:=ba w5 (.cells #[.map (some m),.map (some (m+1)),.int .i64 0,.int .i64 0,.int .i64 0,.bool false,.bool false,.map (some (m+1+1)),.map (some (m+1+1+1)),.map (some (m+1+1+1+1))] 121)
 have hfr:=jR w5 (.cells #[.map (some m),.map (some (m+1)),.int .i64 0,.int .i64 0,.int .i64 0,.bool false,.bool false,.map (some (m+1+1)),.map (some (m+1+1+1)),.map (some (m+1+1+1+1))] 121)
 refine⟨m+1+1+1+1+1,m,m+1,m+1+1,m+1+1+1,m+1+1+1+1,rfl,⟨by rw[←s5];exact hfr,((((m1.again b2).again b3).again b4).again b5).again b6,⟨fun _=>none,(((m2.again b3).again b4).again b5).again b6,fun x=>Or.inl ⟨rfl,rfl⟩⟩,((m3.again b4).again b5).again b6,(m4.again b5).again b6,m5.again b6,(fun p hp=>absurd hp (List.not_mem_nil)),
  (by omega),fun g hg=>by have:=hS g hg;omega,⟨by simp;omega,fun g hg=>by have:=hS g hg;simp;omega⟩⟩,?_,by omega⟩
 have c5:=b5.trans (b6.mono b5.size)
 have c4:=b4.trans (c5.mono b4.size)
 have c3:=b3.trans (c4.mono b3.size)
 have c2:=b2.trans (c3.mono b2.size)
 have c1:=b1.trans (c2.mono b1.size)
 rw[←hm] at c1
 exact c1
theorem zy(t:List (ByteArray × Int))(k:Int)(seen r:List ByteArray)(x:ByteArray):mF t k seen (x::r)=if isE t x [k]≠0 then isE t x [k] else if seen.contains x then 5 else mF t k (seen++[x]) r:=rfl
theorem GJ{w:World}{b kb sb n m:Nat}{t:Tab}(L l:List ByteArray)(A:Option Addr)(c:Nat)(S:Nat→Prop)(kd:Int)(hl:ak w S 1 A l.length (aC l))(hS:∀g,S g→g<w.heap.size∧g≠sb)
  (c0:w.cell? ⟨b,0,none⟩=some (.map (some kb))) (hK:bH prog w 9 kb n (kF t)) (hM:bH prog w 9 sb m (qP L)) (hne:sb≠b∧sb≠kb) (hsz:∀x∈l,x.size≤maxLen) (hlen:l.length≤1000000000) (hm:m≤1000000000):
  Calls prog 91 #[.pointer (some ⟨b,0,none⟩),.slice A l.length c,.int .i64 kd,.map (some sb)] w fun e w'=>
   e=.returned (.int .i64 (mF (tyK t) kd L l))∧But (fun g=>g=sb) w w'∧(mF (tyK t) kd L l=0→bH prog w' 9 sb (m+l.length) (qP (L++l))):=by
 have HL:=jI hl
 have HK:=jI hK
 have HSZ:=jI hsz
 have HM:=jI hM
 have hbs:b<w.heap.size:=World.block_lt_of_cell? w _ c0
 clear hl hK hsz hM
 obtain⟨r,hr⟩:=kE (mF (tyK t) kd L l)
 rw[←hr]
 have HR:=jI hr
 clear hr
 go_enter func91,ntmps91
 go_wp2
 go_loopw [14] (fun x wr=>∃k:Nat,k≤l.length∧x=.int .i64 k∧But (fun g=>g=sb) w wr∧bH prog wr 9 sb (m+k) (qP (L++l.take k))∧Hid (mF (tyK t) kd L l=mF (tyK t) kd (L++l.take k) (l.drop k))) (fun x _=>l.length-(intOf x).toNat)
 case atStart=>exact⟨0,cu _,rfl,.refl _ _,by simpa using HM.out,jI (by simp)⟩
 case round=>
  obtain⟨k,hk,rfl,hb,hmm,hd⟩:=hrel
  have HMM:=jI hmm
  have HB:=jI hb
  have hsr:=hb.size
  clear hmm
  by_cases hlt:k<l.length
  ·obtain⟨g,o,rfl,hSg,hc⟩:=HL.out.cells (by omega)
   have hkI:(k:Int)<(l.length:Int):=by omega
   have hk0:(0:Int)≤(k:Int):=by omega
   obtain⟨x,hx⟩:=kE (l[k])
   have hcx:wr.cell? ⟨g,o+k,none⟩=some (.string x):=(cell_of_block (hb.block g (hS g hSg).2 (hS g hSg).1)).trans ((hc k _ (dV l k hlt)).trans (by rw[hx];simp[hlt]))
   have hxs:x.size≤maxLen:=HSZ.out x (by rw[hx];exact bQ hlt)
   have hdk:l.drop k=x::l.drop (k+1):=by rw[hx];exact fE hlt
   have htk:l.take (k+1)=l.take k++[x]:=by rw[hx];exact cO hlt
   have hE:mF (tyK t) kd L l=if isE (tyK t) x [kd]≠0 then isE (tyK t) x [kd] else if (L++l.take k).contains x then 5 else mF (tyK t) kd (L++l.take (k+1)) (l.drop (k+1)):=by
    rw[hd.out,hdk,zy,htk,List.append_assoc]
   have HIS:=jI (fun(cc:Nat)(T:TypeId)=>wP (b:=b) (kb:=kb) (t:=t) ((cell_of_block (hb.block b (by omega) hbs)).trans c0) (HK.out.but hb (by omega)) x hxs [kd] (by simp) cc T)
   simp only[List.map_cons,List.map_nil,List.length_singleton] at HIS
   have HTK:=jI htk
   have HE:=jI hE
   clear hd hc hdk hx hb htk hE
   obtain⟨q,hq⟩:=kE (isE (tyK t) x [kd])
   rw[←hq] at HIS HE
   clear hq
   by_cases hq0:q=0
   ·subst hq0
    cases hct:(L++l.take k).contains x
    ·rw[hct] at HE
     have hg:(qP (L++l.take k) x).getD (.bool false)=.bool false:=by rw[yO,hct]
     clear hct
     go_wp2_with (first
      |(go_at_call 89;refine (HIS.out _ _).mono ?_;rintro e w' ⟨rfl,rfl⟩;have hmA:=HMM.out.below ((jQ wr.heap.size wr).alloc (aP _) (.cells #[.int .i64 kd] 3)) HMM.out.lt)
      |(at_lookup;refine jv _ rfl _ _ 119 rfl 9 4 bB underlying119 (qC _) sb _ _ rfl hmA x hxs rfl _ hg ?_)
      |(refine F3 _ rfl _ _ _ 119 rfl 9 4 bB underlying119 sb _ _ rfl hmA (by unfold maxLen;omega) x hxs rfl (.bool true) rfl ?_;intro w3 m3 g3 z3))
     go_roundw
     case rel=>
      have hbA:But (fun g=>g=sb) wr (wr.alloc (.cells #[.int .i64 kd] 3)):=.of_below ((jQ wr.heap.size wr).alloc (aP _) _)
      refine⟨k+1,by omega,by go_num,(HB.out.trans hbA).trans (.bE g3 rfl),?_,jI HE.out⟩
      rw[HTK.out,←List.append_assoc]
      exact m3.cong (fun y=>Hr _ _ _)
     case measure=>simp[intOf];omega
    ·rw[hct] at HE
     have hg:(qP (L++l.take k) x).getD (.bool false)=.bool true:=by rw[yO,hct]
     clear hct
     go_wp2_with (first
      |(go_at_call 89;refine (HIS.out _ _).mono ?_;rintro e w' ⟨rfl,rfl⟩;have hmA:=HMM.out.below ((jQ wr.heap.size wr).alloc (aP _) (.cells #[.int .i64 kd] 3)) HMM.out.lt)
      |(at_lookup;refine jv _ rfl _ _ 119 rfl 9 4 bB underlying119 (qC _) sb _ _ rfl hmA x hxs rfl _ hg ?_))
     go_ret
     have e5:r=5:=HR.out.trans HE.out
     exact⟨by rw[e5];rfl,HB.out.trans (.of_below ((jQ wr.heap.size wr).alloc (aP _) _)),fun h0=>by omega⟩
   ·have hqn:((q:Int) != 0)=true:=j6 hq0
    have e5:r=q:=HR.out.trans (HE.out.trans (if_pos hq0))
    have HQ:=jI e5
    clear e5
    go_wp2_with (go_at_call 89;refine (HIS.out _ _).mono ?_;rintro e w' ⟨rfl,rfl⟩)
    go_ret
    exact⟨by rw[HQ.out];rfl,HB.out.trans (.of_below ((jQ wr.heap.size wr).alloc (aP _) _)),fun h0=>by have:=HQ.out;omega⟩
  ·obtain rfl:k=l.length:=by omega
   have hkI:¬(l.length:Int)<(l.length:Int):=by omega
   go_wp2
   go_ret
   have e0:r=0:=HR.out.trans (by rw[hd.out,List.drop_length];rfl)
   refine⟨by rw[e0];rfl,HB.out,fun _=>?_⟩
   have:=HMM.out
   rwa [List.take_length] at this
theorem SlAt.mono{w:World}{S S':Nat→Prop}{x:List ByteArray}{v:Value}(h:SlAt w S x v)(hS:∀g,S g→g<w.heap.size→S' g):SlAt w S' x v:=by
 obtain⟨A,c,e,h⟩:=h;exact⟨A,c,e,h.mono hS (by decide)⟩
theorem sl_list(w:World)(S:Nat→Prop)(_hS:∀g,S g→g<w.heap.size)(ll:List (List ByteArray))(vs:List Value)(T:TypeId)(hlen:vs.length=ll.length)(h:∀(i:Nat)(x:List ByteArray)(v:Value),ll[i]?=some x→vs[i]?=some v→SlAt w S x v):
  aO (SlAt (w.alloc (.cells vs.toArray T)) (fun g=>S g∨g=w.heap.size)) (w.alloc (.cells vs.toArray T)) (fun g=>S g∨g=w.heap.size) 1 (some ⟨w.heap.size,0,none⟩) ll:=by
 have hb:Below w.heap.size w (w.alloc (.cells vs.toArray T)):=(jQ _ _).alloc (aP _) _
 have hfl:vs.flatMap cellsOf=vs:=by
  have:∀(l:List Value),(∀v∈l,cellsOf v=[v])→l.flatMap cellsOf=l:=by
   intro l
   induction l with
   |nil=>intro _;rfl
   |cons a r ih=>
    intro h
    rw[List.flatMap_cons,h a (fO ..),ih (fun v hv=>h v (List.mem_cons_of_mem _ hv))];rfl
  refine this vs fun v hv=>?_
  obtain⟨i,hi,rfl⟩:=List.mem_iff_getElem.1 hv
  exact sH (h i (ll[i]'(by omega)) _ (dD (by omega)) (dD hi))
 refine⟨vs,hlen,⟨by rw[hfl];omega,fun _=>⟨w.heap.size,0,rfl,Or.inr rfl,fun j u hu=>?_⟩⟩,fun i x v h1 h2=>((h i x v h1 h2).keep (aA hb)).mono (fun g hg _=>Or.inl hg)⟩
 rw[hfl] at hu
 rw[Nat.zero_add,j5 _ _ j _ _ _ (jR w _)]
 simpa using hu
theorem pO(zs:List ByteArray)(x:ByteArray):Lib.containsS zs x=zs.contains x:=by
 rw[Bool.eq_iff_iff,Lib.containsS_iff,DY]
def FLim(f:Ft):Prop:=f.aI.length≤2000000∧f.aB.length≤2000000∧(∀x∈f.aI++f.aB,x.size≤maxLen)∧f.name.size≤maxLen∧(f.op=2→0≤f.byz∧f.byz≤1000000∧0≤f.iw∧f.iw≤1000000)
theorem Fy{w:World}{b kb n:Nat}{tb:Tab}{ns:Nat}(f:Ft)(v:Value)(S:Nat→Prop)(hf:ng w S f v)(hS:∀g,S g→g<w.heap.size)(hlim:FLim f)
  (c0:w.cell? ⟨b,0,none⟩=some (.map (some kb))) (c2:w.cell? ⟨b,2,none⟩=some (.int .i64 ns)) (hK:bH prog w 9 kb n (kF tb)):
  Calls prog 88 #[.pointer (some ⟨b,0,none⟩),v] w fun e w'=>e=.returned (.int .i64 (lC (tyK tb) ns f))∧Below w.heap.size w w':=by
 obtain⟨op,name,byz,iw,aI,aB⟩:=f
 obtain⟨bA,bc,cA,cc,rfl,h1,h2,h3,h4⟩:=hf
 obtain⟨l1,l2,l3,l4,l5⟩:=hlim
 simp only at h1 h2 h3 h4 l1 l2 l3 l4 l5
 have hbs:b<w.heap.size:=World.block_lt_of_cell? w _ c0
 have HB:=jI (show ∀W,Below w.heap.size w W→W.cell? ⟨b,0,none⟩=some (.map (some kb))∧W.cell? ⟨b,2,none⟩=some (.int .i64 ns)∧bH prog W 9 kb n (kF tb) from
  fun W hW=>⟨(hW.cell (p:=⟨b,0,none⟩) hbs).trans c0,(hW.cell (p:=⟨b,2,none⟩) hbs).trans c2,hK.below hW hK.lt⟩)
 obtain⟨W0,hW0⟩:=kE (w.alloc (.cells #[.int .i64 op,.string name,.int .i64 byz,.int .i64 iw,.slice bA aI.length bc,.slice cA aB.length cc] 68))
 have hb0:Below w.heap.size w W0:=by rw[hW0];exact (jQ _ _).alloc (aP _) _
 have hs0:W0.heap.size=w.heap.size+1:=by rw[hW0];simp
 have hr0:W0.heap[w.heap.size]?=some (.cells #[.int .i64 op,.string name,.int .i64 byz,.int .i64 iw,.slice bA aI.length bc,.slice cA aB.length cc] 68 (0,0)):=by rw[hW0];exact jR w _
 obtain⟨d0,d1,d2,d3,d4,d5,-⟩:=row6 hr0
 obtain⟨b0,b2,bK⟩:=HB.out W0 hb0
 have HIS:=jI (fun(k:Int)(cc:Nat)(T:TypeId)=>wP (w:=W0) (b:=b) (kb:=kb) (n:=n) (t:=tb) b0 bK name l4 [k] (by simp) cc T)
 simp only[List.map_cons,List.map_nil,fM,List.length_nil] at HIS
 have HW0:=jI hW0
 have HSL:=jI (sl_list W0 S (fun g hg=>by have:=hS g hg;omega) [aI,aB] [.slice bA aI.length bc,.slice cA aB.length cc] 32 rfl (by
  intro i x v hx hv
  match i with
  |0=>obtain rfl:=Option.some.inj hx;obtain rfl:=Option.some.inj hv;exact⟨bA,bc,rfl,h1.keep (aA hb0)⟩
  |1=>obtain rfl:=Option.some.inj hx;obtain rfl:=Option.some.inj hv;exact⟨cA,cc,rfl,h3.keep (aA hb0)⟩
  |i+2=>simp at hx))
 have HFE:=jI (show lC (tyK tb) ns ⟨op,name,byz,iw,aI,aB⟩=if op=2 then (if (ns:Int)<byz+iw then 7 else 0) else if op=3 then mF (tyK tb) 2 [] (aI++aB) else if op=4∨op=5 then isE (tyK tb) name [1] else if op=6 then isE (tyK tb) name [3] else 0 from rfl)
 clear hK c0 c2 hW0 hr0 h1 h3 bK hs0
 by_cases q2:op=2
 ·subst q2
  rw[if_pos rfl] at HFE
  obtain⟨l6,l7,l8,l9⟩:=l5 rfl
  have hwr:IntKind.i64.wrap (byz+iw)=byz+iw:=IntWalk.i64_in _ (by omega)
  by_cases hlt:(ns:Int)<byz+iw
  ·rw[if_pos hlt] at HFE
   go_enter func88,ntmps88
   go_upto_region 1 with fail
   rw[←HW0.out]
   go_upto_region 3 with fail
   go_quiet (fail)
   go_wp2
   go_ret
   exact⟨by rw[HFE.out];rfl,below_drewN hb0 _⟩
  ·rw[if_neg hlt] at HFE
   go_enter func88,ntmps88
   go_upto_region 1 with fail
   rw[←HW0.out]
   go_upto_region 3 with fail
   go_quiet (fail)
   go_wp2
   go_ret
   exact⟨by rw[HFE.out];rfl,below_drewN hb0 _⟩
 have p2:(op==2)=false:=by rw[bP];exact q2
 rw[if_neg q2] at HFE
 by_cases q3:op=3
 ·subst q3
  rw[if_pos rfl] at HFE
  obtain⟨all,hall⟩:=kE (aI++aB)
  rw[←hall] at HFE l3
  have hln:all.length≤4000000:=by rw[hall,bD];omega
  have lg:[aI,aB].flatten=all:=by rw[hall];simp
  have hsN:∀g,S g→g<W0.heap.size:=fun g hg=>by have:=hS g hg;have:=hb0.size;omega
  have hcc:=JF [aI,aB] _ 2 _ _ HSL.out (fun g hg=>by
   rcases hg with hg|hg
   ·have:=hsN g hg;simp;omega
   ·simp;omega) (by simp) (by rw[lg];omega)
  rw[lg] at hcc
  have HCC:=jI (show Calls prog 121 #[.slice (some ⟨W0.heap.size,0,none⟩) 2 2] (W0.alloc (.cells #[.slice bA aI.length bc,.slice cA aB.length cc] 32)) fun e w'=>∃v,e=.returned v∧w'.ownsRow (W0.alloc (.cells #[.slice bA aI.length bc,.slice cA aB.length cc] 32)).heap.size 9 1 v all.length (aC all)∧Below (W0.alloc (.cells #[.slice bA aI.length bc,.slice cA aB.length cc] 32)).heap.size (W0.alloc (.cells #[.slice bA aI.length bc,.slice cA aB.length cc] 32)) w' from hcc)
  have HL3:=jI l3
  have hsA:Below W0.heap.size W0 (W0.alloc (.cells #[.slice bA aI.length bc,.slice cA aB.length cc] 32)):=(jQ _ _).alloc (aP _) _
  clear hall lg hcc l3 HSL b0 b2
  go_enter func88,ntmps88
  go_upto_region 1 with fail
  rw[←HW0.out]
  go_wp2_with fail
  refine HCC.out.mono ?_
  rintro e w1 ⟨v1,rfl,hown1,hb1⟩
  obtain⟨vA,vc,rfl,hvc⟩:=aD hown1
  have iC:Below w.heap.size w w1:=hb0.trans ((hsA.trans (hb1.mono hsA.size)).mono hb0.size)
  have hs1:=iC.size
  clear d0 d1 d2 d3 d4 d5
  go_wp2
  go_loopw [33] (fun x wr=>∃k:Nat,k≤all.length∧x=.int .i64 k∧Below w1.heap.size w1 wr∧Hid (mF (tyK tb) 2 [] all=mF (tyK tb) 2 (all.take k) (all.drop k))) (fun x _=>all.length-(intOf x).toNat)
  case atStart=>exact⟨0,cu _,rfl,jQ _ _,jI (by simp)⟩
  case round=>
   obtain⟨k,hk,rfl,hb,hd⟩:=hrel
   have hsr:=hb.size
   have hbw:Below w.heap.size w wr:=iC.trans (hb.mono hs1)
   by_cases hlt:k<all.length
   ·have hownr:=own_below hown1 hb (aP _)
    obtain⟨g,c',hv'⟩:=AB hownr (by omega)
    obtain⟨rfl,rfl⟩:vA=some ⟨g,0,none⟩∧vc=c':=by injection hv' with e1 e2 e3;exact⟨e1,e3⟩
    obtain⟨x,hx⟩:=kE (all[k])
    have hcel:∀j (u:Value),(aC all)[j]?=some u→wr.cell? ⟨g,0+j,none⟩=some u:=by
     obtain⟨g2,o2,e2,-,hh⟩:=(ak.own hownr).cells (by omega)
     injection e2 with e2
     injection e2 with e3 e4 e5
     subst e3;subst e4
     exact hh
    have hcx:wr.cell? ⟨g,k,none⟩=some (.string x):=by
     have:=hcel k _ (dV all k hlt)
     rw[Nat.zero_add] at this
     rw[this,hx];simp[hlt]
    have hgs:g<wr.heap.size:=World.block_lt_of_cell? wr _ hcx
    have hxs:x.size≤maxLen:=HL3.out x (by rw[hx];exact bQ hlt)
    have hkI:(k:Int)<(all.length:Int):=by omega
    have hkI2:(k:Int)≤(vc:Int):=by omega
    have hk0:(0:Int)≤(k:Int):=by omega
    have hbA:∀o,Below wr.heap.size wr (wr.alloc o):=fun o=>(jQ _ _).alloc (aP _) o
    have HI2:=jI (fun(cc:Nat)(T:TypeId)=>wP (w:=wr) (b:=b) (kb:=kb) (n:=n) (t:=tb) (HB.out wr hbw).1 (HB.out wr hbw).2.2 x hxs [2] (by simp) cc T)
    simp only[List.map_cons,List.map_nil,fM,List.length_nil] at HI2
    have HCS:=jI (fun o=>Tryz.slices_Contains_string g 0 k vc all x (wr.alloc o) (by omega) (by omega) (fun j hj=>((hbA o).cell (p:=⟨g,0+j,none⟩) hgs).trans ((hcel j _ (dV all j hj)).trans (by simp[hj]))))
    have HE:=jI (show mF (tyK tb) 2 [] all=if isE (tyK tb) x [2]≠0 then isE (tyK tb) x [2] else if (all.take k).contains x then 5 else mF (tyK tb) 2 (all.take (k+1)) (all.drop (k+1)) by
     rw[hd.out,fE hlt,zy,←hx,cO hlt,←hx])
    rw[pO] at HCS
    obtain⟨q,hq⟩:=kE (isE (tyK tb) x [2])
    rw[←hq] at HI2 HE
    clear hd hx hcel hq hownr hv'
    by_cases hq0:q=0
    ·subst hq0
     rw[if_neg (by decide)] at HE
     cases hct:(all.take k).contains x
     ·rw[hct] at HE HCS
      clear hct
      go_wp2_with (first
       |(go_at_call 89;refine (HI2.out _ _).mono ?_;rintro e w' ⟨rfl,rfl⟩)
       |(go_at_call 87;refine (HCS.out _).mono ?_;rintro e w' ⟨rfl,rfl⟩))
      go_roundw
      case rel=>exact⟨k+1,by omega,by go_num,hb.trans ((hbA _).mono hsr),jI HE.out⟩
      case measure=>simp[intOf];omega
     ·rw[hct] at HE HCS
      clear hct
      go_wp2_with (first
       |(go_at_call 89;refine (HI2.out _ _).mono ?_;rintro e w' ⟨rfl,rfl⟩)
       |(go_at_call 87;refine (HCS.out _).mono ?_;rintro e w' ⟨rfl,rfl⟩))
      go_ret
      exact⟨by rw[HFE.out,HE.out];rfl,hbw.trans ((hbA _).mono hbw.size)⟩
    ·have hqn:((q:Int) != 0)=true:=j6 hq0
     rw[if_pos hq0] at HE
     go_wp2_with (go_at_call 89;refine (HI2.out _ _).mono ?_;rintro e w' ⟨rfl,rfl⟩)
     go_ret
     exact⟨by rw[HFE.out,HE.out];rfl,hbw.trans ((hbA _).mono hbw.size)⟩
   ·obtain rfl:k=all.length:=by omega
    have hkI:¬(all.length:Int)<(all.length:Int):=by omega
    go_wp2
    go_ret
    exact⟨by rw[HFE.out,hd.out,List.drop_length];rfl,hbw⟩
 have p3:(op==3)=false:=by rw[bP];exact q3
 rw[if_neg q3] at HFE
 by_cases q45:op=4∨op=5
 ·rw[if_pos q45] at HFE
  clear HSL
  rcases q45 with rfl|rfl
  all_goals
   go_enter func88,ntmps88
   go_upto_region 1 with fail
   rw[←HW0.out]
   go_wp2_with (go_at_call 89;refine (HIS.out 1 _ _).mono ?_;rintro e w' ⟨rfl,rfl⟩)
   go_ret
   exact⟨by rw[HFE.out];rfl,hb0.trans (((jQ _ _).alloc (aP _) _).mono hb0.size)⟩
 have p4:(op==4)=false:=by rw[bP];omega
 have p5:(op==5)=false:=by rw[bP];omega
 rw[if_neg q45] at HFE
 clear HSL
 by_cases q6:op=6
 ·subst q6
  rw[if_pos rfl] at HFE
  go_enter func88,ntmps88
  go_upto_region 1 with fail
  rw[←HW0.out]
  go_wp2_with (go_at_call 89;refine (HIS.out 3 _ _).mono ?_;rintro e w' ⟨rfl,rfl⟩)
  go_ret
  exact⟨by rw[HFE.out];rfl,hb0.trans (((jQ _ _).alloc (aP _) _).mono hb0.size)⟩
 ·have p6:(op==6)=false:=by rw[bP];exact q6
  rw[if_neg q6] at HFE
  go_enter func88,ntmps88
  go_upto_region 1 with fail
  rw[←HW0.out]
  go_wp2
  go_ret
  exact⟨by rw[HFE.out];rfl,hb0⟩
theorem BO(op:Int)(name:ByteArray)(need:Int)(ws:List Int)(kids:List Tm):name.size<ax (.mk op name need ws kids):=by rw[ax];omega
theorem termE_mk(t:List (ByteArray × Int))(ns:Nat)(op:Int)(name:ByteArray)(nd:Int)(ws:List Int)(kids:List Tm):
  iP t ns (.mk op name nd ws kids)=if ownE t ns op name nd ws kids.length≠0 then ownE t ns op name nd ws kids.length else ni t ns kids:=by rw[iP]
theorem En(t:List (ByteArray × Int))(ns:Nat)(x:Tm)(r:List Tm):ni t ns (x::r)=if iP t ns x≠0 then iP t ns x else ni t ns r:=by rw[ni]
theorem sum_snoc(l:List Int)(k:Nat)(h:k<l.length):(l.take (k+1)).sum=(l.take k).sum+l[k]:=by
 rw[cO h,List.sum_append];simp
def SOk(b kb n:Nat)(tb:Tab)(ns:Nat)(t:Tm):Prop:=∀(v:Value)(w:World)(S:Nat→Prop),dX w S t v→(∀g,S g→g<w.heap.size)→ax t≤1000000000→
 w.cell? ⟨b,0,none⟩=some (.map (some kb))→w.cell? ⟨b,2,none⟩=some (.int .i64 ns)→bH prog w 9 kb n (kF tb)→
 Calls prog 65 #[.pointer (some ⟨b,0,none⟩),v] w fun e w'=>e=.returned (.int .i64 (iP (tyK tb) ns t))∧Below w.heap.size w w'
theorem term_step{b kb n:Nat}{tb:Tab}{ns:Nat}(t:Tm)(ih:∀k∈t.kids,SOk b kb n tb ns k):SOk b kb n tb ns t:=by
 intro v w S hv hS hsz c0 c2 hK
 have hkl:=lJ t
 have hkz:∀k∈t.kids,ax k≤1000000000:=fun k hk=>by have:=jw hk;omega
 cases hv with
 |mk op nm need ws kids wA kA cw kc vs hw hwc hk hkc hl h=>
  have hkl:kids.length+ws.length<ax (.mk op nm need ws kids):=hkl
  have hnm:nm.size≤maxLen:=by have:=BO op nm need ws kids;unfold maxLen;omega
  have IH:=jI (show ∀k∈kids,SOk b kb n tb ns k from ih)
  have HKZ:=jI (show ∀k∈kids,ax k≤1000000000 from hkz)
  have HKI:=jI (show aO (dX w S) w S 5 kA kids from ⟨vs,hl,hk,h⟩)
  have hkw:kids.length+ws.length<1000000000:=by omega
  have HW:=jI hw
  have HK:=jI hK
  have HT:=jI (termE_mk (tyK tb) ns op nm need ws kids)
  have hbs:b<w.heap.size:=World.block_lt_of_cell? w _ c0
  have HB:=jI (show ∀W,Below w.heap.size w W→W.cell? ⟨b,0,none⟩=some (.map (some kb))∧W.cell? ⟨b,2,none⟩=some (.int .i64 ns)∧bH prog W 9 kb n (kF tb) from
   fun W hW=>⟨(hW.cell (p:=⟨b,0,none⟩) hbs).trans c0,(hW.cell (p:=⟨b,2,none⟩) hbs).trans c2,hK.below hW hK.lt⟩)
  clear ih hkz hw hk hl h hK
  go_enter func65,ntmps65
  go_upto_block 0 with fail
  obtain⟨W0,hW0⟩:=kE (w.alloc (.cells #[.int .i64 op,.string nm,.int .i64 need,.slice wA ws.length cw,.slice kA kids.length kc] 26))
  have hb0:Below w.heap.size w W0:=by rw[hW0];exact (jQ _ _).alloc (aP _) _
  have hs0:w.heap.size<W0.heap.size:=by rw[hW0];simp
  have hr0:W0.heap[w.heap.size]?=some (.cells #[.int .i64 op,.string nm,.int .i64 need,.slice wA ws.length cw,.slice kA kids.length kc] 26 (0,0)):=by rw[hW0];exact jR w _
  rw[←hW0]
  have HR0:=jI hr0
  clear hW0 hr0
  obtain⟨oe,hoe⟩:=kE (ownE (tyK tb) ns op nm need ws kids.length)
  rw[←hoe] at HT
  have HTT:=HT
  have HOE:=jI hoe
  clear HT hoe
  go_cut [5] (fun s5 wx=>s5=.int .i64 oe∧Below W0.heap.size W0 wx)
  case first=>
   obtain⟨c0',c1,c2',c3,c4,-⟩:=uL HR0.out
   by_cases h1:op=1
   ·subst h1
    have hoe2:oe=isE (tyK tb) nm [2,4]:=HOE.out.trans rfl
    have HIS:=jI (fun(cc:Nat)(T:TypeId)=>wP (w:=W0) (b:=b) (kb:=kb) (n:=n) (t:=tb) (HB.out W0 hb0).1 (HB.out W0 hb0).2.2 nm hnm [2,4] (by decide) cc T)
    rw[←hoe2] at HIS
    simp only[List.map_cons,List.map_nil,fM,List.length_nil] at HIS
    clear hoe2
    go_wp2_with (go_at_call 89;refine (HIS.out _ _).mono ?_;rintro e w' ⟨rfl,rfl⟩)
    go_meet
    exact⟨rfl,(jQ _ _).alloc (aP _) _⟩
   have q1:(op==1)=false:=by rw[bP];exact h1
   by_cases h2:op=2
   ·subst h2
    have HOT:=jI (show oe=JZ need ws kids.length from HOE.out.trans rfl)
    by_cases hw0:0<ws.length
    ·have hw0I:(0:Int)<(ws.length:Int):=by omega
     go_wp2_with fail
     go_loopw [6,33] (fun s x wr=>∃k:Nat,k≤ws.length∧x=.int .i64 k∧s=.int .i64 (ws.take k).sum∧wr=W0∧Hid (((ws.take k).any fun w=>decide (w<1) || decide (1000<w))=false)∧0≤(ws.take k).sum∧(ws.take k).sum≤1000 * k) (fun _ x _=>ws.length-(intOf x).toNat)
     case atStart=>exact⟨0,cu _,rfl,by simp,rfl,jI (by simp),by simp,by simp⟩
     case round=>
      obtain⟨k,hk,rfl,rfl,rfl,hany,hs1,hs2⟩:=hrel
      obtain⟨sm,hsm⟩:=kE ((ws.take k).sum)
      rw[←hsm] at hs1 hs2 ⊢
      by_cases hlt:k<ws.length
      ·obtain⟨g,o,rfl,hSg,hc⟩:=HW.out.cells (by omega)
       have hkI:(k:Int)<(ws.length:Int):=by omega
       have hk0:(0:Int)≤(k:Int):=by omega
       obtain⟨x,hx⟩:=kE (ws[k])
       have hcx:wr.cell? ⟨g,o+k,none⟩=some (.int .i64 x):=(hb0.cell (p:=⟨g,o+k,none⟩) (hS g hSg)).trans (hc k _ (by rw[hx];simp[hlt]))
       have hsn:(ws.take (k+1)).sum=sm+x:=by rw[hsm,hx];exact sum_snoc ws k hlt
       have hmem:x∈ws:=by rw[hx];exact bQ hlt
       have htk:ws.take (k+1)=ws.take k++[x]:=by rw[hx];exact cO hlt
       have HSN:=jI hsn
       have HTK:=jI htk
       clear hc hx hsn htk hsm
       by_cases hx1:x<1
       ·have E:=jI (show oe=7 by
         rw[HOT.out];unfold JZ
         rw[if_pos hw0,if_pos]
         exact List.any_eq_true.2 ⟨x,hmem,by rw[decide_eq_true hx1];rfl⟩)
        go_wp2
        go_ret
        exact⟨by rw[HTT.out,if_pos (by rw[E.out];decide),E.out];rfl,hb0⟩
       ·by_cases hx2:1000<x
        ·have E:=jI (show oe=7 by
          rw[HOT.out];unfold JZ
          rw[if_pos hw0,if_pos]
          exact List.any_eq_true.2 ⟨x,hmem,by rw[decide_eq_true hx2];simp⟩)
         go_wp2
         go_ret
         exact⟨by rw[HTT.out,if_pos (by rw[E.out];decide),E.out];rfl,hb0⟩
        ·have hwr:IntKind.i64.wrap (sm+x)=sm+x:=IntWalk.i64_in _ (by omega)
         go_wp2
         go_roundw
         case rel=>
          refine⟨k+1,by omega,by go_num,by rw[HSN.out],by trivial,jI ?_,by rw[HSN.out];omega,by rw[HSN.out];omega⟩
          rw[HTK.out,List.any_append,hany.out]
          simp[hx1,hx2]
         case measure=>simp[intOf];omega
      ·obtain rfl:k=ws.length:=by omega
       have hkI:¬(ws.length:Int)<(ws.length:Int):=by omega
       have Fu:=hany.out
       rw[List.take_length] at Fu hsm
       by_cases hn1:need<1
       ·have E:=jI (show oe=7 by rw[HOT.out];unfold JZ;rw[if_pos hw0,if_neg (by rw[Fu];decide),if_pos (Or.inl hn1)])
        clear hsm hany Fu
        go_wp2
        go_ret
        exact⟨by rw[HTT.out,if_pos (by rw[E.out];decide),E.out];rfl,hb0⟩
       ·by_cases hn2:sm<need
        ·have E:=jI (show oe=7 by rw[HOT.out];unfold JZ;rw[if_pos hw0,if_neg (by rw[Fu];decide),if_pos (Or.inr (by rw[←hsm];exact hn2))])
         clear hsm hany Fu
         go_wp2
         go_ret
         exact⟨by rw[HTT.out,if_pos (by rw[E.out];decide),E.out];rfl,hb0⟩
        ·have E:=jI (show oe=0 by rw[HOT.out];unfold JZ;rw[if_pos hw0,if_neg (by rw[Fu];decide),if_neg (by rw[←hsm];omega)])
         clear hsm hany Fu
         go_wp2
         go_meet
         exact⟨by rw[E.out];rfl,jQ _ _⟩
    ·have hw0I:¬(0:Int)<(ws.length:Int):=by omega
     by_cases hn1:need<1
     ·have E:=jI (show oe=7 by rw[HOT.out];unfold JZ;rw[if_neg hw0,if_pos (Or.inl hn1)])
      go_wp2
      go_ret
      exact⟨by rw[HTT.out,if_pos (by rw[E.out];decide),E.out];rfl,hb0⟩
     ·by_cases hn2:(kids.length:Int)<need
      ·have E:=jI (show oe=7 by rw[HOT.out];unfold JZ;rw[if_neg hw0,if_pos (Or.inr hn2)])
       go_wp2
       go_ret
       exact⟨by rw[HTT.out,if_pos (by rw[E.out];decide),E.out];rfl,hb0⟩
      ·have E:=jI (show oe=0 by rw[HOT.out];unfold JZ;rw[if_neg hw0,if_neg (by omega)])
       go_wp2
       go_meet
       exact⟨by rw[E.out];rfl,jQ _ _⟩
   have q2:(op==2)=false:=by rw[bP];exact h2
   by_cases h678:op=6∨op=7∨op=8
   ·have HOG:=jI (show oe=if nm=(⟨#[115,101,114,118,101,114,115]⟩:ByteArray) then (if ns=0 then 9 else 0) else isE (tyK tb) nm [1] by rw[HOE.out];unfold ownE;rw[if_neg h1,if_neg h2,if_pos h678])
    by_cases hsv:nm=(⟨#[115,101,114,118,101,114,115]⟩:ByteArray)
    ·subst hsv
     rw[if_pos rfl] at HOG
     obtain⟨-,d2,-⟩:=HB.out W0 hb0
     by_cases hns:ns=0
     ·have E:=jI (show oe=9 by rw[HOG.out,if_pos hns])
      have hnI:((ns:Int)==0)=true:=by rw[hns];rfl
      clear HOG
      rcases h678 with rfl|rfl|rfl
      all_goals
       go_wp2
       go_meet
       exact⟨by rw[E.out];rfl,jQ _ _⟩
     ·have E:=jI (show oe=0 by rw[HOG.out,if_neg hns])
      have hnI:((ns:Int)==0)=false:=by rw[bP];omega
      clear HOG
      rcases h678 with rfl|rfl|rfl
      all_goals
       go_wp2
       go_meet
       exact⟨by rw[E.out];rfl,jQ _ _⟩
    ·rw[if_neg hsv] at HOG
     have hs3:¬nm.toList=[115,101,114,118,101,114,115]:=fun e9=>hsv (by rw[ByteArray.toList_eq] at e9;rw[←gN nm,e9];rfl)
     have hs4:(nm.toList==[115,101,114,118,101,114,115])=false:=by rw[bP];exact hs3
     rcases h678 with rfl|rfl|rfl
     all_goals
      have hoe2:oe=isE (tyK tb) nm [1]:=HOG.out
      have HIS:=jI (fun(cc:Nat)(T:TypeId)=>wP (w:=W0) (b:=b) (kb:=kb) (n:=n) (t:=tb) (HB.out W0 hb0).1 (HB.out W0 hb0).2.2 nm hnm [1] (by decide) cc T)
      rw[←hoe2] at HIS
      simp only[List.map_cons,List.map_nil,fM,List.length_nil] at HIS
      clear hoe2
      go_wp2_with (go_at_call 89;refine (HIS.out _ _).mono ?_;rintro e w' ⟨rfl,rfl⟩)
      go_meet
      exact⟨rfl,(jQ _ _).alloc (aP _) _⟩
   ·have q6:(op==6)=false:=by rw[bP];omega
    have q7:(op==7)=false:=by rw[bP];omega
    have q8:(op==8)=false:=by rw[bP];omega
    have E:=jI (show oe=0 by rw[HOE.out];unfold ownE;rw[if_neg h1,if_neg h2,if_neg h678])
    go_wp2
    go_meet
    exact⟨by rw[E.out];rfl,jQ _ _⟩
  case rest=>
   obtain⟨rfl,hb1⟩:=hcut
   obtain⟨W1,hW1⟩:=kE wc
   rw[←hW1] at hb1
   rw[←hW1]
   clear hW1
   have iC:Below w.heap.size w W1:=hb0.trans (hb1.mono (by omega))
   obtain⟨c0',c1,c2',c3,c4,-⟩:=uL ((hb1.block _ hs0).trans HR0.out)
   clear HOE
   by_cases ho0:oe=0
   ·subst ho0
    rw[if_neg (by decide)] at HTT
    go_wp2_with fail
    have hs1:=iC.size
    go_loopw [79] (fun x wr=>∃k:Nat,k≤kids.length∧x=.int .i64 k∧Below W1.heap.size W1 wr∧Hid (ni (tyK tb) ns kids=ni (tyK tb) ns (kids.drop k))) (fun x _=>kids.length-(intOf x).toNat)
    case atStart=>exact⟨0,cu _,rfl,jQ _ _,jI (by simp)⟩
    case round=>
     obtain⟨k,hk,rfl,hb,hd⟩:=hrel
     have hsr:=hb.size
     have hbw:Below w.heap.size w wr:=iC.trans (hb.mono hs1)
     by_cases hlt:k<kids.length
     ·obtain⟨g,o,op2,nm2,nd2,wA2,wn2,wc2,kA2,kn2,kc2,rfl,hSg,ht,k0,k1,k2,k3,k4,-⟩:=kG (HKI.out.keep (P':=dX wr S) (aj hbw hS) (fun _ _ h=>h.keep (aj hbw hS))) hlt
      have hgs:g<wr.heap.size:=World.block_lt_of_cell? wr _ k0
      have hkI:(k:Int)<(kids.length:Int):=by omega
      have hk0:(0:Int)≤(k:Int):=by omega
      have hbA:∀o,Below wr.heap.size wr (wr.alloc o):=fun o=>(jQ _ _).alloc (aP _) o
      have hS2:∀g,S g→g<wr.heap.size:=fun g hg=>by have:=hS g hg;have:=hbw.size;omega
      have HC:=jI (fun o=>IH.out kids[k] (bQ hlt) _ (wr.alloc o) S (ht.keep (aA (hbA o))) (fun g hg=>by have:=hS2 g hg;simp;omega) (HKZ.out _ (bQ hlt))
       (HB.out _ (hbw.trans ((hbA o).mono (by have:=hbw.size;omega)))).1 (HB.out _ (hbw.trans ((hbA o).mono (by have:=hbw.size;omega)))).2.1 (HB.out _ (hbw.trans ((hbA o).mono (by have:=hbw.size;omega)))).2.2)
      have HE:=jI (show ni (tyK tb) ns kids=if iP (tyK tb) ns kids[k]≠0 then iP (tyK tb) ns kids[k] else ni (tyK tb) ns (kids.drop (k+1)) by rw[hd.out,fE hlt,En])
      clear ht hd
      obtain⟨q,hq⟩:=kE (iP (tyK tb) ns kids[k])
      rw[←hq] at HC HE
      clear hq
      by_cases hq0:q=0
      ·subst hq0
       rw[if_neg (by decide)] at HE
       go_wp2_with fail
       refine (HC.out _).mono ?_
       rintro e w2 ⟨rfl,hb2⟩
       go_wp2
       go_roundw
       case rel=>
        (repeat apply Exists.intro)
        refine And.intro ?_ rfl
        exact⟨k+1,by omega,by go_num,hb.trans (((hbA _).trans (hb2.mono (by simp))).mono (by omega)),HE⟩
       case measure=>simp[intOf];omega
      ·have hqn:((q:Int) != 0)=true:=j6 hq0
       rw[if_pos hq0] at HE
       go_wp2_with fail
       refine (HC.out _).mono ?_
       rintro e w2 ⟨rfl,hb2⟩
       go_wp2
       go_ret
       exact⟨by rw[HTT.out,HE.out];rfl,hbw.trans (((hbA _).trans (hb2.mono (by simp))).mono (by have:=hbw.size;omega))⟩
     ·obtain rfl:k=kids.length:=by omega
      have hkI:¬(kids.length:Int)<(kids.length:Int):=by omega
      go_wp2
      go_ret
      exact⟨by rw[HTT.out,hd.out,List.drop_length];rfl,hbw⟩
   ·have hqn:((oe:Int) != 0)=true:=j6 ho0
    rw[if_pos ho0] at HTT
    go_wp2
    go_ret
    exact⟨by rw[HTT.out];rfl,iC⟩
theorem oo{b kb n:Nat}{tb:Tab}{ns:Nat}(t:Tm):SOk b kb n tb ns t:=by
 have key:∀(m:Nat)(t:Tm),ax t≤m→SOk b kb n tb ns t:=by
  intro m
  induction m with
  |zero=>intro t ht;exact absurd ht (by cases t;rw[ax];omega)
  |succ m ih=>exact fun t ht=>term_step t fun k hk=>ih k (by have:=jw hk;omega)
 exact key _ t (aP _)
end
section
open Go.RowKit
open _root_.Go.Proofs.Tryz
def TestsI(I:World→Prop)(S:Nat→Prop)(fid:Nat)(p:Value)(l:List Ft)(q:Ft→Bool):Prop:=
 ∀x∈l,∀(v:Value)(W:World),ng W S x v→I W→Calls prog fid #[v,p] W fun e W'=>e=.returned (.bool (q x))∧I W'
theorem CW(I:World→Prop)(l:List Ft)(S:Nat→Prop)(A:Option Addr)(c:Nat)(w:World)(hI:I w)(hl:∀W,I W→aO (ng W S) W S 6 A l)(hlim:l.length≤1000000000000)
  (fid:Nat) (p:Value) (he:∀(args:Array Value)(w:World),(callFunc fid args).run prog w=.ok (.enter fid args) w) (q:Ft→Bool) (hf:TestsI I S fid p l q):
  Calls prog 164 #[.slice A l.length c,.func (.func fid) #[] #[p]] w fun e w'=>(∃z:Int,e=.returned (.int .i64 z)∧decide (0≤z)=l.any q)∧I w':=by
 have HF:=jI hf
 have HLS:=jI hl
 have HI0:=jI hI
 clear hf hl hI
 go_enter func164,ntmps164
 go_wp2
 go_loopw [8] (fun x wr=>∃k:Nat,k≤l.length∧x=.int .i64 k∧Hid (∀j (hj:j<l.length),j<k→q l[j]=false)∧Hid (I wr)) (fun x _=>l.length-(intOf x).toNat)
 case atStart=>exact⟨0,cu _,rfl,jI (fun j _ h=>absurd h (by omega)),HI0⟩
 case round=>
  obtain⟨k,hk,rfl,hno,hb⟩:=hrel
  by_cases hlt:k<l.length
  ·obtain⟨g,o,op2,nm2,by2,cr2,bA2,bn2,bc2,cA2,cn2,cc2,rfl,hSg,htm,k0,k1,k2,k3,k4,k5⟩:=mZ (HLS.out wr hb.out) hlt
   have hgs:g<wr.heap.size:=World.block_lt_of_cell? wr _ k0
   have hc:=HF.out l[k] (bQ hlt) _ wr htm hb.out
   have hkI:(k:Int)<(l.length:Int):=by omega
   have hk0:(0:Int)≤(k:Int):=by omega
   cases hq:q l[k]
   ·rw[hq] at hc
    have HC:=jI hc
    have HQ:=jI hq
    clear hc hq
    go_wp2_with fail
    refine HC.out.mono ?_
    rintro e W2 ⟨rfl,hi2⟩
    have HI2:=jI hi2
    clear hi2
    go_wp2
    go_roundw
    case rel=>
     refine⟨k+1,by omega,by go_num,jI ?_,HI2⟩
     intro j hj hjk
     by_cases h9:j<k
     ·exact hno.out j hj h9
     ·obtain rfl:j=k:=by omega
      exact HQ.out
    case measure=>simp[intOf];omega
   ·rw[hq] at hc
    have HC:=jI hc
    have HQ:=jI (zO hlt hq)
    clear hc hq
    go_wp2_with fail
    refine HC.out.mono ?_
    rintro e W2 ⟨rfl,hi2⟩
    have HI2:=jI hi2
    clear hi2
    go_wp2
    go_ret
    refine⟨⟨k,rfl,?_⟩,HI2.out⟩
    rw[HQ.out];simp
  ·have HQ:Hid (l.any q=false):=jI (any_none (fun j hj=>hno.out j hj (by omega)))
   have hkI:¬(k:Int)<(l.length:Int):=by omega
   go_wp2
   go_ret
   refine⟨⟨-1,rfl,?_⟩,hb.out⟩
   rw[HQ.out];rfl
theorem xD(I:World→Prop)(l:List Ft)(S:Nat→Prop)(A:Option Addr)(c:Nat)(w:World)(hI:I w)(hl:∀W,I W→aO (ng W S) W S 6 A l)(hlim:l.length≤1000000000000)
  (fid:Nat) (p:Value) (he:∀(args:Array Value)(w:World),(callFunc fid args).run prog w=.ok (.enter fid args) w) (q:Ft→Bool) (hf:TestsI I S fid p l q):
  Calls prog 123 #[.slice A l.length c,.func (.func fid) #[] #[p]] w fun e w'=>e=.returned (.bool (l.any q))∧I w':=by
 have HC:=jI (CW I l S A c w hI hl hlim fid p he q hf)
 clear hl hf hI
 go_enter func123,ntmps123
 go_wp2_with fail
 refine HC.out.mono ?_
 rintro e w' ⟨⟨z,rfl,hz⟩,hi⟩
 have HZ:=jI hz
 have HI2:=jI hi
 clear hz hi
 go_wp2
 go_ret
 refine⟨?_,HI2.out⟩
 show Ending.returned (.bool (decide (0≤z)))=_
 rw[HZ.out]
def ftB(φ:ByteArray→Bool)(f:Ft):Bool:=
 if f.op=2 then decide (0<f.byz) else if f.op=3 then decide (0<f.aI.length) else if f.op=4 then true else if f.op=6 then φ f.name else false
def FX(t:Tab)(φ:ByteArray→Bool)(rank:ByteArray→Nat)(F:List ByteArray):Prop:=
 ∀x d,dN t x=some (3,d)→x∈F∧x.size≤maxLen∧φ x=d.faults.any (ftB φ)∧d.faults.length≤1000000∧∀f∈d.faults,f.op=6→∃d',dN t f.name=some (3,d')∧rank f.name<rank x
def mH(φ:ByteArray→Bool)(F:List ByteArray)(Z:ByteArray→Option Bool)(zn:Nat):Prop:=
 (∀y v,Z y=some v→v=φ y∧y∈F)∧zn+F.countP (fun y=>(Z y).isNone)≤F.length∧F.length≤1000000
theorem countP_lt{α:Type}{p q:α→Bool}{l:List α}(h:∀y,q y=true→p y=true){x:α}(hx:x∈l)(hp:p x=true)(hq:q x=false):l.countP q+1≤l.countP p:=by
 induction l with
 |nil=>cases hx
 |cons a r ih=>
  have hle:r.countP q≤r.countP p:=List.countP_mono_left fun y _=>h y
  rw[List.countP_cons,List.countP_cons]
  rcases List.mem_cons.1 hx with rfl|hx
  ·rw[hp,hq];simp;omega
  ·have:=ih hx
   cases hqa:q a
   ·cases p a<;>simp<;>omega
   ·rw[h a hqa];simp;omega
theorem mH.store{φ:ByteArray→Bool}{F:List ByteArray}{Z:ByteArray→Option Bool}{zn:Nat}(h:mH φ F Z zn){x:ByteArray}(hx:x∈F)(hz:Z x=none):mH φ F (fun y=>if y=x then some (φ x) else Z y) (zn+1):=by
 refine⟨fun y v hv=>?_,?_,h.2.2⟩
 ·by_cases e:y=x
  ·subst e
   have e1:(if y=y then some (φ y) else Z y)=some (φ y):=if_pos rfl
   have hv:(if y=y then some (φ y) else Z y)=some v:=hv
   rw[e1] at hv
   exact⟨(Option.some.inj hv).symm,hx⟩
  ·have hv:(if y=x then some (φ x) else Z y)=some v:=hv
   rw[if_neg e] at hv
   exact h.1 y v hv
 ·show zn+1+F.countP (fun y=>(if y=x then some (φ x) else Z y).isNone)≤F.length
  have hlt:F.countP (fun y=>(if y=x then some (φ x) else Z y).isNone)+1≤F.countP (fun y=>(Z y).isNone):=countP_lt (l:=F) (p:=fun y=>(Z y).isNone) (q:=fun y=>(if y=x then some (φ x) else Z y).isNone) (fun y hy=>by
   by_cases e:y=x
   ·subst e;rw[hz];rfl
   ·have hy:(if y=x then some (φ x) else Z y).isNone=true:=hy
    rw[if_neg e] at hy;exact hy) hx (by show (Z x).isNone=true;rw[hz];rfl) (by show (if x=x then some (φ x) else Z x).isNone=false;rw[if_pos rfl];rfl)
  have h2:=h.2.1
  omega
section
variable {S:Nat→Prop} {b kb db wb cb zb n:Nat} {t:Tab} {ns nc nl:Nat} {oth chn:Bool} {W C:List ByteArray}
def JX(S:Nat→Prop)(b kb db wb cb zb n:Nat)(t:Tab)(ns nc nl:Nat)(oth chn:Bool)(W C:List ByteArray)(φ:ByteArray→Bool)(F:List ByteArray)(rank:ByteArray→Nat)(w0:World)(Z0:ByteArray→Option Bool)(m:Nat)(w:World):Prop:=
 ∃zn Z,Sc prog 121 w S b kb db wb cb zb n zn t ns nc nl oth chn W C Z∧mH φ F Z zn∧(∀y,m≤rank y→Z y=Z0 y)∧But (fun g=>g=zb) w0 w
theorem JX.alloc{φ:ByteArray→Bool}{F:List ByteArray}{rank:ByteArray→Nat}{w0 w w':World}{Z0:ByteArray→Option Bool}{m:Nat}(h:JX S b kb db wb cb zb n t ns nc nl oth chn W C φ F rank w0 Z0 m w)(hb:Below w.heap.size w w'):
  JX S b kb db wb cb zb n t ns nc nl oth chn W C φ F rank w0 Z0 m w':=by
 obtain⟨zn,Z,h1,h2,h3,h4⟩:=h
 exact⟨zn,Z,h1.below hb,h2,h3,h4.trans (.of_below hb)⟩
def ByzC(S:Nat→Prop)(b kb db wb cb zb n:Nat)(t:Tab)(ns nc nl:Nat)(oth chn:Bool)(W C:List ByteArray)(φ:ByteArray→Bool)(F:List ByteArray)(rank:ByteArray→Nat)(x:ByteArray):Prop:=
 ∀(w:World)(zn:Nat)(Z:ByteArray→Option Bool),Sc prog 121 w S b kb db wb cb zb n zn t ns nc nl oth chn W C Z→mH φ F Z zn→
  Calls prog 90 #[.pointer (some ⟨b,0,none⟩),.string x] w fun e w'=>e=.returned (.bool (φ x))∧JX S b kb db wb cb zb n t ns nc nl oth chn W C φ F rank w Z (rank x+1) w'
theorem byz_test{φ:ByteArray→Bool}{F:List ByteArray}{rank:ByteArray→Nat}(w0:World)(Z0:ByteArray→Option Bool)(m pb:Nat)(hpb:pb≠zb∧pb<w0.heap.size)(hp:w0.cell? ⟨pb,0,none⟩=some (.pointer (some ⟨b,0,none⟩)))(l:List Ft)
  (hl:∀f∈l,f.op=6→rank f.name<m∧ByzC S b kb db wb cb zb n t ns nc nl oth chn W C φ F rank f.name):
  TestsI (JX S b kb db wb cb zb n t ns nc nl oth chn W C φ F rank w0 Z0 m) S 124 (.pointer (some ⟨pb,0,none⟩)) l (ftB φ):=by
 intro f hf v w hv hI
 have hlf:=hl f hf
 obtain⟨op,name,byz,iw,aI,aB⟩:=f
 obtain⟨bA,bc,cA,cc,rfl,-⟩:=hv
 simp only at hlf
 have hI0:=hI
 obtain⟨zn,Z,h1,h2,h3,h4⟩:=hI
 have hs4:=h4.size
 obtain⟨W0,hW0⟩:=kE (w.alloc (.cells #[.int .i64 op,.string name,.int .i64 byz,.int .i64 iw,.slice bA aI.length bc,.slice cA aB.length cc] 68))
 have hb0:Below w.heap.size w W0:=by rw[hW0];exact (jQ _ _).alloc (aP _) _
 have hr0:W0.heap[w.heap.size]?=some (.cells #[.int .i64 op,.string name,.int .i64 byz,.int .i64 iw,.slice bA aI.length bc,.slice cA aB.length cc] 68 (0,0)):=by rw[hW0];exact jR w _
 obtain⟨d0,d1,d2,d3,d4,d5,-⟩:=row6 hr0
 have hpc:W0.cell? ⟨pb,0,none⟩=some (.pointer (some ⟨b,0,none⟩)):=(hb0.cell (p:=⟨pb,0,none⟩) (by simp only;omega)).trans ((cell_of_block (h4.block pb (by omega) (by omega))).trans hp)
 have HI1:=jI (hI0.alloc hb0)
 have HW0:=jI hW0
 have HE:=jI (show ftB φ ⟨op,name,byz,iw,aI,aB⟩=if op=2 then decide (0<byz) else if op=3 then decide (0<aI.length) else if op=4 then true else if op=6 then φ name else false from rfl)
 have HS1:=jI (h1.below hb0)
 have H2:=jI h2
 have H3:=jI h3
 have H4:=jI (h4.trans (.of_below hb0))
 have HLF:=jI hlf
 clear hl hlf hI0 h1 h2 h3 h4 hW0 hr0
 by_cases q2:op=2
 ·subst q2
  rw[if_pos rfl] at HE
  rw[HE.out]
  go_enter func124,ntmps124
  go_upto_region 1 with fail
  rw[←HW0.out]
  go_wp2
  go_ret
  exact⟨rfl,HI1.out⟩
 have p2:(op==2)=false:=by rw[bP];exact q2
 rw[if_neg q2] at HE
 by_cases q3:op=3
 ·subst q3
  rw[if_pos rfl] at HE
  rw[HE.out]
  have e:decide ((0:Int)<(aI.length:Int))=decide (0<aI.length):=by
   by_cases h0:0<aI.length
   ·rw[decide_eq_true h0,decide_eq_true (by omega)]
   ·rw[decide_eq_false h0,decide_eq_false (by omega)]
  have HEE:=jI e
  clear e
  go_enter func124,ntmps124
  go_upto_region 1 with fail
  rw[←HW0.out]
  go_wp2
  go_ret
  refine⟨?_,HI1.out⟩
  first
   |rfl
   |(rw[←HEE.out];rfl)
 have p3:(op==3)=false:=by rw[bP];exact q3
 rw[if_neg q3] at HE
 by_cases q4:op=4
 ·subst q4
  rw[if_pos rfl] at HE
  rw[HE.out]
  go_enter func124,ntmps124
  go_upto_region 1 with fail
  rw[←HW0.out]
  go_wp2
  go_ret
  exact⟨rfl,HI1.out⟩
 have p4:(op==4)=false:=by rw[bP];exact q4
 rw[if_neg q4] at HE
 by_cases q6:op=6
 ·subst q6
  rw[if_pos rfl] at HE
  rw[HE.out]
  obtain⟨hrk,hC⟩:=HLF.out rfl
  have HC:=jI (hC W0 zn Z HS1.out H2.out)
  clear hC
  go_enter func124,ntmps124
  go_upto_region 1 with fail
  rw[←HW0.out]
  go_wp2_with fail
  refine HC.out.mono ?_
  rintro e w2 ⟨rfl,hst⟩
  have HST:=jI hst
  clear hst
  go_wp2
  go_ret
  obtain⟨zn2,Z2,i1,i2,i3,i4⟩:=HST.out
  exact⟨rfl,zn2,Z2,i1,i2,fun y hy=>(i3 y (by omega)).trans (H3.out y hy),H4.out.trans i4⟩
 ·have p6:(op==6)=false:=by rw[bP];exact q6
  rw[if_neg q6] at HE
  rw[HE.out]
  go_enter func124,ntmps124
  go_upto_region 1 with fail
  rw[←HW0.out]
  go_wp2
  go_ret
  exact⟨rfl,HI1.out⟩
theorem Sc.byz_set{w w':World}{zn zn':Nat}{Z Z':ByteArray→Option Bool}{f:ByteArray→Option Value}(h:Sc prog 121 w S b kb db wb cb zb n zn t ns nc nl oth chn W C Z)(hg:w.grownBy w' (some zb))
  (hm:bH prog w' 9 zb zn' f) (hf:∀y,f y=(Z' y).map Value.bool):Sc prog 121 w' S b kb db wb cb zb n zn' t ns nc nl oth chn W C Z':=by
 have hne:=h.ne
 have hb:But (fun x=>x=zb) w w':=.bE hg rfl
 have hS:∀g,S g→¬g=zb:=fun g hg=>by have:=h.out g hg;omega
 exact⟨(hb.block b (by omega) h.lt.1).trans h.row,h.kinds.but hb (by omega),h.decls.but hb (by omega) hS,h.wit.but hb (by omega),h.con.but hb (by omega),hm.cong hf,h.nz,h.ne,h.out,⟨bZ h.lt.1 hb.size,fun g hg=>bZ (h.lt.2 g hg) hb.size⟩⟩
theorem Hu(v0 v1 v2 v3:Value)(A:Option Addr)(n c:Nat)(v5 v6 v7 v8 v9 v10 v11 v12 v13 v14 v15 v16 v17 v18 v19 v20 v21:Value)(w:World):
  (Instr.field 35 (.agg #[v0,v1,v2,v3,.slice A n c,v5,v6,v7,v8,v9,v10,v11,v12,v13,v14,v15,v16,v17,v18,v19,v20,v21]) 4).run prog w=.ok (.slice A n c) w:=by
 kernel_rfl
theorem byz_step{φ:ByteArray→Bool}{F:List ByteArray}{rank:ByteArray→Nat}(hok:FX t φ rank F)(x:ByteArray)(d:Dc)(hx:dN t x=some (3,d))
  (ih:∀f∈d.faults,f.op=6→rank f.name<rank x∧ByzC S b kb db wb cb zb n t ns nc nl oth chn W C φ F rank f.name):ByzC S b kb db wb cb zb n t ns nc nl oth chn W C φ F rank x:=by
 intro w zn Z hsc hinv
 obtain⟨hxF,hxs,hphi,hfl,-⟩:=hok x d hx
 have hbs:=hsc.lt.1
 have hne:=hsc.ne
 have hzl:=hsc.byz.lt
 obtain⟨w0,hw0⟩:=kE (w.alloc (.cells #[.pointer (some ⟨b,0,none⟩)] 113 (0,0)))
 have hb0:Below w.heap.size w w0:=by rw[hw0];exact (jQ _ _).alloc (aP _) _
 have hz0:w0.heap.size=w.heap.size+1:=by rw[hw0];simp
 have hp0:w0.cell? ⟨w.heap.size,0,none⟩=some (.pointer (some ⟨b,0,none⟩)):=by rw[hw0,j5 _ _ 0 _ _ _ (jR w _)];rfl
 have hsc0:=hsc.below hb0
 obtain⟨-,c1,-,-,-,-,-,-,-,c9,-⟩:=Ah hsc0.row
 have HSC:=jI hsc0
 have HINV:=jI hinv
 have HW0:=jI hw0
 have HPHI:=jI hphi
 have HB0:=jI hb0
 cases hzx:Z x with
 |some v=>
  have hv:v=φ x:=(hinv.1 x v hzx).1
  have e1:((fun y=>(Z y).map Value.bool) x).getD (.bool false)=.bool v:=by simp only[hzx];rfl
  have e2:((fun y=>(Z y).map Value.bool) x).isSome=true:=by simp only[hzx];rfl
  have HV:=jI hv
  have E1:=jI e1
  have E2:=jI e2
  clear ih hphi hw0 hsc hsc0 hinv hzx hv e1 e2 hb0 c1
  go_enter func90,ntmps90
  go_upto_region 1 with fail
  rw[←HW0.out]
  go_wp2_with (at_lookup;refine ol _ rfl _ _ 119 rfl 9 4 bB underlying119 (qC _) zb zn _ rfl HSC.out.byz x hxs rfl _ E1.out _ E2.out ?_)
  go_ret
  exact⟨by rw[←HV.out];rfl,zn,Z,HSC.out,HINV.out,fun _ _=>rfl,.of_below HB0.out⟩
 |none=>
  have e1:((fun y=>(Z y).map Value.bool) x).getD (.bool false)=.bool false:=by simp only[hzx];rfl
  have e2:((fun y=>(Z y).map Value.bool) x).isSome=false:=by simp only[hzx];rfl
  obtain⟨g,hg,hall⟩:=hsc0.decls
  obtain⟨v,hgx,hdv⟩:∃v,g x=some v∧dS w0 S d v:=by
   rcases hall x with ⟨h1,-⟩|⟨p,v,h1,h2,h3⟩
   ·rw[hx] at h1;cases h1
   ·rw[hx] at h1
    obtain rfl:=Option.some.inj h1
    exact⟨v,h2,h3⟩
  obtain⟨nA,nc',fA,fc,vt,vr,vw,hv,-,-,hfa,-,h5,h6,h7⟩:=hdv
  obtain⟨o1,m1,d1,wA1,wn1,wc1,kA1,kn1,kc1,rfl⟩:=h5.form
  obtain⟨o2,m2,d2,wA2,wn2,wc2,kA2,kn2,kc2,rfl⟩:=h6.form
  obtain⟨o3,m3,d3,wA3,wn3,wc3,kA3,kn3,kc3,rfl⟩:=h7.form
  clear h5 h6 h7
  simp only[Value.cells,List.append_toArray,List.cons_append,List.nil_append] at hv
  have e3:(g x).getD (.agg #[.int .i64 0,.int .i64 0,.string ByteArray.empty,.slice none 0 0,.slice none 0 0,.int .i64 0,.string ByteArray.empty,.int .i64 0,.slice none 0 0,.slice none 0 0,.string ByteArray.empty,.int .i64 0,.string ByteArray.empty,.int .i64 0,.slice none 0 0,.slice none 0 0,.int .i64 0,.string ByteArray.empty,.int .i64 0,.slice none 0 0,.slice none 0 0,.string ByteArray.empty])=v:=by rw[hgx];rfl
  rw[hv] at e3
  have hS0:=hsc0.lt.2
  have hSz:∀g,S g→g<w0.heap.size∧¬g=zb:=fun g hg=>⟨hS0 g hg,by have:=hsc0.out g hg;omega⟩
  have HCF:=jI (xD (JX S b kb db wb cb zb n t ns nc nl oth chn W C φ F rank w0 Z (rank x)) d.faults S fA fc w0 ⟨zn,Z,hsc0,hinv,fun _ _=>rfl,.refl _ _⟩
   (fun W ⟨_,_,_,_,_,hW⟩=>hfa.keep (P':=ng W S) (hW.kept (fun g hg=>(hSz g hg).2)) (fun _ _ h=>h.keep (hW.kept (fun g hg=>(hSz g hg).2)))) (by omega)
   124 (.pointer (some ⟨w.heap.size,0,none⟩)) (fun args w=>by rfl) (ftB φ) (byz_test w0 Z (rank x) w.heap.size ⟨by omega,by omega⟩ hp0 d.faults ih))
  rw[←hphi] at HCF
  have E1:=jI e1
  have E2:=jI e2
  have E3:=jI e3
  have HG:=jI hg
  have HZX:=jI hzx
  have HZ0:=jI hz0
  clear ih hphi hw0 hsc hsc0 hinv hzx e1 e2 e3 hb0 hg hall hfa hgx hv hS0 hz0
  have hfd:=Hu
  go_enter func90,ntmps90
  go_upto_region 1 with fail
  rw[←HW0.out]
  go_wp2_with (first
   |(at_lookup;refine ol _ rfl _ _ 119 rfl 9 4 bB underlying119 (qC _) zb zn _ rfl HSC.out.byz x hxs rfl _ E1.out _ E2.out ?_)
   |(at_lookup;refine jv _ rfl _ _ 118 rfl 9 _ bB underlying118 (zero_dc _) db n _ rfl HG.out x hxs rfl _ E3.out ?_))
  refine HCF.out.mono ?_
  rintro e w2 ⟨rfl,hst⟩
  obtain⟨zn2,Z2,i1,i2,i3,i4⟩:=hst
  obtain⟨-,-,-,-,-,-,-,-,-,q9,-⟩:=Ah i1.row
  have hp2:w2.cell? ⟨w.heap.size,0,none⟩=some (.pointer (some ⟨b,0,none⟩)):=(cell_of_block (i4.block w.heap.size (by omega) (by have:=HZ0.out;omega))).trans hp0
  have hz2:Z2 x=none:=(i3 x (aP _)).trans HZX.out
  have I1:=jI i1
  have I2:=jI i2
  have I3:=jI i3
  have I4:=jI i4
  have HZ2:=jI hz2
  have hznl:zn2<maxLen:=by have:=i2.2.1;have:=i2.2.2;unfold maxLen;omega
  clear i1 i2 i3 i4 hz2 c1 c9 hp0
  go_wp2_with (refine F3 _ rfl _ _ _ 119 rfl 9 4 bB underlying119 zb zn2 _ rfl I1.out.byz hznl x hxs rfl (.bool (φ x)) rfl ?_;intro w3 m3' g3 z3)
  go_ret
  refine⟨rfl,zn2+1,fun y=>if y=x then some (φ x) else Z2 y,I1.out.byz_set g3 m3' (fun y=>?_),I2.out.store hxF HZ2.out,fun y hy=>?_,(But.of_below HB0.out).trans (I4.out.trans (.bE g3 rfl))⟩
  ·show (if y=x then some (Value.bool (φ x)) else (Z2 y).map Value.bool)=(if y=x then some (φ x) else Z2 y).map Value.bool
   by_cases e:y=x
   ·rw[if_pos e,if_pos e];rfl
   ·rw[if_neg e,if_neg e]
  ·show (if y=x then some (φ x) else Z2 y)=Z y
   rw[if_neg (fun e=>by subst e;omega)]
   exact I3.out y (by omega)
theorem byz_any{φ:ByteArray→Bool}{F:List ByteArray}{rank:ByteArray→Nat}(hok:FX t φ rank F)(x:ByteArray)(d:Dc)(hx:dN t x=some (3,d)):ByzC S b kb db wb cb zb n t ns nc nl oth chn W C φ F rank x:=by
 have key:∀(m:Nat)(x:ByteArray)(d:Dc),rank x<m→dN t x=some (3,d)→ByzC S b kb db wb cb zb n t ns nc nl oth chn W C φ F rank x:=by
  intro m
  induction m with
  |zero=>intro x d h;omega
  |succ m ih=>
   intro x d h hx
   refine byz_step hok x d hx fun f hf h6=>?_
   obtain⟨-,-,-,-,hall⟩:=hok x d hx
   obtain⟨d',h1,h2⟩:=hall f hf h6
   exact⟨h2,ih f.name d' (by omega) h1⟩
 exact key _ x d (Nat.lt_succ_self _) hx
end
end
section
open Go.RowKit
open _root_.Go.Proofs.Tryz
def AddT(b kb db:Nat)(g:Nat):Prop:=g=b∨g=kb∨g=db
theorem rz(l:List Dc)(d:Dc):aH (l++[d])=aH l+if d.kind=1 then d.names.length else 0:=by simp[aH]
theorem oM(k:Int)(l:List Dc)(d:Dc):dR k (l++[d])=dR k l+if d.kind=k then 1 else 0:=by
 unfold dR
 rw[List.countP_append,List.countP_singleton]
 congr 1
 by_cases h:d.kind=k<;>simp[h]
theorem qG(l:List Dc)(d:Dc):dw (l++[d])=(dw l || !decide (d.kind=1)):=by simp[dw]
theorem tJ(l:List Dc)(d:Dc):fP (l++[d])=(fP l || decide (d.kind=7)):=by simp[fP]
theorem qL(l:List Dc)(d:Dc):kZ (l++[d])=kZ l++uz d:=by simp[kZ]
def pK(d:Dc):Tab:=if dI d.kind=0 then [] else [(d.name,dI d.kind,d)]
theorem dTab_site{d:Dc}(h:d.kind=1):uz d=pK d++d.names.map (fun x=>(x,2,d)):=by unfold uz pK;rw[if_pos h]
theorem JB{d:Dc}(h:¬d.kind=1):uz d=pK d:=by unfold uz pK;rw[if_neg h,List.append_nil]
section
variable {w:World} {S:Nat→Prop} {b kb db wb cb zb n zn:Nat} {t:Tab} {ns nc nl:Nat} {oth chn:Bool} {W C:List ByteArray} {Z:ByteArray→Option Bool}
theorem add_any(h:Sc prog 121 w S b kb db wb cb zb n zn t ns nc nl oth chn W C Z)(d:Dc)(v:Value)(hd:dS w S d v)(hk:-9223372036854775808≤d.kind∧d.kind≤9223372036854775807)
  (hnm:d.name.size≤maxLen) (hns:∀x∈d.names,x.size≤maxLen) (hn:n+d.names.length+1≤1000000000) (hb1:ns+d.names.length≤1000000000) (hb2:nc≤1000000000) (hb3:nl≤1000000000):
  Calls prog 62 #[.pointer (some ⟨b,0,none⟩),v] w fun e w'=>e=.returned (.tuple #[])∧
   Sc prog 121 w' S b kb db wb cb zb (n+1+d.names.length) zn (t++uz d) (ns+if d.kind=1 then d.names.length else 0) (nc+if d.kind=4 then 1 else 0) (nl+if d.kind=6 then 1 else 0) (oth || !decide (d.kind=1)) (chn || decide (d.kind=7)) W C Z∧
   But (AddT b kb db) w w':=by
 obtain⟨tF,htF⟩:∃x,x=t++uz d:=⟨_,rfl⟩
 obtain⟨nsF,hnsF⟩:∃x,x=ns+if d.kind=1 then d.names.length else 0:=⟨_,rfl⟩
 obtain⟨ncF,hncF⟩:∃x,x=nc+if d.kind=4 then 1 else 0:=⟨_,rfl⟩
 obtain⟨nlF,hnlF⟩:∃x,x=nl+if d.kind=6 then 1 else 0:=⟨_,rfl⟩
 obtain⟨oF,hoF⟩:∃x,x=(oth || !decide (d.kind=1)):=⟨_,rfl⟩
 obtain⟨cF,hcF⟩:∃x,x=(chn || decide (d.kind=7)):=⟨_,rfl⟩
 rw[←htF,←hnsF,←hncF,←hnlF,←hoF,←hcF]
 have HTF:=jI (And.intro htF (And.intro hnsF (And.intro hncF (And.intro hnlF (And.intro hoF hcF)))))
 clear htF hnsF hncF hnlF hoF hcF
 have hS0:=h.lt.2
 have hbs:=h.lt.1
 have hkd:kb<w.heap.size∧db<w.heap.size:=⟨h.kinds.lt,by obtain⟨g,hg,-⟩:=h.decls;exact hg.lt⟩
 have GX:=jI (show ∀g,S g→¬AddT b kb db g from fun g hg=>by have:=h.out g hg;unfold AddT;omega)
 have HDD:=jI hd
 obtain⟨nA,nc',fA,fc,vt,vr,vw,hv,hnA,-,-,-,h5,h6,h7⟩:=hd
 obtain⟨o1,m1,d1,wA1,wn1,wc1,kA1,kn1,kc1,rfl⟩:=h5.form
 obtain⟨o2,m2,d2,wA2,wn2,wc2,kA2,kn2,kc2,rfl⟩:=h6.form
 obtain⟨o3,m3,d3,wA3,wn3,wc3,kA3,kn3,kc3,rfl⟩:=h7.form
 clear h5 h6 h7
 simp only[Value.cells,List.append_toArray,List.cons_append,List.nil_append] at hv
 have HV:=jI hv
 rw[hv]
 obtain⟨w0,hw0⟩:=kE (w.alloc (.cells (xX d.kind d.line d.name nA d.names.length nc' fA d.faults.length fc o1 m1 d1 wA1 wn1 wc1 kA1 kn1 kc1 d.proto o2 m2 d2 wA2 wn2 wc2 kA2 kn2 kc2 o3 m3 d3 wA3 wn3 wc3 kA3 kn3 kc3 d.use) 35 (0,0)))
 have hb0:Below w.heap.size w w0:=by rw[hw0];exact (jQ _ _).alloc (aP _) _
 have hz0:w0.heap.size=w.heap.size+1:=by rw[hw0];simp
 have hr0:w0.heap[w.heap.size]?=some (.cells (xX d.kind d.line d.name nA d.names.length nc' fA d.faults.length fc o1 m1 d1 wA1 wn1 wc1 kA1 kn1 kc1 d.proto o2 m2 d2 wA2 wn2 wc2 kA2 kn2 kc2 o3 m3 d3 wA3 wn3 wc3 kA3 kn3 kc3 d.use) 35 (0,0)):=by rw[hw0];exact jR w _
 have hbB0:But (AddT b kb db) w w0:=.of_below hb0
 -- what stands in every later world
 have HB:=jI (show ∀W',But (AddT b kb db) w0 W'→W'.heap[w.heap.size]?=some (.cells (xX d.kind d.line d.name nA d.names.length nc' fA d.faults.length fc o1 m1 d1 wA1 wn1 wc1 kA1 kn1 kc1 d.proto o2 m2 d2 wA2 wn2 wc2 kA2 kn2 kc2 o3 m3 d3 wA3 wn3 wc3 kA3 kn3 kc3 d.use) 35 (0,0))∧dS W' S d (.agg #[.int .i64 d.kind,.int .i64 d.line,.string d.name,.slice nA d.names.length nc',.slice fA d.faults.length fc,.int .i64 o1,.string m1,.int .i64 d1,.slice wA1 wn1 wc1,.slice kA1 kn1 kc1,.string d.proto,.int .i64 o2,.string m2,.int .i64 d2,.slice wA2 wn2 wc2,.slice kA2 kn2 kc2,.int .i64 o3,.string m3,.int .i64 d3,.slice wA3 wn3 wc3,.slice kA3 kn3 kc3,.string d.use]) from fun W' hW=>
  ⟨(hW.block _ (by unfold AddT;omega) (by omega)).trans hr0,by rw[←HV.out];exact HDD.out.keep ((hbB0.trans hW).kept GX.out)⟩)
 have HH:=jI (h.below hb0)
 have HW0:=jI hw0
 have HNA:=jI hnA
 have HNS:=jI hns
 have hkr:=hk
 clear h hw0 hr0 hnA hns hv hk
 have HDC:=jI (fun W' hW=>uf d _ W' S (HB.out W' hW).2 hkr)
 obtain⟨kd,hkd'⟩:=kE (dI d.kind)
 rw[←hkd'] at HDC
 have HKD:=jI hkd'
 clear hkd'
 go_enter func62,ntmps62
 go_upto_region 1 with fail
 rw[←HW0.out]
 clear HW0
 have hr1:=(HB.out w0 (.refl _ _)).1
 have HR1:=jI hr1
 clear hr1
 go_wp2_with (with_reducible refine gy _ rfl (.tmp 3) rfl w.heap.size rfl _ HR1.out rfl ?_)
 refine (HDC.out w0 (.refl _ _)).mono ?_
 rintro e w1 ⟨rfl,hb1'⟩
 have hbB1:But (AddT b kb db) w0 w1:=.of_below hb1'
 go_upto_if 10 with fail
 go_cut [4] (fun s4 wx=>s4=.int .i64 kd∧Sc prog 121 wx S b kb db wb cb zb (n+1) zn (t++pK d) ns nc nl oth chn W C Z∧But (AddT b kb db) w0 wx)
 case first=>
  have HH1:=jI (HH.out.below hb1')
  have HR2:=jI (HB.out w1 hbB1).1
  by_cases hkz:kd=0
  ·subst hkz
   have e0:pK d=[]:=by unfold pK;rw[←HKD.out,if_pos rfl]
   have HE:=jI e0
   clear e0
   go_wp2
   go_meet
   refine⟨rfl,?_,hbB1⟩
   rw[HE.out,List.append_nil]
   exact HH1.out.mono (by omega)
  ·have hkn:(kd != 0)=true:=by rw[bne_iff_ne];exact hkz
   have e0:pK d=[(d.name,kd,d)]:=by unfold pK;rw[←HKD.out,if_neg hkz]
   have HE:=jI e0
   clear e0
   have cn:w1.cell? ⟨w.heap.size,2,none⟩=some (.string d.name):=ah HR2.out 2 _ rfl
   have HPUT:=jI (put_any HH1.out (by omega) d.name hnm kd hkz d _ (HB.out w1 hbB1).2)
   go_wp2_with (with_reducible refine gy _ rfl (.tmp 3) rfl w.heap.size rfl _ HR2.out rfl ?_)
   refine HPUT.out.mono ?_
   rintro e w2 ⟨rfl,hsc2,hbp⟩
   have HS2:=jI hsc2
   clear hsc2 cn
   go_wp2
   go_meet
   refine⟨rfl,?_,hbB1.trans (hbp.mono (fun g hg=>by unfold AddT;omega))⟩
   rw[HE.out]
   exact HS2.out
 case rest=>
  obtain⟨rfl,hsc2,hbB2⟩:=hcut
  obtain⟨w2,hw2⟩:=kE wc
  rw[←hw2] at hsc2 hbB2
  rw[←hw2]
  clear hw2
  have HS2:=jI hsc2
  have hbw2:=hbB0.trans hbB2
  obtain⟨hr2,-⟩:=HB.out w2 hbB2
  have cn0:w2.cell? ⟨w.heap.size,0,none⟩=some (.int .i64 d.kind):=ah hr2 0 _ rfl
  have cn3:w2.cell? ⟨w.heap.size,3,none⟩=some (.slice nA d.names.length nc'):=ah hr2 3 _ rfl
  have uG:=jI hsc2.row
  obtain⟨-,-,e2,e3,e4,e5,e6,-,-,-,ef⟩:=Ah hsc2.row
  have f3:=ef 3
  have f4:=ef 4
  have f5:=ef 5
  have f6:=ef 6
  clear hsc2 hr2 ef HDC HR1
  by_cases q1:d.kind=1
  ·have p1:(d.kind==1)=true:=by rw[q1];rfl
   have Q1:=jI q1
   clear q1
   clear e3 e4 e5 e6 f3 f4 f5 f6 e2
   go_wp2_with fail
   go_loopw [24] (fun x wr=>∃k:Nat,k≤d.names.length∧x=.int .i64 k∧Hid (Sc prog 121 wr S b kb db wb cb zb (n+1+k) zn (t++pK d++(d.names.take k).map (fun x=>(x,2,d))) (ns+k) nc nl oth chn W C Z)∧But (AddT b kb db) w0 wr) (fun x _=>d.names.length-(intOf x).toNat)
   case atStart=>exact⟨0,cu _,rfl,jI (by simpa using HS2.out),hbB2⟩
   case round=>
    obtain⟨k,hk,rfl,hsc,hb⟩:=hrel
    by_cases hlt:k<d.names.length
    ·obtain⟨g,o,rfl,hSg,hc⟩:=HNA.out.cells (by omega)
     obtain⟨x,hx⟩:=kE (d.names[k])
     have hcx:wr.cell? ⟨g,o+k,none⟩=some (.string x):=(cell_of_block ((hbB0.trans hb).block g (GX.out g hSg) (hS0 g hSg))).trans ((hc k _ (dV d.names k hlt)).trans (by rw[hx];simp[hlt]))
     have hxs:x.size≤maxLen:=HNS.out x (by rw[hx];exact bQ hlt)
     have htk:d.names.take (k+1)=d.names.take k++[x]:=by rw[hx];exact cO hlt
     have hkI:(k:Int)<(d.names.length:Int):=by omega
     have hk0:(0:Int)≤(k:Int):=by omega
     have HR3:=jI (HB.out wr hb).1
     have HPUT:=jI (put_any hsc.out (by omega) x hxs 2 (by decide) d _ (HB.out wr hb).2)
     have HTK:=jI htk
     clear hc hx htk
     go_wp2_with (with_reducible refine gy _ rfl (.tmp 3) rfl w.heap.size rfl _ HR3.out rfl ?_)
     refine HPUT.out.mono ?_
     rintro e w3 ⟨rfl,hsc3,hbp⟩
     obtain⟨-,-,g2,-,-,-,-,-,-,-,gf⟩:=Ah hsc3.row
     have g2f:=gf 2
     have HS3:=jI hsc3
     have hb3':=hb.trans (hbp.mono (T':=AddT b kb db) (fun g hg=>by unfold AddT;omega))
     have hwr:IntKind.i64.wrap ((ns:Int)+(k:Int)+1)=(ns:Int)+(k:Int)+1:=IntWalk.i64_in _ (by omega)
     clear hsc3 gf hcx
     go_wp2
     go_roundw
     case rel=>
      refine⟨k+1,by omega,by go_num,?_,hb3'.trans (.setCell (.refl _ _) (Or.inl rfl) _ _)⟩
      have e:((ns:Int)+(k:Int)+1)=((ns+(k+1):Nat):Int):=by omega
      rw[e]
      have hrow:=aF HS3.out.row (i:=2) (.int .i64 ((ns+(k+1):Nat):Int))
      have:=HS3.out.set (ns':=ns+(k+1)) (nc':=nc) (nl':=nl) (oth':=oth) (chn':=chn) (.setCell (T:=fun x=>x=b) (.refl _ _) rfl 2 (.int .i64 ((ns+(k+1):Nat):Int))) hrow
      rw[HTK.out,List.map_append,List.map_singleton,←List.append_assoc]
      exact this
     case measure=>simp[intOf];omega
    ·obtain rfl:k=d.names.length:=by omega
     have hkI:¬(d.names.length:Int)<(d.names.length:Int):=by omega
     go_wp2
     ((try simp only[Exit.inBlock,Exit.then]);refine bodyPost_ret (results_none rfl _ _ _) rfl ?_)
     have q1:=Q1.out
     refine⟨rfl,?_,hbB0.trans hb⟩
     have:=hsc.out
     rw[List.take_length,List.append_assoc,←dTab_site q1] at this
     obtain⟨rfl,rfl,rfl,rfl,rfl,rfl⟩:=HTF.out
     rw[if_pos q1,if_neg (by omega),if_neg (by omega),decide_eq_true q1,decide_eq_false (show ¬d.kind=7 by omega)]
     simpa using this
  have p1:(d.kind==1)=false:=by rw[bP];exact q1
  have hdT:=JB q1
  have HDT:=jI hdT
  clear hdT e2
  by_cases q4:d.kind=4
  ·have p4:(d.kind==4)=true:=by rw[q4];rfl
   have Q4:=jI q4
   clear q4
   have hwr:IntKind.i64.wrap ((nc:Int)+1)=((nc+1:Nat):Int):=by rw[IntWalk.i64_in _ (by omega)];omega
   go_wp2
   go_end0
   have q4:=Q4.out
   refine⟨rfl,?_,hbw2.trans (.setCell (.setCell (.refl _ _) (Or.inl rfl) _ _) (Or.inl rfl) _ _)⟩
   obtain⟨rfl,rfl,rfl,rfl,rfl,rfl⟩:=HTF.out
   rw[HDT.out,if_neg q1,if_pos q4,if_neg (by omega),decide_eq_false q1,decide_eq_false (show ¬d.kind=7 by omega)]
   have hrow:=aF (aF uG.out (i:=3) (.int .i64 ((nc+1:Nat):Int))) (i:=5) (.bool true)
   have:=HS2.out.set (ns':=ns) (nc':=nc+1) (nl':=nl) (oth':=true) (chn':=chn) (.setCell (T:=fun x=>x=b) (.setCell (T:=fun x=>x=b) (.refl _ _) rfl 3 (.int .i64 ((nc+1:Nat):Int))) rfl 5 (.bool true)) hrow
   simpa using this.mono (by omega)
  have p4:(d.kind==4)=false:=by rw[bP];exact q4
  by_cases q6:d.kind=6
  ·have p6:(d.kind==6)=true:=by rw[q6];rfl
   have Q6:=jI q6
   clear q6
   have hwr:IntKind.i64.wrap ((nl:Int)+1)=((nl+1:Nat):Int):=by rw[IntWalk.i64_in _ (by omega)];omega
   go_wp2
   go_end0
   have q6:=Q6.out
   refine⟨rfl,?_,hbw2.trans (.setCell (.setCell (.refl _ _) (Or.inl rfl) _ _) (Or.inl rfl) _ _)⟩
   obtain⟨rfl,rfl,rfl,rfl,rfl,rfl⟩:=HTF.out
   rw[HDT.out,if_neg q1,if_neg q4,if_pos q6,decide_eq_false q1,decide_eq_false (show ¬d.kind=7 by omega)]
   have hrow:=aF (aF uG.out (i:=4) (.int .i64 ((nl+1:Nat):Int))) (i:=5) (.bool true)
   have:=HS2.out.set (ns':=ns) (nc':=nc) (nl':=nl+1) (oth':=true) (chn':=chn) (.setCell (T:=fun x=>x=b) (.setCell (T:=fun x=>x=b) (.refl _ _) rfl 4 (.int .i64 ((nl+1:Nat):Int))) rfl 5 (.bool true)) hrow
   simpa using this.mono (by omega)
  have p6:(d.kind==6)=false:=by rw[bP];exact q6
  by_cases q7:d.kind=7
  ·have p7:(d.kind==7)=true:=by rw[q7];rfl
   have Q7:=jI q7
   clear q7
   go_wp2
   go_end0
   have q7:=Q7.out
   refine⟨rfl,?_,hbw2.trans (.setCell (.setCell (.refl _ _) (Or.inl rfl) _ _) (Or.inl rfl) _ _)⟩
   obtain⟨rfl,rfl,rfl,rfl,rfl,rfl⟩:=HTF.out
   rw[HDT.out,if_neg q1,if_neg q4,if_neg q6,decide_eq_false q1,decide_eq_true q7]
   have hrow:=aF (aF uG.out (i:=6) (.bool true)) (i:=5) (.bool true)
   have:=HS2.out.set (ns':=ns) (nc':=nc) (nl':=nl) (oth':=true) (chn':=true) (.setCell (T:=fun x=>x=b) (.setCell (T:=fun x=>x=b) (.refl _ _) rfl 6 (.bool true)) rfl 5 (.bool true)) hrow
   simpa using this.mono (by omega)
  ·have p7:(d.kind==7)=false:=by rw[bP];exact q7
   go_wp2
   go_end0
   refine⟨rfl,?_,hbw2.trans (.setCell (.refl _ _) (Or.inl rfl) _ _)⟩
   obtain⟨rfl,rfl,rfl,rfl,rfl,rfl⟩:=HTF.out
   rw[HDT.out,if_neg q1,if_neg q4,if_neg q6,decide_eq_false q1,decide_eq_false q7]
   have hrow:=aF uG.out (i:=5) (.bool true)
   have:=HS2.out.set (ns':=ns) (nc':=nc) (nl':=nl) (oth':=true) (chn':=chn) (.setCell (T:=fun x=>x=b) (.refl _ _) rfl 5 (.bool true)) hrow
   simpa using this.mono (by omega)
end
end
end Go.Proofs.YtmohibkomlhlaaaGreatDoor
