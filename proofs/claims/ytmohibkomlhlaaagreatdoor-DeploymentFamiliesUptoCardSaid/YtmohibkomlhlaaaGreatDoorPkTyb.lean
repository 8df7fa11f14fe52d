/- The contract of the scope's method decl: the error of a declaration behind others. BA by gen_tydecl.py. Faults name earlier faults alone, where no declaration has an error; what is known stays right behind a further declaration. No condition. -/
import Derived.Test.YtmohibkomlhlaaaGreatDoorPkTya
import Derived.Test.YtmohibkomlhlaaaGreatDoorPkTyq
set_option maxRecDepth 100000
set_option maxHeartbeats 4000000
namespace Go.Proofs.YtmohibkomlhlaaaGreatDoor
section
open Go.RowKit
open _root_.Go.Proofs.Tryz
def iB(wb cb zb:Nat)(g:Nat):Prop:=g=wb∨g=cb∨g=zb
def SLim(d:Dc):Prop:=(1≤d.kind∧d.kind≤7)∧d.name.size≤maxLen∧d.use.size≤maxLen∧(∀x∈d.names,x.size≤maxLen)∧d.names.length≤2000000∧d.faults.length≤2000000∧(∀f∈d.faults,FLim f)∧ax d.term≤1000000000∧ax d.read≤1000000000∧ax d.write≤1000000000
theorem fI(k:Int)(l:List Dc)(d:Dc):bV k (l++[d])=bV k l++if d.kind=k then d.names else []:=by simp[bV]
theorem AP{l:List Dc}(h:fP l=false):bV 7 l=[]:=by
 unfold bV
 unfold fP at h
 rw[List.any_eq_false] at h
 rw[List.flatMap_eq_nil_iff]
 intro d hd
 have:=h d hd
 rw[if_neg (by simpa using this)]
section
variable {w w':World} {S:Nat→Prop} {b kb db wb cb zb n zn:Nat} {t:Tab} {ns nc nl:Nat} {oth chn:Bool} {W C:List ByteArray} {Z:ByteArray→Option Bool}
theorem Sc.wit_set{n':Nat}{W':List ByteArray}(h:Sc prog 121 w S b kb db wb cb zb n zn t ns nc nl oth chn W C Z)(hn:n≤n')(hb:But (fun g=>g=wb) w w')(hm:bH prog w' 9 wb n' (qP W')):
  Sc prog 121 w' S b kb db wb cb zb n' zn t ns nc nl oth chn W' C Z:=by
 have hne:=h.ne
 have hS:∀g,S g→¬g=wb:=fun g hg=>by have:=h.out g hg;omega
 have h':=h.mono hn
 exact⟨(hb.block b (by omega) h.lt.1).trans h.row,h'.kinds.but hb (by omega),h'.decls.but hb (by omega) hS,hm,h'.con.but hb (by omega),h'.byz.but hb (by omega),h.nz,h.ne,h.out,⟨bZ h.lt.1 hb.size,fun g hg=>bZ (h.lt.2 g hg) hb.size⟩⟩
theorem Sc.con_set{n':Nat}{C':List ByteArray}(h:Sc prog 121 w S b kb db wb cb zb n zn t ns nc nl oth chn W C Z)(hn:n≤n')(hb:But (fun g=>g=cb) w w')(hm:bH prog w' 9 cb n' (qP C')):
  Sc prog 121 w' S b kb db wb cb zb n' zn t ns nc nl oth chn W C' Z:=by
 have hne:=h.ne
 have hS:∀g,S g→¬g=cb:=fun g hg=>by have:=h.out g hg;omega
 have h':=h.mono hn
 exact⟨(hb.block b (by omega) h.lt.1).trans h.row,h'.kinds.but hb (by omega),h'.decls.but hb (by omega) hS,h'.wit.but hb (by omega),hm,h'.byz.but hb (by omega),h.nz,h.ne,h.out,⟨bZ h.lt.1 hb.size,fun g hg=>bZ (h.lt.2 g hg) hb.size⟩⟩
end
theorem Ho(t:List (ByteArray × Int))(ns:Nat)(nm:ByteArray)(pre r:List ByteArray)(x:ByteArray):qN t ns nm pre (x::r)=if aQ t x≠0∨x=nm∨pre.contains x=true then 5 else if 12≤ns+pre.length then 3 else qN t ns nm (pre++[x]) r:=rfl
theorem Dn(t:List (ByteArray × Int))(ns:Nat)(f:Ft)(r:List Ft):jE t ns (f::r)=if lC t ns f≠0 then lC t ns f else jE t ns r:=rfl
def DcPost(l:List Dc)(d:Dc)(S:Nat→Prop)(b kb db wb cb zb n:Nat)(F:List ByteArray)(w:World)(e:Ending)(w':World):Prop:=
 e=.returned (.int .i64 (iK l d))∧But (iB wb cb zb) w w'∧(iK l d=0→∃zn' Z',Sc prog 121 w' S b kb db wb cb zb (n+d.names.length) zn' (kZ l) (aH l) (dR 4 l) (dR 6 l) (dw l) (fP l) (bV 5 (l++[d])) (bV 7 (l++[d])) Z'∧mH (jr l) F Z' zn')
theorem Jp(l:List Dc)(d:Dc)(v:Value)(w:World)(S:Nat→Prop)(b kb db wb cb zb n zn:Nat)(Z:ByteArray→Option Bool)(rank:ByteArray→Nat)(F:List ByteArray)
  (h:Sc prog 121 w S b kb db wb cb zb n zn (kZ l) (aH l) (dR 4 l) (dR 6 l) (dw l) (fP l) (bV 5 l) (bV 7 l) Z) (hd:dS w S d v) (hlim:SLim d)
  (hz:n≤100000000∧aH l≤100000000∧dR 4 l≤100000000∧dR 6 l≤100000000) (hok:FX (kZ l) (jr l) rank F) (hinv:mH (jr l) F Z zn):
  Calls prog 61 #[.pointer (some ⟨b,0,none⟩),v] w (DcPost l d S b kb db wb cb zb n F w):=by
 obtain⟨⟨lk1,lk7⟩,lnm,lus,lns,lnl,lfl,lff,lt1,lt2,lt3⟩:=hlim
 obtain⟨z1,z2,z3,z4⟩:=hz
 have hS0:=h.lt.2
 have hbs:=h.lt.1
 have hne:=h.ne
 have GX:=jI (show ∀g,S g→¬iB wb cb zb g from fun g hg=>by have:=h.out g hg;unfold iB;omega)
 have HDD:=jI hd
 obtain⟨nA,nc',fA,fc,vt,vr,vw,hv,hnA,hnc,hfA,hfc,h5,h6,h7⟩:=hd
 have HT5:=jI h5
 have HT6:=jI h6
 have HT7:=jI h7
 obtain⟨o1,m1,d1,wA1,wn1,wc1,kA1,kn1,kc1,rfl⟩:=h5.form
 obtain⟨o2,m2,d2,wA2,wn2,wc2,kA2,kn2,kc2,rfl⟩:=h6.form
 obtain⟨o3,m3,d3,wA3,wn3,wc3,kA3,kn3,kc3,rfl⟩:=h7.form
 clear h5 h6 h7
 simp only[Value.cells,List.append_toArray,List.cons_append,List.nil_append] at hv
 have HV:=jI hv
 rw[hv]
 obtain⟨w0,hw0⟩:=kE (w.alloc (.cells (xX d.kind d.line d.name nA d.names.length nc' fA d.faults.length fc o1 m1 d1 wA1 wn1 wc1 kA1 kn1 kc1 d.proto o2 m2 d2 wA2 wn2 wc2 kA2 kn2 kc2 o3 m3 d3 wA3 wn3 wc3 kA3 kn3 kc3 d.use) 35 (0,0)))
 have hb0:Below w.heap.size w w0:=by rw[hw0];exact (jQ _ _).alloc (aP _) _
 have hz0:w0.heap.size=w.heap.size+1:=by rw[hw0];simp
 have hr0:w0.heap[w.heap.size]?=some (.cells (xX d.kind d.line d.name nA d.names.length nc' fA d.faults.length fc o1 m1 d1 wA1 wn1 wc1 kA1 kn1 kc1 d.proto o2 m2 d2 wA2 wn2 wc2 kA2 kn2 kc2 o3 m3 d3 wA3 wn3 wc3 kA3 kn3 kc3 d.use) 35 (0,0)):=by rw[hw0];exact jR w _
 have hbB0:But (iB wb cb zb) w w0:=.of_below hb0
 have hsc:=h.below hb0
 have hzl:=h.byz.lt
 have hwl:=h.wit.lt
 have hcl:=h.con.lt
 -- what stands in every later world
 have HB:=jI (show ∀W',But (iB wb cb zb) w0 W'→W'.heap[w.heap.size]?=some (.cells (xX d.kind d.line d.name nA d.names.length nc' fA d.faults.length fc o1 m1 d1 wA1 wn1 wc1 kA1 kn1 kc1 d.proto o2 m2 d2 wA2 wn2 wc2 kA2 kn2 kc2 o3 m3 d3 wA3 wn3 wc3 kA3 kn3 kc3 d.use) 35 (0,0))∧dS W' S d (.agg #[.int .i64 d.kind,.int .i64 d.line,.string d.name,.slice nA d.names.length nc',.slice fA d.faults.length fc,.int .i64 o1,.string m1,.int .i64 d1,.slice wA1 wn1 wc1,.slice kA1 kn1 kc1,.string d.proto,.int .i64 o2,.string m2,.int .i64 d2,.slice wA2 wn2 wc2,.slice kA2 kn2 kc2,.int .i64 o3,.string m3,.int .i64 d3,.slice wA3 wn3 wc3,.slice kA3 kn3 kc3,.string d.use])∧bH prog W' 9 kb n (kF (kZ l))∧
   W'.cell? ⟨b,0,none⟩=some (.map (some kb))∧W'.cell? ⟨b,2,none⟩=some (.int .i64 (aH l))∧W'.cell? ⟨b,3,none⟩=some (.int .i64 (dR 4 l))∧W'.cell? ⟨b,4,none⟩=some (.int .i64 (dR 6 l))∧W'.cell? ⟨b,5,none⟩=some (.bool (dw l))∧W'.cell? ⟨b,6,none⟩=some (.bool (fP l))∧W'.cell? ⟨b,7,none⟩=some (.map (some wb))∧W'.cell? ⟨b,8,none⟩=some (.map (some cb)) from fun W' hW=>by
  have hrow:=(hW.block b (by unfold iB;omega) hsc.lt.1).trans hsc.row
  obtain⟨x0,-,x2,x3,x4,x5,x6,x7,x8,-,-⟩:=Ah hrow
  exact⟨(hW.block _ (by unfold iB;omega) (by omega)).trans hr0,by rw[←HV.out];exact HDD.out.keep ((hbB0.trans hW).kept GX.out),hsc.kinds.but hW (by unfold iB;omega),x0,x2,x3,x4,x5,x6,x7,x8⟩)
 have HSC:=jI hsc
 have HW0:=jI hw0
 have HNA:=jI hnA
 have HFA:=jI hfA
 have HNS:=jI lns
 have HFF:=jI lff
 have HOK:=jI hok
 have HINV:=jI hinv
 have HBB0:=jI hbB0
 have HB0:=jI hb0
 obtain⟨de,hde⟩:=kE (iK l d)
 have kX:=jI (show ∀(e:Ending)(w':World),e=.returned (.int .i64 de)→But (iB wb cb zb) w0 w'→(de=0→∃zn' Z',Sc prog 121 w' S b kb db wb cb zb (n+d.names.length) zn' (kZ l) (aH l) (dR 4 l) (dR 6 l) (dw l) (fP l) (bV 5 (l++[d])) (bV 7 (l++[d])) Z'∧mH (jr l) F Z' zn')→DcPost l d S b kb db wb cb zb n F w e w' from
  fun e w' h1 h2 h3=>by rw[hde] at h1 h3;exact⟨h1,hbB0.trans h2,h3⟩)
 have HDE:=jI hde
 have HDC:=jI (fun W' hW=>uf d _ W' S (HB.out W' hW).2.1 ⟨by omega,by omega⟩)
 obtain⟨kd,hkd'⟩:=kE (dI d.kind)
 rw[←hkd'] at HDC
 have HKD:=jI hkd'
 obtain⟨kx,hkx⟩:=kE (kS (kZ l) d.name)
 have hgx:(kF (kZ l) d.name).getD (.int .i64 0)=.int .i64 kx:=by rw[hkx];exact wO _ _
 have HKX:=jI (show kx=aQ (tab l) d.name by rw[hkx,wM])
 have HLK:=jI (show ∀W',But (iB wb cb zb) w0 W'→(Instr.lookup 117 (.map (some kb)) (.string d.name) false).run prog W'=.ok (.int .i64 kx) W' from fun W' hW=>by
  rw[(HB.out W' hW).2.2.1.look bB underlying117 (eU W') lnm,hgx])
 have uH:=jI (show ∀w',Below w0.heap.size w0 w'→d.kind≠5→d.kind≠7→∃zn' Z',Sc prog 121 w' S b kb db wb cb zb (n+d.names.length) zn' (kZ l) (aH l) (dR 4 l) (dR 6 l) (dw l) (fP l) (bV 5 (l++[d])) (bV 7 (l++[d])) Z'∧mH (jr l) F Z' zn' from
  fun w' hw' h5 h7=>⟨zn,Z,by rw[fI,fI,if_neg h5,if_neg h7,List.append_nil,List.append_nil];exact (hsc.below hw').mono (by omega),hinv⟩)
 clear h hw0 hr0 hnA hfA hv lns lff hok hinv hsc hde hkd' hkx hgx hb0 hbB0
 go_enter func61,ntmps61
 go_upto_region 1 with fail
 rw[←HW0.out]
 clear HW0
 go_cut [22] (fun s22 wx=>s22=.bool (decide (d.kind=1∧dw l=true))∧wx=w0)
 case first=>
  by_cases q1:d.kind=1
  ·have p1:(d.kind==1)=true:=by rw[q1];rfl
   have ED:=jI (show decide (d.kind=1∧dw l=true)=dw l by rw[q1];cases dw l<;>rfl)
   have hB_:=HB.out w0 (.refl _ _)
   obtain⟨r_,-,-,t0,t2,t3,t4,t5,t6,t7,t8⟩:=hB_
   have e0:=ah r_ 0 _ rfl
   clear r_ t0 t2 t3 t4 t6 t7 t8
   clear q1
   go_wp2
   go_meet
   exact⟨congrArg Value.bool ED.out.symm,rfl⟩
  ·have p1:(d.kind==1)=false:=by rw[bP];exact q1
   have ED:=jI (show decide (d.kind=1∧dw l=true)=false from decide_eq_false (fun h=>q1 h.1))
   have hB_:=HB.out w0 (.refl _ _)
   obtain⟨r_,-,-,t0,t2,t3,t4,t5,t6,t7,t8⟩:=hB_
   have e0:=ah r_ 0 _ rfl
   clear r_ t0 t2 t3 t4 t5 t6 t7 t8
   go_wp2
   go_meet
   exact⟨congrArg Value.bool ED.out.symm,rfl⟩
 case rest=>
  obtain⟨rfl,hwx⟩:=hcut
  subst wc
  by_cases hoth:d.kind=1∧dw l=true
  ·have hdo:decide (d.kind=1∧dw l=true)=true:=decide_eq_true hoth
   have E:=jI (show de=10 by rw[HDE.out];unfold iK;rw[if_pos hoth])
   clear hoth
   rw[hdo]
   go_wp2
   go_ret
   exact kX.out _ _ (by rw[E.out];rfl) (.refl _ _) (fun h0=>by have:=E.out;omega)
  ·have hdo:decide (d.kind=1∧dw l=true)=false:=decide_eq_false hoth
   rw[hdo]
   have hd1:=HDE.out
   unfold iK at hd1
   rw[if_neg hoth] at hd1
   have HD1:=jI hd1
   clear hd1
   clear hoth hdo
   go_upto_region 3 with fail
   go_cut [35] (fun s35 wx=>s35=.bool (kd != 0&&kx != 0)∧Below w0.heap.size w0 wx)
   case first=>
    have hbq:But (iB wb cb zb) w0 w0.drew:=⟨rfl,rfl,rfl,aP _,fun _ _ _=>rfl⟩
    by_cases hkz:kd=0
    ·have hkn:(kd != 0)=false:=by rw[hkz];rfl
     have ED:=jI (show (kd != 0&&kx != 0)=false by rw[hkn,Bool.false_and])
     clear hkz
     refine av.start (fun w'=>But (iB wb cb zb) w0 w') [] [0,1,2,3,4,5,6,7,8,9,10,11,12] (by kernel_rfl) hbq (fun hHeld=>?_)
     refine av.take (v:=?_) rfl (by decide +kernel) (by rfl) (fun _ _ _ h=>h) hHeld ?_ ?_
     rotate_left
     focus
      intro w9 hS9
      show Sem.run _ (do pure (Next.value (←Instr.loadAt 35 (.pointer (some ⟨w.heap.size,0,none⟩))))) w9=_
      rw[Sem.run_bind,run_loadAt_mid w9 w.heap.size 0 35 _ _ (vS (HB.out w9 hS9).1) underlying35 rfl cZ]
      rfl
     try simp only[Act.put,List.getElem_toArray,List.getElem_cons_zero,List.setIfInBounds_toArray,List.set_cons_zero,List.set_cons_succ]
     refine av.call rfl (by decide +kernel) (by rfl) (fun K hK=>?_)
     go_simp
     (go_at_call 86;refine (HDC.out _ hHeld).mono ?_;rintro e w8 ⟨rfl,hv8⟩)
     (try go_simp)
     have hHeld:=hHeld.trans (.of_below hv8)
     refine hK.out _ _ (fun _=>hHeld) ?_
     clear hK K
     try simp only[Act.put,List.getElem_toArray,List.getElem_cons_succ,List.getElem_cons_zero,List.setIfInBounds_toArray,List.set_cons_zero,List.set_cons_succ]
     repeat
      first
      |refine av.skip rfl (by decide +kernel) (by rfl) (fun _ _ _ h=>h) hHeld ?_
      |refine av.take (v:=?_) rfl (by decide +kernel) (by rfl) (fun _ _ _ h=>h) hHeld ?_ ?_
       rotate_left
       focus
        intro w9 hS9
        (try dsimp only at hS9)
        obtain⟨r9,-,hM9,y0,y2,y3,y4,y5,y6,y7,y8⟩:=HB.out w9 hS9
        have z0:=ah r9 0 _ rfl
        have z2:=ah r9 2 _ rfl
        have z3:=ah r9 3 _ rfl
        clear r9
        go_simp
        (try with_reducible rfl)
        done
      try simp only[Act.put,List.getElem_toArray,List.getElem_cons_succ,List.getElem_cons_zero,List.setIfInBounds_toArray,List.set_cons_zero,List.set_cons_succ]
     refine av.done (by decide +kernel) ?_
     go_wp2_with fail
     go_meet
     exact⟨congrArg Value.bool ED.out.symm,by have:=(jQ w0.heap.size w0).drew.trans hv8;exact this⟩
    ·have hkn:(kd != 0)=true:=by rw[bne_iff_ne];exact hkz
     have ED:=jI (show (kd != 0&&kx != 0)=(kx != 0) by rw[hkn,Bool.true_and])
     clear hkz
     refine av.start (fun w'=>But (iB wb cb zb) w0 w') [] [0,1,2,3,4,5,6,7,8,9,10,11,12] (by kernel_rfl) hbq (fun hHeld=>?_)
     refine av.take (v:=?_) rfl (by decide +kernel) (by rfl) (fun _ _ _ h=>h) hHeld ?_ ?_
     rotate_left
     focus
      intro w9 hS9
      show Sem.run _ (do pure (Next.value (←Instr.loadAt 35 (.pointer (some ⟨w.heap.size,0,none⟩))))) w9=_
      rw[Sem.run_bind,run_loadAt_mid w9 w.heap.size 0 35 _ _ (vS (HB.out w9 hS9).1) underlying35 rfl cZ]
      rfl
     try simp only[Act.put,List.getElem_toArray,List.getElem_cons_zero,List.setIfInBounds_toArray,List.set_cons_zero,List.set_cons_succ]
     refine av.call rfl (by decide +kernel) (by rfl) (fun K hK=>?_)
     go_simp
     (go_at_call 86;refine (HDC.out _ hHeld).mono ?_;rintro e w8 ⟨rfl,hv8⟩)
     (try go_simp)
     have hHeld:=hHeld.trans (.of_below hv8)
     refine hK.out _ _ (fun _=>hHeld) ?_
     clear hK K
     try simp only[Act.put,List.getElem_toArray,List.getElem_cons_succ,List.getElem_cons_zero,List.setIfInBounds_toArray,List.set_cons_zero,List.set_cons_succ]
     repeat
      first
      |refine av.skip rfl (by decide +kernel) (by rfl) (fun _ _ _ h=>h) hHeld ?_
      |refine av.take (v:=?_) rfl (by decide +kernel) (by rfl) (fun _ _ _ h=>h) hHeld ?_ ?_
       rotate_left
       focus
        intro w9 hS9
        (try dsimp only at hS9)
        obtain⟨r9,-,hM9,y0,y2,y3,y4,y5,y6,y7,y8⟩:=HB.out w9 hS9
        have z0:=ah r9 0 _ rfl
        have z2:=ah r9 2 _ rfl
        have z3:=ah r9 3 _ rfl
        clear r9
        have hl9:=HLK.out w9 hS9
        go_simp
        (try with_reducible rfl)
        done
      try simp only[Act.put,List.getElem_toArray,List.getElem_cons_succ,List.getElem_cons_zero,List.setIfInBounds_toArray,List.set_cons_zero,List.set_cons_succ]
     refine av.done (by decide +kernel) ?_
     go_wp2_with fail
     go_meet
     exact⟨congrArg Value.bool ED.out.symm,by have:=(jQ w0.heap.size w0).drew.trans hv8;exact this⟩
   case rest=>
    obtain⟨rfl,hb3⟩:=hcut
    obtain⟨w3,hw3⟩:=kE wc
    rw[←hw3] at hb3
    rw[←hw3]
    clear hw3
    have hB3:But (iB wb cb zb) w0 w3:=.of_below hb3
    by_cases hex:kd≠0∧kx≠0
    ·have hxx:(kd != 0&&kx != 0)=true:=by rw[bne_iff_ne.2 hex.1,bne_iff_ne.2 hex.2];rfl
     have E:=jI (show de=5 by rw[HD1.out,if_pos (by rw[←HKD.out,←HKX.out];exact hex)])
     clear hex
     rw[hxx]
     go_wp2
     go_ret
     exact kX.out _ _ (by rw[E.out];rfl) hB3 (fun h0=>by have:=E.out;omega)
    ·have hxx:(kd != 0&&kx != 0)=false:=by
      rw[Bool.eq_false_iff]
      intro h
      rw[Bool.and_eq_true,bne_iff_ne,bne_iff_ne] at h
      exact hex h
     have hd0:=HD1.out
     rw[if_neg (by rw[←HKD.out,←HKX.out];exact hex)] at hd0
     have HD0:=jI hd0
     clear hd0
     clear hex HD1
     rw[hxx]
     have hS1:=HB0.out.size
     obtain q|q|q|q|q|q|q:d.kind=1∨d.kind=2∨d.kind=3∨d.kind=4∨d.kind=5∨d.kind=6∨d.kind=7:=by omega
     ·have p1:(d.kind==1)=true:=by rw[q];rfl
      have Q:=jI q
      have HD:=jI (show de=qN (tab l) (aH l) d.name [] d.names by
       rw[HD0.out,if_pos q])
      clear q HD0
      have HNN:=jI (show ak w3 S 1 nA d.names.length (aC d.names) from HNA.out.keep ((HBB0.out.trans hB3).kept GX.out))
      have hB_:=HB.out w3 hB3
      obtain⟨r_,-,-,t0,t2,t3,t4,t5,t6,t7,t8⟩:=hB_
      have e0:=ah r_ 0 _ rfl
      have e2:=ah r_ 2 _ rfl
      have e3:=ah r_ 3 _ rfl
      clear r_ t3 t4 t5 t6 t7 t8
      have HM3:=jI (HB.out w3 hB3).2.2.1
      go_wp2_with fail
      go_loopw [43] (fun x wr=>∃k:Nat,k≤d.names.length∧x=.int .i64 k∧wr=w3∧Hid (de=qN (tab l) (aH l) d.name (d.names.take k) (d.names.drop k))) (fun x _=>d.names.length-(intOf x).toNat)
      case atStart=>exact⟨0,cu _,rfl,rfl,jI (by rw[HD.out];simp)⟩
      case round=>
       obtain⟨k,hk,rfl,hwq,hdd⟩:=hrel
       subst wr
       by_cases hlt:k<d.names.length
       ·obtain⟨g,o,rfl,hSg,hc⟩:=HNN.out.cells (by omega)
        have hgs:g<w3.heap.size:=by have:=hS0 g hSg;have:=HB0.out.size;have:=hb3.size;omega
        obtain⟨x,hx⟩:=kE (d.names[k])
        have hcx:w3.cell? ⟨g,o+k,none⟩=some (.string x):=(hc k _ (dV d.names k hlt)).trans (by rw[hx];simp[hlt])
        have hxs:x.size≤maxLen:=HNS.out x (by rw[hx];exact bQ hlt)
        have hkI:(k:Int)<(d.names.length:Int):=by omega
        have hkI2:(k:Int)≤(nc':Int):=by omega
        have hk0:(0:Int)≤(k:Int):=by omega
        have HCS:=jI (Tryz.slices_Contains_string g o k nc' d.names x w3 (by omega) (by omega) (fun j hj=>(hc j _ (dV d.names j hj)).trans (by simp[hj])))
        rw[pO] at HCS
        have htk:d.names.take (k+1)=d.names.take k++[x]:=by rw[hx];exact cO hlt
        obtain⟨kk,hkk⟩:=kE (kS (kZ l) x)
        have hgk:(kF (kZ l) x).getD (.int .i64 0)=.int .i64 kk:=by rw[hkk];exact wO _ _
        have HE:=jI (show de=if kk≠0∨x=d.name∨(d.names.take k).contains x=true then 5 else if 12≤aH l+k then 3 else qN (tab l) (aH l) d.name (d.names.take (k+1)) (d.names.drop (k+1)) by
         rw[hdd.out,fE hlt,←hx,Ho,htk,hkk,wM,fH,Nat.min_eq_left (by omega)])
        clear hdd hc hx htk hkk
        by_cases hk1:kk=0
        ·have hkn:(kk != 0)=false:=by rw[hk1];rfl
         by_cases hxn:x=d.name
         ·have hxb:(x.toList==d.name.toList)=true:=by rw[kJ];exact (nJ _ _).2 hxn
          have E:=jI (show de=5 by rw[HE.out,if_pos (Or.inr (Or.inl hxn))])
          clear hxn hk1
          go_wp2_with (at_lookup;refine jv _ rfl _ _ 117 rfl 9 3 bB underlying117 (eU _) kb n _ rfl HM3.out x hxs rfl _ hgk ?_)
          go_ret
          exact kX.out _ _ (by rw[E.out];rfl) hB3 (fun h0=>by have:=E.out;omega)
         ·have hxb:(x.toList==d.name.toList)=false:=by rw[kJ,Bool.eq_false_iff];exact fun e=>hxn ((nJ _ _).1 e)
          cases hct:(d.names.take k).contains x
          ·rw[hct] at HCS
           by_cases h12:12≤aH l+k
           ·have h12I:(12:Int)≤(aH l:Int)+(k:Int):=by omega
            have hwr:IntKind.i64.wrap ((aH l:Int)+(k:Int))=(aH l:Int)+(k:Int):=IntWalk.i64_in _ (by omega)
            have E:=jI (show de=3 by rw[HE.out,if_neg (by rw[hct];simp[hk1,hxn]),if_pos h12])
            clear hct hxn hk1
            go_wp2_with (first|(at_lookup;refine jv _ rfl _ _ 117 rfl 9 3 bB underlying117 (eU _) kb n _ rfl HM3.out x hxs rfl _ hgk ?_)|(go_at_call 87;refine HCS.out.mono ?_;rintro e w' ⟨rfl,rfl⟩))
            go_ret
            exact kX.out _ _ (by rw[E.out];rfl) hB3 (fun h0=>by have:=E.out;omega)
           ·have h12I:¬(12:Int)≤(aH l:Int)+(k:Int):=by omega
            have hwr:IntKind.i64.wrap ((aH l:Int)+(k:Int))=(aH l:Int)+(k:Int):=IntWalk.i64_in _ (by omega)
            have E:=jI (show de=qN (tab l) (aH l) d.name (d.names.take (k+1)) (d.names.drop (k+1)) by rw[HE.out,if_neg (by rw[hct];simp[hk1,hxn]),if_neg h12])
            clear hct hxn hk1 HE
            go_wp2_with (first|(at_lookup;refine jv _ rfl _ _ 117 rfl 9 3 bB underlying117 (eU _) kb n _ rfl HM3.out x hxs rfl _ hgk ?_)|(go_at_call 87;refine HCS.out.mono ?_;rintro e w' ⟨rfl,rfl⟩))
            go_roundw
            case rel=>
             first
              |exact⟨k+1,by omega,by go_num,by trivial,E⟩
              |((repeat apply Exists.intro);refine And.intro ?_ rfl;exact⟨k+1,by omega,by go_num,by trivial,E⟩)
            case measure=>simp[intOf];omega
          ·rw[hct] at HCS
           have E:=jI (show de=5 by rw[HE.out,if_pos (Or.inr (Or.inr hct))])
           clear hct hxn hk1
           go_wp2_with (first|(at_lookup;refine jv _ rfl _ _ 117 rfl 9 3 bB underlying117 (eU _) kb n _ rfl HM3.out x hxs rfl _ hgk ?_)|(go_at_call 87;refine HCS.out.mono ?_;rintro e w' ⟨rfl,rfl⟩))
           go_ret
           exact kX.out _ _ (by rw[E.out];rfl) hB3 (fun h0=>by have:=E.out;omega)
        ·have hkn:(kk != 0)=true:=by rw[bne_iff_ne];exact hk1
         have E:=jI (show de=5 by rw[HE.out,if_pos (Or.inl hk1)])
         go_wp2_with (at_lookup;refine jv _ rfl _ _ 117 rfl 9 3 bB underlying117 (eU _) kb n _ rfl HM3.out x hxs rfl _ hgk ?_)
         go_ret
         exact kX.out _ _ (by rw[E.out];rfl) hB3 (fun h0=>by have:=E.out;omega)
       ·obtain rfl:k=d.names.length:=by omega
        have hkI:¬(d.names.length:Int)<(d.names.length:Int):=by omega
        have E:=jI (show de=0 by rw[hdd.out,List.drop_length];rfl)
        go_wp2
        go_ret
        exact kX.out _ _ (by rw[E.out];rfl) hB3 (fun _=>uH.out w3 hb3 (by rw[Q.out];decide) (by rw[Q.out];decide))
     ·have p1:(d.kind==1)=false:=by rw[q];rfl
      have p2:(d.kind==2)=true:=by rw[q];rfl
      have Q:=jI q
      have HD:=jI (show de=jE (tab l) (aH l) d.faults by
       rw[HD0.out,if_neg (by rw[q];decide),if_pos q])
      clear q HD0
      have hB_:=HB.out w3 hB3
      obtain⟨r_,-,-,t0,t2,t3,t4,t5,t6,t7,t8⟩:=hB_
      have e0:=ah r_ 0 _ rfl
      have e4:=ah r_ 4 _ rfl
      clear r_ t0 t2 t3 t4 t5 t6 t7 t8
      have hs3:=hb3.size
      have hs0:=HB0.out.size
      go_wp2_with fail
      go_loopw [84] (fun x wr=>∃k:Nat,k≤d.faults.length∧x=.int .i64 k∧Below w0.heap.size w0 wr∧Hid (de=jE (tab l) (aH l) (d.faults.drop k))) (fun x _=>d.faults.length-(intOf x).toNat)
      case atStart=>exact⟨0,cu _,rfl,hb3,jI (by rw[HD.out];simp)⟩
      case round=>
       obtain⟨k,hk,rfl,hb,hdd⟩:=hrel
       have hsr:=hb.size
       have hBr:But (iB wb cb zb) w0 wr:=.of_below hb
       by_cases hlt:k<d.faults.length
       ·obtain⟨g,o,op,nm,x,y,bA,bn,bc,cA,cn,cc,rfl,hSg,hft,k0,k1,k2,k3,k4,k5⟩:=mZ (HFA.out.keep (P':=ng wr S) ((HBB0.out.trans hBr).kept GX.out) (fun _ _ h=>h.keep ((HBB0.out.trans hBr).kept GX.out))) hlt
        have hgs:g<wr.heap.size:=World.block_lt_of_cell? wr _ k0
        have hkI:(k:Int)<(d.faults.length:Int):=by omega
        have hk0:(0:Int)≤(k:Int):=by omega
        have hbA:∀o,Below wr.heap.size wr (wr.alloc o):=fun o=>(jQ _ _).alloc (aP _) o
        have hBA:∀o,But (iB wb cb zb) w0 (wr.alloc o):=fun o=>hBr.trans (.of_below (hbA o))
        have HC:=jI (fun o=>Fy (w:=wr.alloc o) (b:=b) (kb:=kb) (n:=n) (tb:=kZ l) (ns:=aH l) d.faults[k] _ S (hft.keep (aA (hbA o))) (fun g hg=>by have:=hS0 g hg;simp;omega) (HFF.out _ (bQ hlt)) (HB.out _ (hBA o)).2.2.2.1 (HB.out _ (hBA o)).2.2.2.2.1 (HB.out _ (hBA o)).2.2.1)
        have HE:=jI (show de=if lC (tab l) (aH l) d.faults[k]≠0 then lC (tab l) (aH l) d.faults[k] else jE (tab l) (aH l) (d.faults.drop (k+1)) by rw[hdd.out,fE hlt,Dn])
        rw[lI] at HC
        clear hft hdd
        obtain⟨q,hq⟩:=kE (lC (tab l) (aH l) d.faults[k])
        rw[←hq] at HC HE
        clear hq
        by_cases hq0:q=0
        ·subst hq0
         have E:=jI (show de=jE (tab l) (aH l) (d.faults.drop (k+1)) by rw[HE.out,if_neg (by decide)])
         clear HE
         go_wp2_with fail
         refine (HC.out _).mono ?_
         rintro e w5 ⟨rfl,hb5⟩
         go_wp2
         go_roundw
         case rel=>
          first
           |exact⟨k+1,by omega,by go_num,hb.trans (((hbA _).trans (hb5.mono (by simp))).mono hsr),E⟩
           |((repeat apply Exists.intro);refine And.intro ?_ rfl;exact⟨k+1,by omega,by go_num,hb.trans (((hbA _).trans (hb5.mono (by simp))).mono hsr),E⟩)
         case measure=>simp[intOf];omega
        ·have hqn:((q:Int) != 0)=true:=j6 hq0
         have E:=jI (show de=q by rw[HE.out,if_pos hq0])
         clear HE
         go_wp2_with fail
         refine (HC.out _).mono ?_
         rintro e w5 ⟨rfl,hb5⟩
         go_wp2
         go_ret
         exact kX.out _ _ (by rw[E.out];rfl) (hBr.trans (.of_below ((hbA _).trans (hb5.mono (by simp))))) (fun h0=>by have:=E.out;omega)
       ·obtain rfl:k=d.faults.length:=by omega
        have hkI:¬(d.faults.length:Int)<(d.faults.length:Int):=by omega
        have E:=jI (show de=0 by rw[hdd.out,List.drop_length];rfl)
        go_wp2
        go_ret
        exact kX.out _ _ (by rw[E.out];rfl) hBr (fun _=>uH.out wr hb (by rw[Q.out];decide) (by rw[Q.out];decide))
     ·have p1:(d.kind==1)=false:=by rw[q];rfl
      have p2:(d.kind==2)=false:=by rw[q];rfl
      have p3:(d.kind==3)=true:=by rw[q];rfl
      have Q:=jI q
      have HD:=jI (show de=iP (tab l) (aH l) d.term by
       rw[HD0.out,if_neg (by rw[q];decide),if_neg (by rw[q];decide),if_pos q])
      clear q HD0
      have hB_:=HB.out w3 hB3
      obtain⟨r_,-,-,t0,t2,t3,t4,t5,t6,t7,t8⟩:=hB_
      have e0:=ah r_ 0 _ rfl
      have e5:=ah r_ 5 _ rfl
      have e6:=ah r_ 6 _ rfl
      have e7:=ah r_ 7 _ rfl
      have e8:=ah r_ 8 _ rfl
      have e9:=ah r_ 9 _ rfl
      clear r_ t0 t2 t3 t4 t5 t6 t7 t8
      have HTS:=jI (oo (b:=b) (kb:=kb) (n:=n) (tb:=kZ l) (ns:=aH l) d.term _ w3 S (HT5.out.keep ((HBB0.out.trans hB3).kept GX.out)) (fun g hg=>by have:=hS0 g hg;have:=hB3.size;have:=HB0.out.size;omega) lt1 (HB.out w3 hB3).2.2.2.1 (HB.out w3 hB3).2.2.2.2.1 (HB.out w3 hB3).2.2.1)
      rw[lI,←HD.out] at HTS
      go_wp2_with fail
      refine HTS.out.mono ?_
      rintro e w5 ⟨rfl,hb5⟩
      go_wp2
      go_ret
      exact kX.out _ _ rfl (hB3.trans (.of_below hb5)) (fun _=>uH.out w5 (hb3.trans (hb5.mono hb3.size)) (by rw[Q.out];decide) (by rw[Q.out];decide))
     ·have p1:(d.kind==1)=false:=by rw[q];rfl
      have p2:(d.kind==2)=false:=by rw[q];rfl
      have p3:(d.kind==3)=false:=by rw[q];rfl
      have p4:(d.kind==4)=true:=by rw[q];rfl
      have Q:=jI q
      have HD:=jI (show de=(if 6≤dR 4 l then 3 else if iP (tab l) (aH l) d.read≠0 then iP (tab l) (aH l) d.read else if iP (tab l) (aH l) d.write≠0 then iP (tab l) (aH l) d.write else if isE (tab l) d.use [3]≠0 then isE (tab l) d.use [3] else if d.proto=(⟨#[99,114,97,115,104]⟩:ByteArray)∧jr l d.use=true then 12 else 0) by
       rw[HD0.out,if_neg (by rw[q];decide),if_neg (by rw[q];decide),if_neg (by rw[q];decide),if_pos q])
      clear q HD0
      have hB_:=HB.out w3 hB3
      obtain⟨r_,-,-,t0,t2,t3,t4,t5,t6,t7,t8⟩:=hB_
      have e0:=ah r_ 0 _ rfl
      have e10:=ah r_ 10 _ rfl
      have e21:=ah r_ 21 _ rfl
      have e11:=ah r_ 11 _ rfl
      have e12:=ah r_ 12 _ rfl
      have e13:=ah r_ 13 _ rfl
      have e14:=ah r_ 14 _ rfl
      have e15:=ah r_ 15 _ rfl
      have e16:=ah r_ 16 _ rfl
      have e17:=ah r_ 17 _ rfl
      have e18:=ah r_ 18 _ rfl
      have e19:=ah r_ 19 _ rfl
      have e20:=ah r_ 20 _ rfl
      clear r_ t0 t2 t4 t5 t6 t7 t8
      by_cases h6:6≤dR 4 l
      ·have h6I:(6:Int)≤(dR 4 l:Int):=by omega
       have E:=jI (show de=3 by rw[HD.out,if_pos h6])
       go_wp2
       go_ret
       exact kX.out _ _ (by rw[E.out];rfl) hB3 (fun h0=>by have:=E.out;omega)
      ·have h6I:¬(6:Int)≤(dR 4 l:Int):=by omega
       rw[if_neg h6] at HD
       obtain⟨W3,hW3⟩:=kE (w3.alloc (.cells #[.int .i64 o2,.string m2,.int .i64 d2,.slice wA2 wn2 wc2,.slice kA2 kn2 kc2,.int .i64 o3,.string m3,.int .i64 d3,.slice wA3 wn3 wc3,.slice kA3 kn3 kc3] 26 (0,0)))
       have hbW:Below w3.heap.size w3 W3:=by rw[hW3];exact (jQ _ _).alloc (aP _) _
       have hrW:W3.heap[w3.heap.size]?=some (.cells #[.int .i64 o2,.string m2,.int .i64 d2,.slice wA2 wn2 wc2,.slice kA2 kn2 kc2,.int .i64 o3,.string m3,.int .i64 d3,.slice wA3 wn3 wc3,.slice kA3 kn3 kc3] 26 (0,0)):=by rw[hW3];exact jR w3 _
       have hzW:W3.heap.size=w3.heap.size+1:=by rw[hW3];simp
       have HW3:=jI hW3
       have HRW:=jI hrW
       have hbW0:Below w0.heap.size w0 W3:=hb3.trans (hbW.mono hb3.size)
       have hs3:=hb3.size
       obtain⟨qr,hqr⟩:=kE (iP (tab l) (aH l) d.read)
       obtain⟨qw,hqw⟩:=kE (iP (tab l) (aH l) d.write)
       rw[←hqr,←hqw] at HD
       have HTR:=jI (fun(W':World)(hW':But (iB wb cb zb) w0 W')=>show Calls prog 65 #[.pointer (some ⟨b,0,none⟩),.agg #[.int .i64 o2,.string m2,.int .i64 d2,.slice wA2 wn2 wc2,.slice kA2 kn2 kc2]] W' fun e w'=>e=.returned (.int .i64 qr)∧Below W'.heap.size W' w' by
        have h:=oo (b:=b) (kb:=kb) (n:=n) (tb:=kZ l) (ns:=aH l) d.read _ W' S (HT6.out.keep ((HBB0.out.trans hW').kept GX.out)) (fun g hg=>by have:=hS0 g hg;have:=hW'.size;have:=HB0.out.size;omega) lt2 (HB.out W' hW').2.2.2.1 (HB.out W' hW').2.2.2.2.1 (HB.out W' hW').2.2.1
        rw[lI,←hqr] at h;exact h)
       have HTW:=jI (fun(W':World)(hW':But (iB wb cb zb) w0 W')=>show Calls prog 65 #[.pointer (some ⟨b,0,none⟩),.agg #[.int .i64 o3,.string m3,.int .i64 d3,.slice wA3 wn3 wc3,.slice kA3 kn3 kc3]] W' fun e w'=>e=.returned (.int .i64 qw)∧Below W'.heap.size W' w' by
        have h:=oo (b:=b) (kb:=kb) (n:=n) (tb:=kZ l) (ns:=aH l) d.write _ W' S (HT7.out.keep ((HBB0.out.trans hW').kept GX.out)) (fun g hg=>by have:=hS0 g hg;have:=hW'.size;have:=HB0.out.size;omega) lt3 (HB.out W' hW').2.2.2.1 (HB.out W' hW').2.2.2.2.1 (HB.out W' hW').2.2.1
        rw[lI,←hqw] at h;exact h)
       clear hqr hqw hW3 hrW
       go_wp2_with fail
       rw[←HW3.out]
       clear t3 e10 e21 e11 e12 e13 e14 e15 e16 e17 e18 e19 e20
       go_loopw [114] (fun x wr=>∃k:Nat,k≤2∧x=.int .i64 k∧Below W3.heap.size W3 wr∧Hid ((0<k→qr=0)∧(1<k→qw=0))) (fun x _=>2-(intOf x).toNat)
       case atStart=>exact⟨0,cu _,rfl,jQ _ _,jI ⟨fun h=>absurd h (by omega),fun h=>absurd h (by omega)⟩⟩
       case round=>
        obtain⟨k,hk,rfl,hb,hdd⟩:=hrel
        have hsr:=hb.size
        have hbr0:Below w0.heap.size w0 wr:=hbW0.trans (hb.mono (by omega))
        have hBr:But (iB wb cb zb) w0 wr:=.of_below hbr0
        have hrr:wr.heap[w3.heap.size]?=some (.cells #[.int .i64 o2,.string m2,.int .i64 d2,.slice wA2 wn2 wc2,.slice kA2 kn2 kc2,.int .i64 o3,.string m3,.int .i64 d3,.slice wA3 wn3 wc3,.slice kA3 kn3 kc3] 26 (0,0)):=(hb.block _ (by omega)).trans HRW.out
        have hgs:w3.heap.size<wr.heap.size:=by omega
        have hbA:∀o,Below wr.heap.size wr (wr.alloc o):=fun o=>(jQ _ _).alloc (aP _) o
        have hBA:∀o,But (iB wb cb zb) w0 (wr.alloc o):=fun o=>hBr.trans (.of_below (hbA o))
        obtain rfl|rfl|rfl:k=0∨k=1∨k=2:=by omega
        ·have k0:=ah hrr 0 _ rfl
         have k1:=ah hrr 1 _ rfl
         have k2:=ah hrr 2 _ rfl
         have k3:=ah hrr 3 _ rfl
         have k4:=ah hrr 4 _ rfl
         clear hrr
         by_cases hq0:qr=0
         ·have hqn:((qr:Int) != 0)=false:=by rw[hq0];rfl
          have HQ0:=jI hq0
          clear hq0
          go_wp2_with fail
          refine (HTR.out _ (hBA _)).mono ?_
          rintro e w5 ⟨rfl,hb5⟩
          go_wp2
          go_roundw
          case rel=>
           first
            |exact⟨1,by omega,by go_num,hb.trans (((hbA _).trans (hb5.mono (by simp))).mono (by omega)),jI ⟨fun _=>HQ0.out,fun h=>absurd h (by omega)⟩⟩
            |((repeat apply Exists.intro);refine And.intro ?_ rfl;exact⟨1,by omega,by go_num,hb.trans (((hbA _).trans (hb5.mono (by simp))).mono (by omega)),jI ⟨fun _=>HQ0.out,fun h=>absurd h (by omega)⟩⟩)
          case measure=>simp[intOf]
         ·have hqn:((qr:Int) != 0)=true:=j6 hq0
          have E:=jI (show de=qr by rw[HD.out,if_pos hq0])
          go_wp2_with fail
          refine (HTR.out _ (hBA _)).mono ?_
          rintro e w5 ⟨rfl,hb5⟩
          go_wp2
          go_ret
          exact kX.out _ _ (by rw[E.out];rfl) (hBr.trans (.of_below ((hbA _).trans (hb5.mono (by simp))))) (fun h0=>by have:=E.out;omega)
        ·have k0:=ah hrr 5 _ rfl
         have k1:=ah hrr 6 _ rfl
         have k2:=ah hrr 7 _ rfl
         have k3:=ah hrr 8 _ rfl
         have k4:=ah hrr 9 _ rfl
         have hr0:qr=0:=hdd.out.1 (by omega)
         clear hrr
         by_cases hq0:qw=0
         ·have hqn:((qw:Int) != 0)=false:=by rw[hq0];rfl
          have HQ0:=jI hq0
          have HR00:=jI hr0
          clear hq0 hr0
          go_wp2_with fail
          refine (HTW.out _ (hBA _)).mono ?_
          rintro e w5 ⟨rfl,hb5⟩
          go_wp2
          go_roundw
          case rel=>
           first
            |exact⟨2,by omega,by go_num,hb.trans (((hbA _).trans (hb5.mono (by simp))).mono (by omega)),jI ⟨fun _=>HR00.out,fun _=>HQ0.out⟩⟩
            |((repeat apply Exists.intro);refine And.intro ?_ rfl;exact⟨2,by omega,by go_num,hb.trans (((hbA _).trans (hb5.mono (by simp))).mono (by omega)),jI ⟨fun _=>HR00.out,fun _=>HQ0.out⟩⟩)
          case measure=>simp[intOf]
         ·have hqn:((qw:Int) != 0)=true:=j6 hq0
          have E:=jI (show de=qw by rw[HD.out,if_neg (by rw[hr0];decide),if_pos hq0])
          clear hr0
          go_wp2_with fail
          refine (HTW.out _ (hBA _)).mono ?_
          rintro e w5 ⟨rfl,hb5⟩
          go_wp2
          go_ret
          exact kX.out _ _ (by rw[E.out];rfl) (hBr.trans (.of_below ((hbA _).trans (hb5.mono (by simp))))) (fun h0=>by have:=E.out;omega)
        ·have hr0:qr=0:=hdd.out.1 (by omega)
         have hw0':qw=0:=hdd.out.2 (by omega)
         rw[if_neg (by rw[hr0];decide),if_neg (by rw[hw0'];decide)] at HD
         clear hrr hr0 hw0' hdd
         obtain⟨r_,-,hMr,g0,-,-,-,-,-,-,-⟩:=HB.out wr hBr
         have e10:wr.cell? ⟨w.heap.size,10,none⟩=some (.string d.proto):=ah r_ 10 _ rfl
         have e21:wr.cell? ⟨w.heap.size,21,none⟩=some (.string d.use):=ah r_ 21 _ rfl
         have HIS:=jI (fun(cc:Nat)(T:TypeId)=>wP (w:=wr) (b:=b) (kb:=kb) (n:=n) (t:=kZ l) g0 hMr d.use lus [3] (by simp) cc T)
         simp only[List.map_cons,List.map_nil,fM,List.length_nil] at HIS
         rw[lI] at HIS
         have HMR:=jI hMr
         clear r_ g0 hMr
         obtain⟨qi,hqi⟩:=kE (isE (tab l) d.use [3])
         rw[←hqi] at HIS HD
         have HQI:=jI hqi
         clear hqi
         by_cases hi0:qi=0
         ·subst hi0
          rw[if_neg (by decide)] at HD
          have e10':(wr.alloc (.cells #[.int .i64 3] 3)).cell? ⟨w.heap.size,10,none⟩=some (.string d.proto):=((hbA _).cell (p:=⟨w.heap.size,10,none⟩) (World.block_lt_of_cell? wr _ e10)).trans e10
          have e21':(wr.alloc (.cells #[.int .i64 3] 3)).cell? ⟨w.heap.size,21,none⟩=some (.string d.use):=((hbA _).cell (p:=⟨w.heap.size,21,none⟩) (World.block_lt_of_cell? wr _ e21)).trans e21
          by_cases hp:d.proto=(⟨#[99,114,97,115,104]⟩:ByteArray)
          ·have hpb:(d.proto.toList==[99,114,97,115,104])=true:=by rw[hp,ByteArray.toList_eq];rfl
           have hk3:kS (kZ l) d.use=3:=by
            have h1:=HQI.out
            rw[←lI,isE_tyK] at h1
            by_cases hz:kS (kZ l) d.use=0
            ·rw[if_pos hz] at h1;cases h1
            ·rw[if_neg hz] at h1
             by_cases hc:([3]:List Int).contains (kS (kZ l) d.use)=true
             ·simpa using hc
             ·rw[if_neg hc] at h1;cases h1
           obtain⟨d',hfd⟩:∃d',dN (kZ l) d.use=some (3,d'):=by
            unfold kS at hk3
            cases hf:dN (kZ l) d.use with
            |none=>rw[hf] at hk3;cases hk3
            |some p=>
             rw[hf] at hk3
             obtain⟨p1,p2⟩:=p
             have:p1=3:=hk3
             subst this
             exact⟨p2,rfl⟩
           have hscr:Sc prog 121 (wr.alloc (.cells #[.int .i64 3] 3)) S b kb db wb cb zb n zn (kZ l) (aH l) (dR 4 l) (dR 6 l) (dw l) (fP l) (bV 5 l) (bV 7 l) Z:=(HSC.out.below hbr0).below (hbA _)
           have HBC:=jI (byz_any HOK.out d.use d' hfd _ zn Z hscr HINV.out)
           rw[hp] at HD
           have HPR:=jI hp
           obtain⟨bz,hbz⟩:=kE (jr l d.use)
           rw[←hbz] at HBC HD
           clear hp hk3 hfd hscr hbz
           cases bz
           ·have E:=jI (show de=0 by rw[HD.out,if_neg (fun h=>by cases h.2)])
            go_wp2_with (first|(go_at_call 89;refine (HIS.out _ _).mono ?_;rintro e w' ⟨rfl,rfl⟩)|(go_at_call 90;refine HBC.out.mono ?_;rintro e w7 ⟨rfl,hst⟩;have HST:=jI hst;clear hst))
            go_ret
            obtain⟨zn2,Z2,i1,i2,-,i4⟩:=HST.out
            exact kX.out _ _ (by rw[E.out];rfl) ((hBA _).trans (i4.mono (fun g hg=>Or.inr (Or.inr hg)))) (fun _=>⟨zn2,Z2,by rw[fI,fI,if_neg (by rw[Q.out];decide),if_neg (by rw[Q.out];decide),List.append_nil,List.append_nil];exact i1.mono (by omega),i2⟩)
           ·have E:=jI (show de=12 by rw[HD.out,if_pos ⟨rfl,rfl⟩])
            go_wp2_with (first|(go_at_call 89;refine (HIS.out _ _).mono ?_;rintro e w' ⟨rfl,rfl⟩)|(go_at_call 90;refine HBC.out.mono ?_;rintro e w7 ⟨rfl,hst⟩;have HST:=jI hst;clear hst))
            go_ret
            obtain⟨zn2,Z2,i1,i2,-,i4⟩:=HST.out
            exact kX.out _ _ (by rw[E.out];rfl) ((hBA _).trans (i4.mono (fun g hg=>Or.inr (Or.inr hg)))) (fun h0=>by have:=E.out;omega)
          ·have hp3:¬d.proto.toList=[99,114,97,115,104]:=fun e9=>hp (by rw[ByteArray.toList_eq] at e9;rw[←gN d.proto,e9];rfl)
           have hpb:(d.proto.toList==[99,114,97,115,104])=false:=by rw[bP];exact hp3
           have E:=jI (show de=0 by rw[HD.out,if_neg (fun h=>hp h.1)])
           clear hp
           go_wp2_with (go_at_call 89;refine (HIS.out _ _).mono ?_;rintro e w' ⟨rfl,rfl⟩)
           go_ret
           exact kX.out _ _ (by rw[E.out];rfl) (hBA _) (fun _=>uH.out _ (hbr0.trans ((hbA _).mono hbr0.size)) (by rw[Q.out];decide) (by rw[Q.out];decide))
         ·have hqn:((qi:Int) != 0)=true:=j6 hi0
          rw[if_pos hi0] at HD
          clear hi0
          go_wp2_with (go_at_call 89;refine (HIS.out _ _).mono ?_;rintro e w' ⟨rfl,rfl⟩)
          go_ret
          exact kX.out _ _ (by rw[HD.out];rfl) (hBA _) (fun h0=>absurd (HD.out.symm.trans h0) (by simpa using hqn))
     ·have p1:(d.kind==1)=false:=by rw[q];rfl
      have p2:(d.kind==2)=false:=by rw[q];rfl
      have p3:(d.kind==3)=false:=by rw[q];rfl
      have p4:(d.kind==4)=false:=by rw[q];rfl
      have p5:(d.kind==5)=true:=by rw[q];rfl
      have Q:=jI q
      have HD:=jI (show de=mF (tab l) 2 (bV 5 l) d.names by
       rw[HD0.out,if_neg (by rw[q];decide),if_neg (by rw[q];decide),if_neg (by rw[q];decide),if_neg (by rw[q];decide),if_pos q])
      clear q HD0
      have hB_:=HB.out w3 hB3
      obtain⟨r_,-,-,t0,t2,t3,t4,t5,t6,t7,t8⟩:=hB_
      have e0:=ah r_ 0 _ rfl
      clear r_ t0 t2 t3 t4 t5 t6 t7 t8
      have hB3n:But (fun _=>False) w0 w3:=.of_below hb3
      have HEA:=jI (GJ (w:=w3.drew) (b:=b) (kb:=kb) (sb:=wb) (n:=n) (m:=n) (t:=kZ l) (bV 5 l) d.names nA nc' S 2 (HNA.out.keep ((HBB0.out.trans hB3).kept GX.out)) (fun g hg=>⟨by have:=hS0 g hg;have:=hB3.size;have:=HB0.out.size;show g<w3.heap.size;omega,by have:=GX.out g hg;unfold iB at this;omega⟩)
       (HB.out w3 hB3).2.2.2.1 (HB.out w3 hB3).2.2.1 (HSC.out.wit.but (T:=fun _=>False) (w':=w3) hB3n (fun h=>h)) ⟨by omega,by omega⟩ HNS.out (by omega) (by omega))
      rw[lI,←HD.out] at HEA
      have hbq:But (iB wb cb zb) w0 w3.drew:=hB3.trans ⟨rfl,rfl,rfl,aP _,fun _ _ _=>rfl⟩
      go_upto_region 41 with fail
      refine av.start (fun w'=>But (iB wb cb zb) w0 w') [] [0,1,2,3,4,5,6,7,8] (by kernel_rfl) hbq (fun hHeld=>?_)
      repeat
       first
       |refine av.skip rfl (by decide +kernel) (by rfl) (fun _ _ _ h=>h) hHeld ?_
       |refine av.take (v:=?_) rfl (by decide +kernel) (by rfl) (fun _ _ _ h=>h) hHeld ?_ ?_
        rotate_left
        focus
         intro w9 hS9
         (try dsimp only at hS9)
         obtain⟨r9,-,hM9,y0,y2,y3,y4,y5,y6,y7,y8⟩:=HB.out w9 hS9
         have z0:=ah r9 0 _ rfl
         have z2:=ah r9 2 _ rfl
         have z3:=ah r9 3 _ rfl
         clear r9
         go_simp
         (try with_reducible rfl)
         done
       try simp only[Act.put,List.getElem_toArray,List.getElem_cons_succ,List.getElem_cons_zero,List.setIfInBounds_toArray,List.set_cons_zero,List.set_cons_succ]
      refine av.call rfl (by decide +kernel) (by rfl) (fun K hK=>?_)
      go_simp
      (go_at_call 91;refine HEA.out.mono ?_;rintro e w8 ⟨rfl,hv8,hm8⟩)
      (try go_simp)
      have hHeld:=hHeld.trans (hv8.mono (fun g hg=>by unfold iB;omega))
      refine hK.out _ _ (fun _=>hHeld) ?_
      clear hK K
      try simp only[Act.put,List.getElem_toArray,List.getElem_cons_succ,List.getElem_cons_zero,List.setIfInBounds_toArray,List.set_cons_zero,List.set_cons_succ]
      repeat
       first
       |refine av.skip rfl (by decide +kernel) (by rfl) (fun _ _ _ h=>h) hHeld ?_
       |refine av.take (v:=?_) rfl (by decide +kernel) (by rfl) (fun _ _ _ h=>h) hHeld ?_ ?_
        rotate_left
        focus
         intro w9 hS9
         (try dsimp only at hS9)
         obtain⟨r9,-,hM9,y0,y2,y3,y4,y5,y6,y7,y8⟩:=HB.out w9 hS9
         have z0:=ah r9 0 _ rfl
         have z2:=ah r9 2 _ rfl
         have z3:=ah r9 3 _ rfl
         clear r9
         go_simp
         (try with_reducible rfl)
         done
       try simp only[Act.put,List.getElem_toArray,List.getElem_cons_succ,List.getElem_cons_zero,List.setIfInBounds_toArray,List.set_cons_zero,List.set_cons_succ]
      refine av.done (by decide +kernel) ?_
      go_wp2_with fail
      go_ret
      have hg8:But (fun g=>g=wb) w3 w8:=⟨hv8.os,hv8.tape,hv8.output,hv8.size,hv8.block⟩
      refine kX.out _ _ rfl (hB3.trans (hg8.mono (fun g hg=>by unfold iB;omega))) (fun h0=>⟨zn,Z,?_,HINV.out⟩)
      have hsc8:=(HSC.out.below hb3).wit_set (gD n d.names.length) hg8 (hm8 h0)
      rw[fI,fI,if_pos Q.out,if_neg (by rw[Q.out];decide),List.append_nil]
      exact hsc8
     ·have p1:(d.kind==1)=false:=by rw[q];rfl
      have p2:(d.kind==2)=false:=by rw[q];rfl
      have p3:(d.kind==3)=false:=by rw[q];rfl
      have p4:(d.kind==4)=false:=by rw[q];rfl
      have p5:(d.kind==5)=false:=by rw[q];rfl
      have p6:(d.kind==6)=true:=by rw[q];rfl
      have Q:=jI q
      have HD:=jI (show de=(if 6≤dR 6 l then 3 else if d.use.size=0 then 0 else isE (tab l) d.use [3]) by
       rw[HD0.out,if_neg (by rw[q];decide),if_neg (by rw[q];decide),if_neg (by rw[q];decide),if_neg (by rw[q];decide),if_neg (by rw[q];decide),if_pos q])
      clear q HD0
      have hB_:=HB.out w3 hB3
      obtain⟨r_,-,-,t0,t2,t3,t4,t5,t6,t7,t8⟩:=hB_
      have e0:=ah r_ 0 _ rfl
      have e21:=ah r_ 21 _ rfl
      clear r_ t0 t2 t3 t5 t6 t7 t8
      by_cases h6:6≤dR 6 l
      ·have h6I:(6:Int)≤(dR 6 l:Int):=by omega
       have E:=jI (show de=3 by rw[HD.out,if_pos h6])
       go_wp2
       go_ret
       exact kX.out _ _ (by rw[E.out];rfl) hB3 (fun h0=>by have:=E.out;omega)
      ·have h6I:¬(6:Int)≤(dR 6 l:Int):=by omega
       rw[if_neg h6] at HD
       by_cases hu:d.use.size=0
       ·have hub2:d.use.toList=[]:=by rw[vL hu];simp
        have E:=jI (show de=0 by rw[HD.out,if_pos hu])
        clear hu
        go_wp2
        go_ret
        exact kX.out _ _ (by rw[E.out];rfl) hB3 (fun _=>uH.out w3 hb3 (by rw[Q.out];decide) (by rw[Q.out];decide))
       ·have hub2:=gP (show 0<d.use.size by omega)
        have hub3:=dK (show 0<d.use.size by omega)
        rw[if_neg hu] at HD
        have HIS:=jI (fun(cc:Nat)(T:TypeId)=>wP (w:=w3) (b:=b) (kb:=kb) (n:=n) (t:=kZ l) (HB.out w3 hB3).2.2.2.1 (HB.out w3 hB3).2.2.1 d.use lus [3] (by simp) cc T)
        simp only[List.map_cons,List.map_nil,fM,List.length_nil] at HIS
        rw[lI,←HD.out] at HIS
        clear hu
        go_wp2_with (go_at_call 89;refine (HIS.out _ _).mono ?_;rintro e w' ⟨rfl,rfl⟩)
        have hbA:Below w3.heap.size w3 (w3.alloc (.cells #[.int .i64 3] 3)):=(jQ _ _).alloc (aP _) _
        go_ret
        exact kX.out _ _ rfl (hB3.trans (.of_below hbA)) (fun _=>uH.out _ (hb3.trans (hbA.mono hb3.size)) (by rw[Q.out];decide) (by rw[Q.out];decide))
     ·have p1:(d.kind==1)=false:=by rw[q];rfl
      have p2:(d.kind==2)=false:=by rw[q];rfl
      have p3:(d.kind==3)=false:=by rw[q];rfl
      have p4:(d.kind==4)=false:=by rw[q];rfl
      have p5:(d.kind==5)=false:=by rw[q];rfl
      have p6:(d.kind==6)=false:=by rw[q];rfl
      have p7:(d.kind==7)=true:=by rw[q];rfl
      have Q:=jI q
      have HD:=jI (show de=(if fP l=true then 5 else mF (tab l) 5 [] d.names) by
       rw[HD0.out,if_neg (by rw[q];decide),if_neg (by rw[q];decide),if_neg (by rw[q];decide),if_neg (by rw[q];decide),if_neg (by rw[q];decide),if_neg (by rw[q];decide),if_pos q])
      clear q HD0
      cases hch:fP l
      ·have HCH:=jI hch
       have hn7:=AP hch
       rw[if_neg (by rw[hch];decide),←hn7] at HD
       have hB_:=HB.out w3 hB3
       obtain⟨r_,-,-,t0,t2,t3,t4,t5,t6,t7,t8⟩:=hB_
       have e0:=ah r_ 0 _ rfl
       clear r_ t0 t2 t3 t4 t5 t7 t8
       rw[hch] at t6
       have hB3n:But (fun _=>False) w0 w3:=.of_below hb3
       have HEA:=jI (GJ (w:=w3.drew) (b:=b) (kb:=kb) (sb:=cb) (n:=n) (m:=n) (t:=kZ l) (bV 7 l) d.names nA nc' S 5 (HNA.out.keep ((HBB0.out.trans hB3).kept GX.out)) (fun g hg=>⟨by have:=hS0 g hg;have:=hB3.size;have:=HB0.out.size;show g<w3.heap.size;omega,by have:=GX.out g hg;unfold iB at this;omega⟩)
        (HB.out w3 hB3).2.2.2.1 (HB.out w3 hB3).2.2.1 (HSC.out.con.but (T:=fun _=>False) (w':=w3) hB3n (fun h=>h)) ⟨by omega,by omega⟩ HNS.out (by omega) (by omega))
       rw[lI,←HD.out] at HEA
       have hbq:But (iB wb cb zb) w0 w3.drew:=hB3.trans ⟨rfl,rfl,rfl,aP _,fun _ _ _=>rfl⟩
       clear hch hn7
       go_upto_region 50 with fail
       refine av.start (fun w'=>But (iB wb cb zb) w0 w') [] [0,1,2,3,4,5,6,7,8] (by kernel_rfl) hbq (fun hHeld=>?_)
       repeat
        first
        |refine av.skip rfl (by decide +kernel) (by rfl) (fun _ _ _ h=>h) hHeld ?_
        |refine av.take (v:=?_) rfl (by decide +kernel) (by rfl) (fun _ _ _ h=>h) hHeld ?_ ?_
         rotate_left
         focus
          intro w9 hS9
          (try dsimp only at hS9)
          obtain⟨r9,-,hM9,y0,y2,y3,y4,y5,y6,y7,y8⟩:=HB.out w9 hS9
          have z0:=ah r9 0 _ rfl
          have z2:=ah r9 2 _ rfl
          have z3:=ah r9 3 _ rfl
          clear r9
          go_simp
          (try with_reducible rfl)
          done
        try simp only[Act.put,List.getElem_toArray,List.getElem_cons_succ,List.getElem_cons_zero,List.setIfInBounds_toArray,List.set_cons_zero,List.set_cons_succ]
       refine av.call rfl (by decide +kernel) (by rfl) (fun K hK=>?_)
       go_simp
       (go_at_call 91;refine HEA.out.mono ?_;rintro e w8 ⟨rfl,hv8,hm8⟩)
       (try go_simp)
       have hHeld:=hHeld.trans (hv8.mono (fun g hg=>by unfold iB;omega))
       refine hK.out _ _ (fun _=>hHeld) ?_
       clear hK K
       try simp only[Act.put,List.getElem_toArray,List.getElem_cons_succ,List.getElem_cons_zero,List.setIfInBounds_toArray,List.set_cons_zero,List.set_cons_succ]
       repeat
        first
        |refine av.skip rfl (by decide +kernel) (by rfl) (fun _ _ _ h=>h) hHeld ?_
        |refine av.take (v:=?_) rfl (by decide +kernel) (by rfl) (fun _ _ _ h=>h) hHeld ?_ ?_
         rotate_left
         focus
          intro w9 hS9
          (try dsimp only at hS9)
          obtain⟨r9,-,hM9,y0,y2,y3,y4,y5,y6,y7,y8⟩:=HB.out w9 hS9
          have z0:=ah r9 0 _ rfl
          have z2:=ah r9 2 _ rfl
          have z3:=ah r9 3 _ rfl
          clear r9
          go_simp
          (try with_reducible rfl)
          done
        try simp only[Act.put,List.getElem_toArray,List.getElem_cons_succ,List.getElem_cons_zero,List.setIfInBounds_toArray,List.set_cons_zero,List.set_cons_succ]
       refine av.done (by decide +kernel) ?_
       go_wp2_with fail
       go_ret
       have hg8:But (fun g=>g=cb) w3 w8:=⟨hv8.os,hv8.tape,hv8.output,hv8.size,hv8.block⟩
       refine kX.out _ _ rfl (hB3.trans (hg8.mono (fun g hg=>by unfold iB;omega))) (fun h0=>⟨zn,Z,?_,HINV.out⟩)
       have hsc8:=(HSC.out.below hb3).con_set (gD n d.names.length) hg8 (hm8 h0)
       rw[fI,fI,if_pos Q.out,if_neg (by rw[Q.out];decide),List.append_nil]
       exact hsc8
      ·have E:=jI (show de=5 by rw[HD.out,if_pos hch])
       have hB_:=HB.out w3 hB3
       obtain⟨r_,-,-,t0,t2,t3,t4,t5,t6,t7,t8⟩:=hB_
       have e0:=ah r_ 0 _ rfl
       clear r_ t0 t2 t3 t4 t5 t7 t8
       rw[hch] at t6
       clear hch
       go_wp2
       go_ret
       exact kX.out _ _ (by rw[E.out];rfl) hB3 (fun h0=>by have:=E.out;omega)
end
section
def aU(l:List Dc):List ByteArray:=l.flatMap fun d=>if d.kind=2 then [d.name] else []
theorem fC(l:List Dc)(e:Dc):aU (l++[e])=aU l++if e.kind=2 then [e.name] else []:=by simp[aU]
theorem DV(a b:List Dc):∀kn,pz kn (a++b)=pz (pz kn a) b:=by
 induction a with
 |nil=>intro kn;rfl
 |cons d r ih=>intro kn;rw[List.cons_append,pz,pz,ih]
theorem zL(l:List Dc)(e:Dc):pz [] (l++[e])=pz [] l++if e.kind=2 then [(e.name,e.faults.any (ftByz (pz [] l)))] else []:=by
 rw[DV,pz,pz]
 by_cases h:e.kind=2
 ·rw[if_pos h,if_pos h]
 ·rw[if_neg h,if_neg h,List.append_nil]
theorem JN(l:List Dc):∀kn,(pz kn l).map (·.1)=kn.map (·.1)++aU l:=by
 induction l with
 |nil=>intro kn;simp[pz,aU]
 |cons d r ih=>
  intro kn
  rw[pz,ih]
  unfold aU
  rw[List.flatMap_cons]
  by_cases h:d.kind=2
  ·rw[if_pos h,if_pos h];simp
  ·rw[if_neg h,if_neg h];simp
theorem findB_in{a b:List (ByteArray × Bool)}{x:ByteArray}(h:x∈a.map (·.1)):yx (a++b) x=yx a x:=by
 induction a with
 |nil=>cases h
 |cons p r ih=>
  rw[List.cons_append,yx,yx]
  by_cases e:(p.1==x)=true
  ·rw[if_pos e,if_pos e]
  ·rw[if_neg e,if_neg e]
   rw[List.map_cons,List.mem_cons] at h
   rcases h with h|h
   ·exact absurd ((eT _ _).2 h.symm) e
   ·exact ih h
theorem findB_out{a b:List (ByteArray × Bool)}{x:ByteArray}(h:x∉a.map (·.1)):yx (a++b) x=yx b x:=by
 induction a with
 |nil=>rfl
 |cons p r ih=>
  rw[List.map_cons,List.mem_cons] at h
  rw[List.cons_append,yx,if_neg (fun e=>h (Or.inl ((eT _ _).1 e).symm))]
  exact ih (fun k=>h (Or.inr k))
theorem keys_nil(l:List Dc):(pz [] l).map (·.1)=aU l:=JN l []
theorem xK{l:List Dc}{e:Dc}{y:ByteArray}(h:y∈aU l):jr (l++[e]) y=jr l y:=by
 unfold jr lookB
 rw[zL,findB_in (by rw[keys_nil];exact h)]
theorem byzOf_new{l:List Dc}{e:Dc}(h2:e.kind=2)(h:e.name∉aU l):jr (l++[e]) e.name=e.faults.any (ftB (jr l)):=by
 unfold jr lookB
 rw[zL,findB_out (by rw[keys_nil];exact h),if_pos h2,yx,if_pos ((eT _ _).2 rfl)]
 rfl
def qV:List ByteArray→ByteArray→Nat
 |[],_=>0
 |a::r,y=>if a=y then 0 else qV r y+1
theorem uM{a b:List ByteArray}{y:ByteArray}(h:y∈a):qV (a++b) y=qV a y∧qV a y<a.length:=by
 induction a with
 |nil=>cases h
 |cons x r ih=>
  rw[List.cons_append,qV,qV]
  by_cases e:x=y
  ·rw[if_pos e,if_pos e];simp
  ·rw[if_neg e,if_neg e]
   rcases List.mem_cons.1 h with h|h
   ·exact absurd h.symm e
   ·obtain⟨h1,h2⟩:=ih h
    rw[h1];simp;omega
theorem rankL_new{a:List ByteArray}{y:ByteArray}(h:y∉a):qV (a++[y]) y=a.length:=by
 induction a with
 |nil=>rw[List.nil_append,qV,if_pos rfl];rfl
 |cons x r ih=>
  rw[List.mem_cons] at h
  rw[List.cons_append,qV,if_neg (fun e=>h (Or.inl e.symm)),ih (fun k=>h (Or.inr k))];rfl
theorem nX{t:Tab}{x:ByteArray}{p:Int × Dc}(h:(x,p)∈t):dN t x≠none:=by
 induction t with
 |nil=>cases h
 |cons q r ih=>
  rw[dN]
  by_cases e:(q.1==x)=true
  ·rw[if_pos e];simp
  ·rw[if_neg e]
   rcases List.mem_cons.1 h with h|h
   ·subst h;exact absurd ((eT _ _).2 rfl) e
   ·exact ih h
theorem zI{e d:Dc}{x:ByteArray}(h:(x,(3:Int),d)∈uz e):e.kind=2∧x=e.name∧d=e:=by
 unfold uz at h
 rcases List.mem_append.1 h with h|h
 ·split at h
  ·cases h
  ·have:=List.mem_singleton.1 h
   injection this with h1 h2
   injection h2 with h2 h3
   refine⟨?_,h1,h3⟩
   unfold dI at h2
   split at h2
   ·cases h2
   ·split at h2
    ·assumption
    ·split at h2
     ·cases h2
     ·split at h2
      ·cases h2
      ·split at h2<;>cases h2
 ·split at h
  ·obtain⟨z,-,hz⟩:=List.mem_map.1 h
   injection hz with h1 h2
   injection h2 with h2 h3
   cases h2
  ·cases h
theorem rP{l:List Dc}{x:ByteArray}{d:Dc}(h:dN (kZ l) x=some (3,d)):x∈aU l:=by
 obtain⟨e,he,hm⟩:=List.mem_flatMap.1 (xk h)
 obtain⟨h1,h2,-⟩:=zI hm
 exact List.mem_flatMap.2 ⟨e,he,by rw[if_pos h1,h2];exact List.mem_singleton.2 rfl⟩
theorem mem_fault{l:List Dc}{y:ByteArray}(h:y∈aU l):dN (kZ l) y≠none:=by
 obtain⟨e,he,hm⟩:=List.mem_flatMap.1 h
 by_cases h2:e.kind=2
 ·rw[if_pos h2] at hm
  obtain rfl:=List.mem_singleton.1 hm
  refine nX (p:=(3,e)) (List.mem_flatMap.2 ⟨e,he,?_⟩)
  unfold uz
  have:dI e.kind=3:=by rw[h2];rfl
  rw[this,if_neg (by decide)]
  exact dO _ (List.mem_singleton.2 rfl)
 ·rw[if_neg h2] at hm;cases hm
theorem kind3{t:Tab}{x:ByteArray}(h:kS t x=3):∃d',dN t x=some (3,d'):=by
 unfold kS at h
 cases hf:dN t x with
 |none=>rw[hf] at h;cases h
 |some p=>
  rw[hf] at h
  obtain⟨p1,p2⟩:=p
  have:p1=3:=h
  subst this
  exact⟨p2,rfl⟩
theorem isE_ok{t:List (ByteArray × Int)}{x:ByteArray}{k:Int}(h:isE t x [k]=0):aQ t x=k:=by
 unfold isE at h
 split at h
 ·cases h
 ·split at h
  ·rename_i h1
   simpa using h1
  ·cases h
theorem Dm{t:List (ByteArray × Int)}{ns:Nat}:∀{l:List Ft},jE t ns l=0→∀f∈l,lC t ns f=0:=by
 intro l
 induction l with
 |nil=>intro _ f hf;cases hf
 |cons a r ih=>
  intro h f hf
  rw[jE] at h
  by_cases h0:lC t ns a≠0
  ·rw[if_pos h0] at h;exact absurd h h0
  ·rw[if_neg h0] at h
   rcases List.mem_cons.1 hf with rfl|hf
   ·exact Decidable.not_not.1 h0
   ·exact ih h f hf
theorem DC{l:List Dc}{e:Dc}(h:iK l e=0)(h2:e.kind=2):∀f∈e.faults,f.op=6→∃d',dN (kZ l) f.name=some (3,d'):=by
 intro f hf h6
 have hah:=iW h
 unfold iK at h
 rw[if_neg hah.1,if_neg hah.2,if_neg (by omega),if_pos h2] at h
 have h1:=Dm h f hf
 unfold lC at h1
 rw[if_neg (by omega),if_neg (by omega),if_neg (by omega),if_pos h6] at h1
 exact kind3 (by rw[wM];exact isE_ok h1)
theorem byzOk_nil:FX (kZ []) (jr []) (qV (aU [])) (aU []):=by
 intro x d h
 cases h
theorem JL{l:List Dc}{e:Dc}(h:FX (kZ l) (jr l) (qV (aU l)) (aU l))(he:iK l e=0)(hs:e.name.size≤maxLen)(hf:e.faults.length≤1000000):
  FX (kZ (l++[e])) (jr (l++[e])) (qV (aU (l++[e]))) (aU (l++[e])):=by
 intro x d hx
 have hold:∀y d',dN (kZ l) y=some (3,d')→dN (kZ (l++[e])) y=some (3,d'):=by
  intro y d' hy
  rw[qL]
  have:∀(u t:Tab),dN t y=some (3,d')→dN (t++u) y=some (3,d'):=by
   intro u
   induction u with
   |nil=>intro t ht;rw[List.append_nil];exact ht
   |cons q r ih=>
    intro t ht
    rw[show t++q::r=(t++[q])++r by simp]
    refine ih _ ?_
    rw[oV,ht];rfl
  exact this _ _ hy
 have hfb:∀(ds:List Ft),(∀f∈ds,f.op=6→f.name∈aU l)→ds.any (ftB (jr (l++[e])))=ds.any (ftB (jr l)):=by
  intro ds hds
  have hone:∀f∈ds,ftB (jr (l++[e])) f=ftB (jr l) f:=by
   intro f hf'
   unfold ftB
   by_cases h6:f.op=6
   ·rw[xK (hds f hf' h6)]
   ·rw[if_neg h6,if_neg h6]
  rw[Bool.eq_iff_iff,List.any_eq_true,List.any_eq_true]
  exact⟨fun⟨f,h1,h2⟩=>⟨f,h1,by rw[←hone f h1];exact h2⟩,fun⟨f,h1,h2⟩=>⟨f,h1,by rw[hone f h1];exact h2⟩⟩
 by_cases hxl:dN (kZ l) x=none
 ·-- a new name
  obtain⟨e',he',hm⟩:=List.mem_flatMap.1 (xk hx)
  have hne:e'=e:=by
   rcases List.mem_append.1 he' with h1|h1
   ·exact absurd hxl (nX (List.mem_flatMap.2 ⟨e',h1,hm⟩))
   ·exact List.mem_singleton.1 h1
  subst hne
  obtain⟨h2,rfl,rfl⟩:=zI hm
  have hnew:d.name∉aU l:=fun k=>mem_fault k hxl
  have hfl:=DC he h2
  refine⟨by rw[fC,if_pos h2];simp,hs,?_,hf,fun f hf' h6=>?_⟩
  ·rw[byzOf_new h2 hnew,hfb _ (fun f hf' h6=>by obtain⟨d',hd'⟩:=hfl f hf' h6;exact rP hd')]
  ·obtain⟨d',hd'⟩:=hfl f hf' h6
   refine⟨d',hold _ _ hd',?_⟩
   have hin:=rP hd'
   rw[fC,if_pos h2,(uM hin).1,rankL_new hnew]
   exact (uM (b:=[]) hin).2
 ·have hx2:dN (kZ l) x=some (3,d):=by
   cases hq:dN (kZ l) x with
   |none=>exact absurd hq hxl
   |some p=>
    have:∀(u t:Tab),dN t x=some p→dN (t++u) x=some p:=by
     intro u
     induction u with
     |nil=>intro t ht;rw[List.append_nil];exact ht
     |cons q r ih=>
      intro t ht
      rw[show t++q::r=(t++[q])++r by simp]
      refine ih _ ?_
      rw[oV,ht];rfl
    rw[qL,this _ _ hq] at hx
    exact hx
  obtain⟨i1,i2,i3,i4,i5⟩:=h x d hx2
  refine⟨by rw[fC];exact dO _ i1,i2,?_,i4,fun f hf' h6=>?_⟩
  ·rw[xK i1,i3,hfb _ (fun f hf' h6=>by obtain⟨d',hd',-⟩:=i5 f hf' h6;exact rP hd')]
  ·obtain⟨d',hd',hr⟩:=i5 f hf' h6
   refine⟨d',hold _ _ hd',?_⟩
   rw[fC,(uM (rP hd')).1,(uM i1).1]
   exact hr
theorem JM:mH (jr []) (aU []) (fun _=>none) 0:=⟨fun y v h=>(by cases h),aP 0,cu _⟩
theorem FP{l:List Dc}{e:Dc}{Z:ByteArray→Option Bool}{zn:Nat}(h:mH (jr l) (aU l) Z zn)(hl:(aU (l++[e])).length≤1000000):mH (jr (l++[e])) (aU (l++[e])) Z zn:=by
 obtain⟨h1,h2,-⟩:=h
 refine⟨fun y v hv=>?_,?_,hl⟩
 ·obtain⟨i1,i2⟩:=h1 y v hv
  exact⟨by rw[xK i2];exact i1,by rw[fC];exact dO _ i2⟩
 ·rw[fC,List.countP_append,bD]
  have:=List.countP_le_length (p:=fun y=>(Z y).isNone) (l:=if e.kind=2 then [e.name] else [])
  omega
end
end Go.Proofs.YtmohibkomlhlaaaGreatDoor
