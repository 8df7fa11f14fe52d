/- The contracts of the parser's smallest methods: more, fail, is, take, need. The contracts of the parser's methods is, take, need. The contracts of reserved and function. The contracts of the parser's methods name, isInt, number. The contracts of the parser's methods names and braces. The contract of the parser's method joined, for any part. The contract of the parser's method threshold. The contract of the parser's method factor. The contract of the parser's method factor at a function's word. The contract of the parser's method term. The contract of the parser's method fault. Blocks of a declaration's 22 cells; the contract of the parser's method configuration. The contract of the parser's method declaration, all but the declaration of faults. -/
import Derived.Test.YtmohibkomlhlaaaGreatDoorPkMem
import Derived.Deep.QuietTactic
import Derived.BigQuiet
import Derived.Deep.RegionLaw
import Derived.StillTailTactics
import Derived.Deep.RegionHeld3
import Derived.RegionTactic
import Derived.BigRegion
import Derived.Outline
import Derived.IntWalk
import Derived.Deep.LoopGhost
import Derived.Shelf.Abstract
import Derived.Deep.DeepCutAuto
import Derived.Deep.WholeRow
set_option maxRecDepth 100000
set_option maxHeartbeats 4000000
namespace Go.Proofs.YtmohibkomlhlaaaGreatDoor
section
open Go.RowKit
open _root_.Go.Proofs.Tryz
theorem Ez{w:World}{b:Nat}{v0 v1 v2 v3:Value}{t:TypeId}(h:w.heap[b]?=some (.cells #[v0,v1,v2,v3] t (0,0))):
  w.cell? ⟨b,0,none⟩=some v0∧w.cell? ⟨b,1,none⟩=some v1∧w.cell? ⟨b,2,none⟩=some v2∧w.cell? ⟨b,3,none⟩=some v3∧∀i,w.frozen? ⟨b,i,none⟩=false:=
 ⟨(j5 _ _ _ _ _ _ h).trans rfl,(j5 _ _ _ _ _ _ h).trans rfl,(j5 _ _ _ _ _ _ h).trans rfl,(j5 _ _ _ _ _ _ h).trans rfl,fun i=>jT _ _ i _ _ h⟩
def jW(L:cB)(s:St):Bool:=decide (s.err=0)&&decide (s.pos<L.length)
theorem J2{a b:Nat}(h:a=b):((a:Int)==(b:Int))=true:=by subst h;simp
theorem lM{a b:Nat}(h:a≠b):((a:Int)==(b:Int))=false:=by rw[bP];omega
theorem j6{a b:Nat}(h:a≠b):((a:Int) != (b:Int))=true:=by rw[bne_iff_ne];omega
theorem AQ{b:Nat}{A:Option Addr}{n c:Nat}{L:cB}{ln:Nat→Nat}{s:St}(w:World)(h:PSt b A n c L ln s w):
  Calls prog 83 #[.pointer (some ⟨b,0,none⟩)] w fun e w'=>e=.returned (.bool (jW L s))∧∃q,w'=w.drewN q:=by
 obtain⟨l,hl,h2⟩:=h.blk
 obtain⟨c0,c1,c2,c3,-⟩:=Ez hl
 have hn:=h.len
 clear h2 hl h
 by_cases he:s.err=0
 ·have hd:(((s.err:Nat):Int)==0)=true:=J2 he
  have e:jW L s=decide (s.pos<n):=by unfold jW;rw[he,hn];simp
  rw[e]
  clear e he hn
  go_enter func83,ntmps83
  go_wp2
  go_quiet (fail)
  go_wp2
  go_ret
  exact⟨rfl,_,rfl⟩
 ·have hd:(((s.err:Nat):Int)==0)=false:=lM he
  have e:jW L s=false:=by unfold jW;simp[he]
  rw[e]
  clear e he hn
  go_enter func83,ntmps83
  go_wp2
  go_quiet (fail)
  go_wp2
  go_ret
  exact⟨rfl,_,rfl⟩
theorem zx{L:cB}{i:Nat}(h:0<L.length):lS L i=(L[min i (L.length-1)]'(by omega)).2:=by
 unfold lS wI
 rw[if_neg (by omega),dD (by omega)];rfl
theorem Du{L:cB}{i:Nat}(h:L.length=0):lS L i=1:=by unfold lS;rw[if_pos h]
theorem Bj{b:Nat}{A:Option Addr}{n c:Nat}{L:cB}{ln:Nat→Nat}{s:St}{w w':World}(e line:Nat)(h:PSt b A n c L ln s w)(h0:s.err=0)
  (hb:w'.heap[b]?=some (.cells #[.slice A n c,.int .i64 s.pos,.int .i64 e,.int .i64 line] 155 (0,0))) (hl:line=lS L s.pos) (he:e≠0) (hg:w.grownBy w' (some b)):
  PSt b A n c L ln (fails e s) w':=by
 have e1:fails e s=⟨s.pos,e⟩:=by unfold fails;rw[if_pos h0]
 rw[e1]
 exact⟨⟨line,hb,fun _=>by rw[hl,h.err h0]⟩,h.len,h.pos,fun k=>absurd k he,h.toks.keep (rF hg),h.few⟩
theorem oZ{b:Nat}{A:Option Addr}{n c:Nat}{L:cB}{ln:Nat→Nat}{s:St}(e:Nat)(he:e≠0)(w:World)(h:PSt b A n c L ln s w):
  Calls prog 114 #[.pointer (some ⟨b,0,none⟩),.int .i64 e] w fun r w'=>r=.returned (.tuple #[])∧PSt b A n c L ln (fails e s) w'∧w.grownBy w' (some b):=by
 obtain⟨l,hl,h2⟩:=h.blk
 obtain⟨c0,c1,c2,c3,cf⟩:=Ez hl
 have f2:=cf 2
 have f3:=cf 3
 have hn:=h.len
 have hpos:=h.pos
 have hfew:=h.few
 have HL:=jI hl
 have HH:=jI h
 have HN:=jI hn
 rw[←hn] at hfew hpos
 clear h2 hl hn cf
 by_cases hz:s.err=0
 ·have hd:(((s.err:Nat):Int) != 0)=false:=by rw[hz];rfl
  have HZ:=jI hz
  clear hz
  by_cases h0:0<n
  ·by_cases hlt:s.pos<n
   ·obtain⟨g,o,rfl,hS,-,-,-,-,k4⟩:=qH (i:=s.pos) HH.out.toks HN.out (by omega)
    clear h
    go_enter func114,ntmps114
    go_wp2
    obtain⟨W,hW⟩:=kE ((w.setCell ⟨b,2,none⟩ (.int .i64 e)).setCell ⟨b,3,none⟩ (.int .i64 1))
    have hg:w.grownBy W (some b):=by rw[hW];exact aK (aK (aJ _ _) _ _) _ _
    have hbk:W.heap[b]?=some (.cells #[.slice (some ⟨g,o,none⟩) n c,.int .i64 s.pos,.int .i64 e,.int .i64 1] 155 (0,0)):=by rw[hW];exact aF (aF HL.out _) _
    have k4':=hg.cell k4 (fun e=>Nat.ne_of_lt hS (by injection e))
    obtain⟨q,hq⟩:∃q:Nat,q=(L[s.pos]'(by rw[←HN.out];omega)).2:=⟨_,rfl⟩
    rw[←hq] at k4'
    have HQ:=jI hq
    clear hq
    rw[←hW]
    clear hW c0 c1 c2 c3 f2 f3 k4
    obtain⟨c0,c1,c2,c3,cf⟩:=Ez hbk
    have f3:=cf 3
    have HB:=jI hbk
    clear hbk cf
    have hw1:IntKind.i64.wrap ((n:Int)-1)=(n:Int)-1:=IntWalk.i64_in _ (by omega)
    have hm1:¬(n:Int)-1<(s.pos:Int):=by omega
    have hm2:(s.pos:Int)≤(n:Int)-1:=by omega
    have hm3:(s.pos:Int)<(n:Int):=by omega
    have hm4:(0:Int)≤(s.pos:Int):=by omega
    go_still_tail 21,(by kernel_rfl)
    go_wp2
    go_end0
    refine⟨rfl,Bj e q HH.out HZ.out ?_ ?_ he ?_,?_⟩
    ·exact aF HB.out _
    ·rw[zx (by rw[←HN.out];exact h0)]
     rw[HQ.out]
     congr 2
     rw[←HN.out];omega
    ·exact dL (aK hg _ _) 1
    ·exact dL (aK hg _ _) 1
   ·obtain⟨g,o,rfl,hS,-,-,-,-,k4⟩:=qH (i:=n-1) HH.out.toks HN.out (by omega)
    clear h
    go_enter func114,ntmps114
    go_wp2
    obtain⟨W,hW⟩:=kE ((w.setCell ⟨b,2,none⟩ (.int .i64 e)).setCell ⟨b,3,none⟩ (.int .i64 1))
    have hg:w.grownBy W (some b):=by rw[hW];exact aK (aK (aJ _ _) _ _) _ _
    have hbk:W.heap[b]?=some (.cells #[.slice (some ⟨g,o,none⟩) n c,.int .i64 s.pos,.int .i64 e,.int .i64 1] 155 (0,0)):=by rw[hW];exact aF (aF HL.out _) _
    have k4':=hg.cell k4 (fun e=>Nat.ne_of_lt hS (by injection e))
    obtain⟨q,hq⟩:∃q:Nat,q=(L[n-1]'(by rw[←HN.out];omega)).2:=⟨_,rfl⟩
    rw[←hq] at k4'
    have HQ:=jI hq
    clear hq
    rw[←hW]
    clear hW c0 c1 c2 c3 f2 f3 k4
    obtain⟨c0,c1,c2,c3,cf⟩:=Ez hbk
    have f3:=cf 3
    have HB:=jI hbk
    clear hbk cf
    have hw1:IntKind.i64.wrap ((n:Int)-1)=(n:Int)-1:=IntWalk.i64_in _ (by omega)
    have hm1:(n:Int)-1<(s.pos:Int):=by omega
    have hm2:¬(s.pos:Int)≤(n:Int)-1:=by omega
    have hm3:(n:Int)-1<(n:Int):=by omega
    have hm4:(0:Int)≤(n:Int)-1:=by omega
    have hm5:((n:Int)-1).toNat=n-1:=by omega
    have hm6:(1:Int)≤(n:Int):=by omega
    have hm7:1≤n:=by omega
    go_still_tail 21,(by kernel_rfl)
    go_wp2
    go_end0
    refine⟨rfl,Bj e q HH.out HZ.out ?_ ?_ he ?_,?_⟩
    ·exact aF HB.out _
    ·rw[zx (by rw[←HN.out];exact h0)]
     rw[HQ.out]
     congr 2
     rw[←HN.out];omega
    ·exact dL (aK hg _ _) 1
    ·exact dL (aK hg _ _) 1
  ·obtain rfl:n=0:=by omega
   clear h
   go_enter func114,ntmps114
   go_wp2
   go_end0
   have hg:w.grownBy ((w.setCell ⟨b,2,none⟩ (.int .i64 e)).setCell ⟨b,3,none⟩ (.int .i64 1)) (some b):=aK (aK (aJ _ _) _ _) _ _
   refine⟨rfl,Bj e 1 HH.out HZ.out (aF (aF HL.out _) _) ?_ he hg,hg⟩
   rw[Du HN.out.symm]
 ·have hd:(((s.err:Nat):Int) != 0)=true:=by simpa using hz
  clear h
  go_enter func114,ntmps114
  go_wp2
  (try simp only[Exit.inBlock,Exit.then])
  refine bodyPost_ret (results_none rfl _ _ _) rfl ?_
  refine⟨rfl,?_,aJ _ _⟩
  unfold fails;rw[if_neg hz];exact HH.out
theorem isW_more{L:cB}{s:St}{x:ByteArray}(h:jW L s=false):isW L x s=false:=by
 unfold isW tk
 unfold jW at h
 by_cases e:s.err=0
 ·have:L.length≤s.pos:=by simpa [e] using h
  rw[if_pos e,List.getElem?_eq_none this];rfl
 ·rw[if_neg e]
theorem qg{L:cB}{s:St}(h:jW L s=true):s.err=0∧s.pos<L.length:=by
 unfold jW at h
 simpa using h
theorem isW_at{L:cB}{s:St}{x:ByteArray}(h0:s.err=0)(hp:s.pos<L.length):isW L x s=isWord x (L[s.pos]'hp).1:=by
 unfold isW
 rw[G7 h0 hp]
theorem Gd(a b:ByteArray):(a==b)=(a.data==b.data):=by cases a;cases b;rfl
theorem kJ(a b:ByteArray):(a.toList==b.toList)=(a==b):=by
 rw[Gd,Bool.eq_iff_iff,beq_iff_eq,beq_iff_eq,ByteArray.toList_eq,ByteArray.toList_eq]
 exact⟨fun h=>Array.toList_inj.1 h,fun h=>by rw[h]⟩
theorem nJ(a b:ByteArray):(a==b)=true↔a=b:=by
 rw[Gd,beq_iff_eq]
 exact⟨fun h=>by cases a;cases b;simp_all,fun h=>by rw[h]⟩
theorem is_any{b:Nat}{A:Option Addr}{n c:Nat}{L:cB}{ln:Nat→Nat}{s:St}(x:ByteArray)(w:World)(h:PSt b A n c L ln s w):
  Calls prog 149 #[.pointer (some ⟨b,0,none⟩),.string x] w fun e w'=>e=.returned (.bool (isW L x s))∧Below w.heap.size w w':=by
 have hm:=AQ w h
 cases hmo:jW L s
 ·rw[hmo] at hm
  rw[isW_more hmo]
  have HM:=jI hm
  clear hm h hmo
  go_enter func149,ntmps149
  go_wp2_with (go_at_call 83;refine HM.out.mono ?_;rintro e w' ⟨rfl,q,rfl⟩)
  go_ret
  exact⟨rfl,below_drewN (jQ _ _) _⟩
 ·rw[hmo] at hm
  obtain⟨h0,hp⟩:=qg hmo
  rw[isW_at h0 hp]
  obtain⟨l,hl,h2⟩:=h.blk
  obtain⟨c0,c1,c2,c3,-⟩:=Ez hl
  have hn:=h.len
  obtain⟨g,o,rfl,hS,k0,k1,k2,k3,k4⟩:=qH (i:=s.pos) h.toks hn (by omega)
  obtain⟨t,ht⟩:=kE (L[s.pos]'hp)
  rw[←ht] at k0 k1 k2 k3 k4 ⊢
  have HM:=jI hm
  have hpI:(s.pos:Int)<(n:Int):=by omega
  have hp0:(0:Int)≤(s.pos:Int):=by omega
  have hfew:=h.few
  rw[←hn] at hfew
  have hbs:=h.lt
  have hgs:g<w.heap.size:=World.block_lt_of_cell? w _ k0
  clear hm h hmo h0 hl h2 hn ht hp
  go_enter func149,ntmps149
  go_wp2_with fail
  refine HM.out.mono ?_
  rintro e W ⟨rfl,q,hq⟩
  have hb:Below w.heap.size w W:=by rw[hq];exact below_drewN (jQ _ _) _
  clear hq
  have d0:=(hb.cell (p:=⟨b,0,none⟩) hbs).trans c0
  have d1:=(hb.cell (p:=⟨b,1,none⟩) hbs).trans c1
  have e0:=(hb.cell (p:=⟨g,o+s.pos * 5,none⟩) hgs).trans k0
  have e1:=(hb.cell (p:=⟨g,o+s.pos * 5+1,none⟩) hgs).trans k1
  have e2:=(hb.cell (p:=⟨g,o+s.pos * 5+2,none⟩) hgs).trans k2
  have e3:=(hb.cell (p:=⟨g,o+s.pos * 5+3,none⟩) hgs).trans k3
  have e4:=(hb.cell (p:=⟨g,o+s.pos * 5+4,none⟩) hgs).trans k4
  have hbs':b<W.heap.size:=bZ hbs hb.size
  have hgs':g<W.heap.size:=bZ hgs hb.size
  clear c0 c1 c2 c3 k0 k1 k2 k3 k4
  by_cases h1:t.1.kind=1
  ·have q1:((t.1.kind:Int)==1)=true:=J2 h1
   have q3:isWord x t.1=(t.1.text==x):=by unfold isWord;rw[h1];rfl
   have Q3:=jI q3
   clear q3 h1
   go_wp2
   go_region
   go_wp2
   go_ret
   refine⟨?_,?_⟩
   ·rw[Q3.out];first|rfl|(rw[←kJ];rfl)
   ·exact (hb.drew).alloc hb.size _
  ·have q1:((t.1.kind:Int)==1)=false:=lM h1
   by_cases h4:t.1.kind=4
   ·have q4:((t.1.kind:Int)==4)=true:=J2 h4
    have q3:isWord x t.1=(t.1.text==x):=by unfold isWord;rw[h4];rfl
    have Q3:=jI q3
    clear q3 h1 h4
    go_wp2
    go_region
    go_wp2
    go_ret
    refine⟨?_,?_⟩
    ·rw[Q3.out];first|rfl|(rw[←kJ];rfl)
    ·exact (hb.drew).alloc hb.size _
   ·have q4:((t.1.kind:Int)==4)=false:=lM h4
    have q3:isWord x t.1=false:=by unfold isWord;simp[h1,h4]
    have Q3:=jI q3
    clear q3 h1 h4
    go_wp2
    go_region
    go_wp2
    go_ret
    refine⟨?_,?_⟩
    ·rw[Q3.out];first|rfl|(rw[←kJ];rfl)
    ·exact (hb.drew).alloc hb.size _
theorem PSt.adv{b:Nat}{A:Option Addr}{n c:Nat}{L:cB}{ln:Nat→Nat}{s:St}{w w':World}(h:PSt b A n c L ln s w)(h0:s.err=0)(hp:s.pos<L.length){l:Nat}
  (hb:w'.heap[b]?=some (.cells #[.slice A n c,.int .i64 ((s.pos:Int)+1),.int .i64 s.err,.int .i64 l] 155 (0,0))) (hg:w.grownBy w' (some b)):PSt b A n c L ln (adv s) w':=
 ⟨⟨l,by rw[hb];rfl,fun k=>absurd h0 k⟩,h.len,hp,h.err,h.toks.keep (rF hg),h.few⟩
theorem eY{b:Nat}{A:Option Addr}{n c:Nat}{L:cB}{ln:Nat→Nat}{s:St}(x:ByteArray)(w:World)(h:PSt b A n c L ln s w):
  Calls prog 106 #[.pointer (some ⟨b,0,none⟩),.string x] w fun e w'=>e=.returned (.bool (isW L x s))∧PSt b A n c L ln (taken L x s) w'∧w.grownBy w' (some b):=by
 have hi:=is_any x w h
 cases his:isW L x s
 ·rw[his] at hi
  have e:taken L x s=s:=by unfold taken;rw[his];rfl
  rw[e]
  have HI:=jI hi
  have HH:=jI h
  clear hi h his e
  go_enter func106,ntmps106
  go_wp2_with fail
  refine HI.out.mono ?_
  rintro e W ⟨rfl,hb⟩
  go_wp2
  go_ret
  exact⟨rfl,HH.out.below hb,aM hb⟩
 ·rw[his] at hi
  have e:taken L x s=adv s:=by unfold taken;rw[his];rfl
  rw[e]
  obtain⟨h0,hp⟩:=isW_ok his
  have HI:=jI hi
  have HH:=jI h
  have H0:=jI h0
  have hfew:=h.few
  clear hi h his e h0
  go_enter func106,ntmps106
  go_wp2_with fail
  refine HI.out.mono ?_
  rintro e W ⟨rfl,hb⟩
  have h1:=HH.out.below hb
  obtain⟨l,hl,h2⟩:=h1.blk
  obtain⟨c0,c1,c2,c3,cf⟩:=Ez hl
  have f1:=cf 1
  have HL:=jI hl
  clear hl h2 cf
  go_wp2
  go_ret
  have hg:W.grownBy (W.setCell ⟨b,1,none⟩ (.int .i64 ((s.pos:Int)+1))) (some b):=aK (aJ _ _) _ _
  exact⟨rfl,h1.adv H0.out hp (aF HL.out _) hg,au (aM hb) hg⟩
theorem need_eq(L:cB)(x:ByteArray)(s:St):need L x s=if isW L x s then taken L x s else fails 2 (taken L x s):=by
 unfold need taken
 cases isW L x s<;>rfl
theorem iN{b g:Nat}{A:Option Addr}{n c:Nat}{L:cB}{ln:Nat→Nat}{s:St}(x:ByteArray)(w:World)(h:PSt b A n c L ln s w)(hg:w.heap[g]?=some (.cells #[.string x] 9 (0,0)))(_:g≠b):
  Calls prog 109 #[.pointer (some ⟨b,0,none⟩),.slice (some ⟨g,0,none⟩) 1 1] w fun e w'=>e=.returned (.tuple #[])∧PSt b A n c L ln (need L x s) w'∧w.grownBy w' (some b):=by
 have hc:=cell_of_one hg
 have ht:=eY x w h
 rw[need_eq]
 have HT:=jI ht
 have HH:=jI h
 clear ht h hg
 cases his:isW L x s
 ·rw[his] at HT
  clear his
  go_enter func109,ntmps109
  go_wp2
  refine wp_loop_rounds 3 ?_
  rw[rounds_succ]
  go_wp2_with fail
  refine HT.out.mono ?_
  rintro e W ⟨rfl,h1,hb⟩
  go_wp2_with fail
  refine (oZ 2 (by decide) W h1).mono ?_
  rintro e W2 ⟨rfl,h2,hb2⟩
  go_wp2
  (try simp only[Exit.inBlock,Exit.then])
  refine bodyPost_ret (results_none rfl _ _ _) rfl ?_
  exact⟨rfl,h2,au hb hb2⟩
 ·rw[his] at HT
  clear his
  go_enter func109,ntmps109
  go_wp2
  refine wp_loop_rounds 3 ?_
  rw[rounds_succ]
  go_wp2_with fail
  refine HT.out.mono ?_
  rintro e W ⟨rfl,h1,hb⟩
  go_wp2
  rw[rounds_succ]
  go_wp2
  go_end0
  exact⟨rfl,h1,hb⟩
theorem vE(x:ByteArray)(l:List UInt8):(x==bs l)=(x.toList==l):=by
 rw[←kJ,ByteArray.toList_eq,ByteArray.toList_eq,jH]
theorem Jb(x:ByteArray):pq x=if x.toList==[100,117,97,108] then 5 else if x.toList==[109,97,106,111,114,105,116,121] then 6 else if x.toList==[97,108,108] then 7 else if x.toList==[97,110,121] then 8 else 0:=by
 unfold pq
 rw[←vE,←vE,←vE,←vE]
 rfl
theorem Al(x:ByteArray):reserved x=(x.toList==[115,105,116,101] || x.toList==[102,97,117,108,116,115] || x.toList==[113,117,111,114,117,109] || x.toList==[99,111,110,102,105,103] || x.toList==[119,105,116,110,101,115,115] || x.toList==[99,108,105,101,110,116] || x.toList==[99,104,97,105,110] || x.toList==[114,101,97,100] || x.toList==[119,114,105,116,101] || x.toList==[99,114,97,115,104] || x.toList==[98,121,122,97,110,116,105,110,101] || x.toList==[110,111,110,101] || x.toList==[116,104,114,101,115,104,111,108,100] || x.toList==[98,121,122] || x.toList==[100,117,97,108] || x.toList==[109,97,106,111,114,105,116,121] || x.toList==[97,108,108] || x.toList==[97,110,121] || x.toList==[115,101,114,118,101,114,115]):=by
 unfold reserved words
 simp only[List.any_cons,List.any_nil,Bool.or_false]
 simp only[←vE,Bool.or_assoc]
 rfl
theorem tX(x:ByteArray)(w:World):Calls prog 215 #[.string x] w fun e w'=>e=.returned (.int .i64 (pq x))∧w=w':=by
 go_enter func215,ntmps215
 go_wp2
 all_goals go_ret
 all_goals refine⟨?_,rfl⟩
 all_goals rw[Jb]
 all_goals simp[*]
theorem tN(x:ByteArray)(w:World):Calls prog 150 #[.string x] w fun e w'=>e=.returned (.bool (reserved x))∧w=w':=by
 go_enter func150,ntmps150
 go_wp2
 all_goals go_ret
 all_goals refine⟨?_,rfl⟩
 all_goals rw[Al]
 all_goals first|(simp[*];done)|simp_all
theorem PSt.drewN{b:Nat}{A:Option Addr}{n c:Nat}{L:cB}{ln:Nat→Nat}{s:St}{w:World}(h:PSt b A n c L ln s w)(k:Nat):PSt b A n c L ln s (w.drewN k):=h.below (below_drewN (jQ _ _) k)
theorem mh{b:Nat}{A:Option Addr}{n c:Nat}{L:cB}{ln:Nat→Nat}{s:St}{w:World}(h:PSt b A n c L ln s w){r:Bool}(hr:jW L s=r)(k:Nat):
  Calls prog 83 #[.pointer (some ⟨b,0,none⟩)] (w.drewN k) fun e w''=>e=.returned (.bool r)∧∃m,w''=w.drewN m:=by
 subst hr
 exact Calls.quiet_of (AQ _ (h.drewN k))
theorem pF{x:ByteArray}{r:Bool}(hr:reserved x=r)(w:World)(k:Nat):
  Calls prog 150 #[.string x] (w.drewN k) fun e w''=>e=.returned (.bool r)∧∃m,w''=w.drewN m:=by
 subst hr
 exact (tN x _).mono fun _ _ h=>⟨h.1,k,h.2.symm⟩
theorem EX{L:cB}{s:St}(h0:s.err=0)(hp:s.pos<L.length):jW L s=true:=by unfold jW;simp[h0,hp]
theorem EW{L:cB}{s:St}(h:mq L s=false):bG L s=(bs [],fails 2 s):=by unfold bG;rw[h];rfl
theorem name_yes{L:cB}{s:St}(h:mq L s=true):bG L s=(txt L s,adv s):=by unfold bG;rw[h];rfl
theorem isName_at{L:cB}{s:St}(h0:s.err=0)(hp:s.pos<L.length):mq L s=nQ (L[s.pos]'hp).1:=by unfold mq;rw[G7 h0 hp]
theorem txt_at{L:cB}{s:St}(h0:s.err=0)(hp:s.pos<L.length):txt L s=(L[s.pos]'hp).1.text:=by unfold txt;rw[G7 h0 hp]
theorem E8{L:cB}{s:St}(h:jW L s=false):mq L s=false:=by
 cases e:mq L s
 ·rfl
 ·obtain⟨h0,hp⟩:=CQ e
  rw[EX h0 hp] at h;simp at h
theorem IL{L:cB}{s:St}(h:jW L s=false):isInt L s=false:=by
 cases e:isInt L s
 ·rfl
 ·obtain⟨h0,hp⟩:=Gv e
  rw[EX h0 hp] at h;simp at h
def PPost(b:Nat)(A:Option Addr)(n c:Nat)(L:cB)(ln:Nat→Nat)(w:World)(v:Value)(s:St)(e:Ending)(w':World):Prop:=e=.returned v∧PSt b A n c L ln s w'∧w.grownBy w' (some b)
theorem lV{b:Nat}{A:Option Addr}{n c:Nat}{L:cB}{ln:Nat→Nat}{s:St}{w:World}(h:PSt b A n c L ln s w)(hp:s.pos<L.length):
  ∃g o l:Nat,A=some ⟨g,o,none⟩∧g<b∧g<w.heap.size∧b<w.heap.size∧w.heap[b]?=some (.cells #[.slice A n c,.int .i64 s.pos,.int .i64 s.err,.int .i64 l] 155 (0,0))∧
   w.cell? ⟨g,o+s.pos * 5,none⟩=some (.int .i64 (L[s.pos]'hp).1.kind)∧w.cell? ⟨g,o+s.pos * 5+1,none⟩=some (.string (L[s.pos]'hp).1.text)∧
   w.cell? ⟨g,o+s.pos * 5+2,none⟩=some (.int .i64 (L[s.pos]'hp).1.int)∧w.cell? ⟨g,o+s.pos * 5+3,none⟩=some (.string (L[s.pos]'hp).1.str)∧w.cell? ⟨g,o+s.pos * 5+4,none⟩=some (.int .i64 (L[s.pos]'hp).2)∧
   (0:Int)≤(s.pos:Int)∧(s.pos:Int)<(n:Int)∧n≤100000:=by
 obtain⟨l,hl,h2⟩:=h.blk
 have hn:=h.len
 have hfew:=h.few
 obtain⟨g,o,rfl,hS,k0,k1,k2,k3,k4⟩:=qH (i:=s.pos) h.toks hn (by omega)
 exact⟨g,o,l,rfl,hS,World.block_lt_of_cell? w _ k0,h.lt,hl,k0,k1,k2,k3,k4,by omega,by omega,by omega⟩
theorem CR{b:Nat}{A:Option Addr}{n c:Nat}{L:cB}{ln:Nat→Nat}{s:St}(w:World)(h:PSt b A n c L ln s w):
  Calls prog 195 #[.pointer (some ⟨b,0,none⟩)] w fun e w'=>e=.returned (.bool (isInt L s))∧∃q,w'=w.drewN q:=by
 cases hmo:jW L s
 ·rw[IL hmo]
  have HM:=jI (mh h hmo)
  clear h hmo
  go_enter func195,ntmps195
  go_wp2
  go_quiet ((go_at_call 83;exact HM.out _))
  go_wp2
  go_ret
  exact⟨rfl,_,rfl⟩
 ·obtain⟨h0,hp⟩:=qg hmo
  obtain⟨g,o,l,rfl,hS,hgs,hbs,hl,k0,k1,k2,k3,k4,i1,i2,i3⟩:=lV h hp
  have e:isInt L s=((L[s.pos]'hp).1.kind==2):=by unfold isInt;rw[G7 h0 hp]
  rw[e]
  obtain⟨t,ht⟩:=kE (L[s.pos]'hp)
  rw[←ht] at k0 k1 k2 k3 k4 ⊢
  obtain⟨c0,c1,c2,c3,-⟩:=Ez hl
  have HM:=jI (mh h hmo)
  clear h hmo e h0 hl ht
  have e2:(t.1.kind==2)=((t.1.kind:Int)==2):=by rw[Bool.eq_iff_iff,beq_iff_eq,beq_iff_eq];omega
  rw[e2]
  clear e2
  go_enter func195,ntmps195
  go_wp2
  go_quiet ((go_at_call 83;exact HM.out _))
  go_wp2
  go_ret
  exact⟨rfl,_,rfl⟩
theorem mR{b:Nat}{A:Option Addr}{n c:Nat}{L:cB}{ln:Nat→Nat}{s:St}(w:World)(h:PSt b A n c L ln s w):
  Calls prog 107 #[.pointer (some ⟨b,0,none⟩)] w (PPost b A n c L ln w (.string (bG L s).1) (bG L s).2):=by
 cases hmo:jW L s
 ·rw[EW (E8 hmo)]
  have HM:=jI (mh h hmo)
  have HH:=jI h
  clear h hmo
  go_enter func107,ntmps107
  go_wp2
  go_quiet ((go_at_call 83;exact HM.out _))
  go_wp2_with fail
  refine (oZ 2 (by decide) _ (HH.out.drewN _)).mono ?_
  rintro e W ⟨rfl,h1,hg⟩
  go_wp2
  go_ret
  exact⟨rfl,h1,au (dL (aJ _ _) _) hg⟩
 ·obtain⟨h0,hp⟩:=qg hmo
  obtain⟨g,o,l,rfl,hS,hgs,hbs,hl,k0,k1,k2,k3,k4,i1,i2,i3⟩:=lV h hp
  have hat:=isName_at h0 hp
  have htx:=txt_at h0 hp
  obtain⟨t,ht⟩:=kE (L[s.pos]'hp)
  rw[←ht] at k0 k1 k2 k3 k4 hat htx
  obtain⟨c0,c1,c2,c3,cf⟩:=Ez hl
  have HM:=jI (mh h hmo)
  have HH:=jI h
  have HL:=jI hl
  have H0:=jI h0
  have f1:=cf 1
  clear h hmo h0 hl ht cf
  by_cases h1:t.1.kind=1
  ·have q1:((t.1.kind:Int)==1)=true:=J2 h1
   have q2:((t.1.kind:Int) != 1)=false:=by rw[h1];rfl
   cases hr:reserved t.1.text
   ·have e:mq L s=true:=by rw[hat];unfold nQ;rw[h1,hr];rfl
    rw[name_yes e,htx]
    have HR:=jI (pF hr)
    clear h1 hr e hat htx
    go_enter func107,ntmps107
    go_wp2
    go_quiet ((first|(go_at_call 83;exact HM.out _)|(go_at_call 150;exact HR.out _ _)))
    go_wp2
    obtain⟨W,hW⟩:=kE ((w.drewN nq).setCell ⟨b,1,none⟩ (.int .i64 ((s.pos:Int)+1)))
    have hg:w.grownBy W (some b):=by rw[hW];exact aK (dL (aJ _ _) _) _ _
    have hb1:W.heap[b]?=some (.cells #[.slice (some ⟨g,o,none⟩) n c,.int .i64 ((s.pos:Int)+1),.int .i64 s.err,.int .i64 l] 155 (0,0)):=by rw[hW];exact aF (w:=w.drewN nq) HL.out _
    have k1':=hg.cell k1 (fun e=>Nat.ne_of_lt hS (by injection e))
    rw[←hW]
    have HB:=jI hb1
    clear hW c0 c1 c2 c3 f1 k0 k1 k2 k3 k4
    obtain⟨c0,c1,c2,c3,-⟩:=Ez hb1
    have hw1:IntKind.i64.wrap ((s.pos:Int)+1-1)=(s.pos:Int):=by rw[Int.add_sub_cancel];exact IntWalk.i64_in _ (by omega)
    clear hb1
    go_quiet (fail)
    go_wp2
    go_ret
    exact⟨rfl,(HH.out.adv H0.out hp HB.out hg).drewN _,dL hg _⟩
   ·have e:mq L s=false:=by rw[hat];unfold nQ;rw[h1,hr];rfl
    rw[EW e]
    have HR:=jI (pF hr)
    clear h1 hr e hat htx f1
    go_enter func107,ntmps107
    go_wp2
    go_quiet ((first|(go_at_call 83;exact HM.out _)|(go_at_call 150;exact HR.out _ _)))
    go_wp2_with fail
    refine (oZ 2 (by decide) _ (HH.out.drewN _)).mono ?_
    rintro e W ⟨rfl,h1,hg⟩
    go_wp2
    go_ret
    exact⟨rfl,h1,au (dL (aJ _ _) _) hg⟩
  ·have q1:((t.1.kind:Int)==1)=false:=lM h1
   have q2:((t.1.kind:Int) != 1)=true:=j6 h1
   have e:mq L s=false:=by rw[hat];unfold nQ;simp[h1]
   rw[EW e]
   clear h1 e hat htx f1
   go_enter func107,ntmps107
   go_wp2
   go_quiet ((go_at_call 83;exact HM.out _))
   go_wp2_with fail
   refine (oZ 2 (by decide) _ (HH.out.drewN _)).mono ?_
   rintro e W ⟨rfl,h1,hg⟩
   go_wp2
   go_ret
   exact⟨rfl,h1,au (dL (aJ _ _) _) hg⟩
theorem num_no{L:cB}{s:St}(h:isInt L s=false):uN L s=(0,fails 2 s):=by unfold uN;rw[h];rfl
theorem intAt_at{L:cB}{s:St}(h0:s.err=0)(hp:s.pos<L.length):E9 L s=(L[s.pos]'hp).1.int:=by unfold E9;rw[G7 h0 hp]
theorem num_big{L:cB}{s:St}(h:isInt L s=true)(h2:100000<E9 L s):uN L s=(0,fails 7 s):=by unfold uN;rw[h,if_pos h2];rfl
theorem num_yes{L:cB}{s:St}(h:isInt L s=true)(h2:¬100000<E9 L s):uN L s=((E9 L s:Int),adv s):=by unfold uN;rw[h,if_neg h2];rfl
theorem yX{b:Nat}{A:Option Addr}{n c:Nat}{L:cB}{ln:Nat→Nat}{s:St}(w:World)(h:PSt b A n c L ln s w):
  Calls prog 151 #[.pointer (some ⟨b,0,none⟩)] w (PPost b A n c L ln w (.int .i64 (uN L s).1) (uN L s).2):=by
 have hI:=CR w h
 cases hin:isInt L s
 ·rw[num_no hin]
  rw[hin] at hI
  have HI:=jI hI
  have HH:=jI h
  clear h hI hin
  go_enter func151,ntmps151
  go_wp2_with fail
  refine HI.out.mono ?_
  rintro e W1 ⟨rfl,q,rfl⟩
  go_wp2_with fail
  refine (oZ 2 (by decide) _ (HH.out.drewN _)).mono ?_
  rintro e W ⟨rfl,h1,hg⟩
  go_wp2
  go_ret
  exact⟨rfl,h1,au (dL (aJ _ _) _) hg⟩
 ·rw[hin] at hI
  obtain⟨h0,hp⟩:=Gv hin
  obtain⟨g,o,l,rfl,hS,hgs,hbs,hl,k0,k1,k2,k3,k4,i1,i2,i3⟩:=lV h hp
  have hat:=intAt_at h0 hp
  obtain⟨t,ht⟩:=kE (L[s.pos]'hp)
  rw[←ht] at k0 k1 k2 k3 k4 hat
  obtain⟨c0,c1,c2,c3,cf⟩:=Ez hl
  have HI:=jI hI
  have HH:=jI h
  have HL:=jI hl
  have H0:=jI h0
  have f1:=cf 1
  clear h h0 hl ht cf hI
  by_cases hb:100000<t.1.int
  ·rw[num_big hin (by rw[hat];exact hb)]
   have hbI:(100000:Int)<(t.1.int:Int):=by omega
   clear hin hat hb
   go_enter func151,ntmps151
   go_wp2_with fail
   refine HI.out.mono ?_
   rintro e W1 ⟨rfl,q,rfl⟩
   go_wp2
   go_quiet (fail)
   go_wp2_with fail
   refine (oZ 7 (by decide) _ (HH.out.drewN _)).mono ?_
   rintro e W ⟨rfl,h1,hg⟩
   go_wp2
   go_ret
   exact⟨rfl,h1,au (dL (aJ _ _) _) hg⟩
  ·rw[num_yes hin (by rw[hat];exact hb),hat]
   have hbI:¬(100000:Int)<(t.1.int:Int):=by omega
   clear hin hat hb
   go_enter func151,ntmps151
   go_wp2_with fail
   refine HI.out.mono ?_
   rintro e W1 ⟨rfl,q,rfl⟩
   go_wp2
   go_quiet (fail)
   go_wp2
   go_ret
   refine⟨rfl,HH.out.adv (l:=l) H0.out hp ?_ (aK (dL (aJ _ _) _) _ _),aK (dL (aJ _ _) _) _ _⟩
   exact aF (w:=w.drewN _) HL.out _
def NPost(b:Nat)(A:Option Addr)(n c:Nat)(L:cB)(ln:Nat→Nat)(w:World)(l:List ByteArray)(s:St)(e:Ending)(w':World):Prop:=
 ∃v,e=.returned v∧w'.ownsRow w.heap.size 9 1 v l.length (aC l)∧PSt b A n c L ln s w'∧w.grownBy w' (some b)
theorem aN{w w':World}{base e size n:Nat}{v:Value}{xs:List Value}(h:w.ownsRow base e size v n xs)(hg:w.grownBy w' v.ownBlock)(hb:base≤w.heap.size):Below base w w':=
 ⟨hg.os,hg.tape,hg.output,hg.size,fun k hk=>hg.block k (by omega) (fun e=>by have:=(h.lt k e.symm).1;omega)⟩
theorem aX{a w w':World}{b base:Nat}(h:a.grownBy w (some b))(hb:Below base w w')(hs:a.heap.size≤base):a.grownBy w' (some b):=
 ⟨hb.os.trans h.os,hb.tape.trans h.tape,hb.output.trans h.output,cK h.size hb.size,fun k hk hne=>(hb.block k (by omega)).trans (h.block k hk hne)⟩
theorem Cv{L:cB}{f:Nat}{acc:List ByteArray}{s:St}(h:isW L (⟨#[44]⟩:ByteArray) s=true):nM L (f+1) acc s=nM L f (acc++[(bG L (taken L (⟨#[44]⟩:ByteArray) s)).1]) (bG L (taken L (⟨#[44]⟩:ByteArray) s)).2:=by
 rw[nM,h];unfold taken;rw[h];rfl
theorem Cu{L:cB}{f:Nat}{acc:List ByteArray}{s:St}(h:isW L (⟨#[44]⟩:ByteArray) s=false):nM L f acc s=(acc,s):=by
 cases f with
 |zero=>rfl
 |succ f=>rw[nM,h];rfl
theorem taken_ok{L:cB}{x:ByteArray}{s:St}(h:isW L x s=true):(taken L x s).pos=s.pos+1:=by unfold taken;rw[h];rfl
theorem iG{L:cB}{x:ByteArray}{s:St}(h:isW L x s=false):taken L x s=s:=by unfold taken;rw[h];rfl
theorem names_any{b:Nat}{A:Option Addr}{n c:Nat}{L:cB}{ln:Nat→Nat}{s:St}(w:World)(h:PSt b A n c L ln s w):
  Calls prog 113 #[.pointer (some ⟨b,0,none⟩)] w (NPost b A n c L ln w (qX L s).1 (qX L s).2):=by
 have hbs:=h.lt
 have hfew:=h.few
 have HH:=jI h
 clear h
 go_enter func113,ntmps113
 go_wp2_with fail
 refine (mR w HH.out).mono ?_
 rintro e W ⟨rfl,h1,hg⟩
 have hsW:=hg.size
 go_wp2
 go_loopg [3] L.length (fun f v wr=>∃acc s',Hid (nM L f acc s'=qX L s)∧L.length≤f+s'.pos∧acc.length+f≤L.length+1∧PSt b A n c L ln s' wr∧w.grownBy wr (some b)∧wr.ownsRow w.heap.size 9 1 v acc.length (aC acc))
 case atStart=>
  refine⟨[(bG L s).1],(bG L s).2,rfl,by omega,by simp;omega,h1.below ((jQ _ _).alloc (aP _) _),dx hg _,?_⟩
  exact World.ownsRow_lit (base:=w.heap.size) (e:=9) (size:=1) W #[.string (bG L s).1] 1 hsW (by decide) rfl
 case round=>
  obtain⟨acc,s',hgo,hfu,hal,hP,hgr,hown⟩:=hrel
  have hsr:=hgr.size
  cases his:isW L (⟨#[44]⟩:ByteArray) s'
  ·have ht:=eY (⟨#[44]⟩:ByteArray) wr hP
   rw[his,iG his] at ht
   have HT:=jI ht
   have HI:=jI his
   clear ht his hP
   go_wp2_with fail
   refine HT.out.mono ?_
   rintro e W2 ⟨rfl,h2,hg2⟩
   go_wp2
   go_ret
   rw[Cu HI.out] at hgo
   refine⟨_,rfl,?_,?_,au hgr hg2⟩
   ·rw[←hgo.out];exact gu hown hg2 hbs
   ·rw[←hgo.out];exact h2
  ·have ht:=eY (⟨#[44]⟩:ByteArray) wr hP
   have hpos:=taken_ok his
   have hlt:=(isW_ok his).2
   rw[his] at ht
   have HT:=jI ht
   have HI:=jI his
   have HP:=jI hpos
   clear ht his hP hpos
   obtain⟨f,rfl⟩:∃f,gk=f+1:=⟨gk-1,by omega⟩
   go_wp2_with fail
   refine HT.out.mono ?_
   rintro e W2 ⟨rfl,h2,hg2⟩
   go_wp2_with fail
   refine (mR W2 h2).mono ?_
   rintro e W3 ⟨rfl,h3,hg3⟩
   have hown3:=gu (gu hown hg2 hbs) hg3 hbs
   have hgr3:=au (au hgr hg2) hg3
   have hs3:=hgr3.size
   go_wp2_with (at_builtin;refine gK W3 rfl (.tmp 9) (.tmp 12) rfl w.heap.size _ _ _ hown3 rfl (bG L (taken L (⟨#[44]⟩:ByteArray) s')).1 rfl (by omega) hs3 ?_;intro v' W4 jX hg4 _)
   have hb4:=aN hown3 hg4 hs3
   go_roundg f
   case measure=>omega
   case rel=>
    have ha:=(JU (L:=L) h2.pos).le
    rw[HP.out] at ha
    refine⟨acc++[(bG L (taken L (⟨#[44]⟩:ByteArray) s')).1],_,?_,?_,?_,h3.other hb4 hbs,aX hgr3 hb4 (aP _),?_⟩
    rotate_left 3
    ·rw[bD,iZ];exact jX
    ·rw[Cv HI.out] at hgo;exact hgo
    ·omega
    ·rw[bD];simp;omega
theorem JQ{b:Nat}{A:Option Addr}{n c:Nat}{L:cB}{ln:Nat→Nat}{s:St}(w:World)(h:PSt b A n c L ln s w):
  Calls prog 108 #[.pointer (some ⟨b,0,none⟩)] w (NPost b A n c L ln w (iR L s).1 (iR L s).2):=by
 have hbs:=h.lt
 have HH:=jI h
 clear h
 go_enter func108,ntmps108
 go_wp2_with fail
 refine (iN (⟨#[123]⟩:ByteArray) _ (HH.out.below ((jQ _ _).alloc (aP _) _)) (jR w _) (by omega)).mono ?_
 rintro e W1 ⟨rfl,h1,hg1⟩
 have hg1:=au (dx (aJ w (some b)) _) hg1
 go_wp2_with fail
 refine (names_any W1 h1).mono ?_
 rintro e W2 ⟨v,rfl,hown,h2,hg2⟩
 obtain⟨Av,cv,rfl,hcv⟩:=aD hown
 have hs1:=hg1.size
 have hs2:=hg2.size
 go_wp2_with fail
 refine (iN (⟨#[125]⟩:ByteArray) _ (h2.below ((jQ _ _).alloc (aP _) _)) (jR W2 _) (by omega)).mono ?_
 rintro e W3 ⟨rfl,h3,hg3⟩
 go_wp2
 go_ret
 exact⟨_,rfl,gu ((AJ hown hs1).alloc _) hg3 hbs,h3,au (au hg1 hg2) (au (dx (aJ W2 (some b)) _) hg3)⟩
def D7(b:Nat)(A:Option Addr)(n c:Nat)(L:cB)(ln:Nat→Nat)(w:World)(r:Tm × St)(e:Ending)(w':World):Prop:=
 ∃op nm nd wA wn wc kA kn kc,e=.returned (.agg #[.int .i64 op,.string nm,.int .i64 nd,.slice wA wn wc,.slice kA kn kc])∧dX w' (w.heap.size≤·) r.1 (.agg #[.int .i64 op,.string nm,.int .i64 nd,.slice wA wn wc,.slice kA kn kc])∧PSt b A n c L ln r.2 w'∧w.grownBy w' (some b)
theorem uL{w:World}{b:Nat}{v0 v1 v2 v3 v4:Value}{t:TypeId}(h:w.heap[b]?=some (.cells #[v0,v1,v2,v3,v4] t (0,0))):
  w.cell? ⟨b,0,none⟩=some v0∧w.cell? ⟨b,1,none⟩=some v1∧w.cell? ⟨b,2,none⟩=some v2∧w.cell? ⟨b,3,none⟩=some v3∧w.cell? ⟨b,4,none⟩=some v4∧∀i,w.frozen? ⟨b,i,none⟩=false:=
 ⟨(j5 _ _ _ _ _ _ h).trans rfl,(j5 _ _ _ _ _ _ h).trans rfl,(j5 _ _ _ _ _ _ h).trans rfl,(j5 _ _ _ _ _ _ h).trans rfl,(j5 _ _ _ _ _ _ h).trans rfl,fun i=>jT _ _ i _ _ h⟩
theorem set5{w:World}{r:Nat}{o0 o1 o2 o3 o4:Value}{t:TypeId}(h:w.heap[r]?=some (.cells #[o0,o1,o2,o3,o4] t (0,0)))(v0 v1 v2 v3 v4:Value):
  (((((w.setCell ⟨r,0,none⟩ v0).setCell ⟨r,1,none⟩ v1).setCell ⟨r,2,none⟩ v2).setCell ⟨r,3,none⟩ v3).setCell ⟨r,4,none⟩ v4).heap[r]?=some (.cells #[v0,v1,v2,v3,v4] t (0,0))∧
   w.grownBy (((((w.setCell ⟨r,0,none⟩ v0).setCell ⟨r,1,none⟩ v1).setCell ⟨r,2,none⟩ v2).setCell ⟨r,3,none⟩ v3).setCell ⟨r,4,none⟩ v4) (some r):=
 ⟨aF (aF (aF (aF (aF h _) _) _) _) _,aK (aK (aK (aK (aK (aJ _ _) _ _) _ _) _ _) _ _) _ _⟩
theorem flat5{vs:List Value}(h:∀(i:Nat)(u:Value),vs[i]?=some u→(cellsOf u).length=5):∀(i j:Nat)(u:Value),vs[i]?=some u→j<5→(vs.flatMap cellsOf)[i * 5+j]?=(cellsOf u)[j]?:=by
 induction vs with
 |nil=>intro i j u hu;simp at hu
 |cons v r ih=>
  intro i j u hu hj
  rw[List.flatMap_cons]
  have hv:=h 0 v rfl
  cases i with
  |zero=>
   simp at hu;subst hu
   rw[gL (by omega)];simp
  |succ i=>
   rw[gM (by omega),hv,show (i+1) * 5+j-5=i * 5+j by omega]
   exact ih (fun i u hu=>h (i+1) u hu) i j u (by simpa using hu) hj
theorem tm_len{w:World}{S:Nat→Prop}{t:Tm}{v:Value}(h:dX w S t v):(cellsOf v).length=5:=by
 cases h;rfl
theorem nO{w:World}{S:Nat→Prop}{P:Tm→Value→Prop}{A:Option Addr}{acc:List Tm}(hP:∀t v,P t v→∃S',dX w S' t v)(h:aO P w S 5 A acc)(i:Nat)(hi:i<acc.length):
  ∃g o op nm nd wA wn wc kA kn kc,A=some ⟨g,o,none⟩∧S g∧P acc[i] (.agg #[.int .i64 op,.string nm,.int .i64 nd,.slice wA wn wc,.slice kA kn kc])∧w.cell? ⟨g,o+i * 5,none⟩=some (.int .i64 op)∧w.cell? ⟨g,o+i * 5+1,none⟩=some (.string nm)∧
   w.cell? ⟨g,o+i * 5+2,none⟩=some (.int .i64 nd)∧w.cell? ⟨g,o+i * 5+3,none⟩=some (.slice wA wn wc)∧w.cell? ⟨g,o+i * 5+4,none⟩=some (.slice kA kn kc):=by
 obtain⟨vs,h1,h2,h3⟩:=h
 have hl:∀(i:Nat)(u:Value),vs[i]?=some u→(cellsOf u).length=5:=by
  intro i u hu
  have hi:=(List.getElem?_eq_some_iff.1 hu).1
  obtain⟨S',hp⟩:=hP _ _ (h3 i (acc[i]'(by omega)) u (dD _) hu)
  exact tm_len hp
 have hp:=h3 i acc[i] (vs[i]'(by omega)) (dD hi) (dD _)
 obtain⟨S',ht⟩:=hP _ _ hp
 obtain⟨op,nm,nd,wA,wn,wc,kA,kn,kc,hv⟩:=ht.form
 obtain⟨g,o,hA,hS,hc⟩:=h2.cells (by omega)
 rw[hv] at hp
 have hvi:vs[i]?=some (.agg #[.int .i64 op,.string nm,.int .i64 nd,.slice wA wn wc,.slice kA kn kc]):=by rw[dD (by omega),hv]
 have k:=fun j (hj:j<5) u (hu:[.int .i64 op,.string nm,.int .i64 nd,.slice wA wn wc,.slice kA kn kc][j]?=some u)=>hc (i * 5+j) u ((flat5 hl i j _ hvi hj).trans hu)
 exact⟨g,o,op,nm,nd,wA,wn,wc,kA,kn,kc,hA,hS,hp,k 0 (by decide) _ rfl,k 1 (by decide) _ rfl,k 2 (by decide) _ rfl,k 3 (by decide) _ rfl,k 4 (by decide) _ rfl⟩
theorem qR{fn:Func}{slot:Nat}{R:Ending→World→Prop}{a:Act}{W:World}{r:Nat}{op:Int}{nm:ByteArray}{nd:Int}{wA:Option Addr}{wn wc:Nat}{kA:Option Addr}{kn kc:Nat}(hres:fn.results=#[.cell slot 26])(hp:a.tmps.getD slot undef=.pointer (some ⟨r,0,none⟩))(hd:a.defers=[])
  (hblk:W.heap[r]?=some (.cells #[.int .i64 op,.string nm,.int .i64 nd,.slice wA wn wc,.slice kA kn kc] 26 (0,0))) (hR:R (.returned (.agg #[.int .i64 op,.string nm,.int .i64 nd,.slice wA wn wc,.slice kA kn kc])) W):bodyPost prog fn R .ret a W:=by
 obtain⟨c0,c1,c2,c3,c4,-⟩:=uL hblk
 refine bodyPost_ret (v:=.agg #[.int .i64 op,.string nm,.int .i64 nd,.slice wA wn wc,.slice kA kn kc]) ?_ hd hR
 have hp':a.tmps[slot]?.getD undef=.pointer (some ⟨r,0,none⟩):=by simpa using hp
 simp[results,hres,hp',go_sem,c0,c1,c2,c3,c4]
end
section
open Go.RowKit
structure nZ(w:World)(b R T base:Nat)(n:Int)(kids:List Tm)(ws:List Int)(wV kV:Value)(wr:World):Prop where
  hR:wr.heap[R]?=some (.cells #[.int .i64 0,.string ⟨#[]⟩,.int .i64 0,.slice none 0 0,.slice none 0 0] 26 (0,0))
  hT:wr.heap[T]?=some (.cells #[.int .i64 2,.string ⟨#[]⟩,.int .i64 n,wV,kV] 26 (0,0))
  hk:dZ dX wr (fun g=>base≤g∧some g≠wV.ownBlock) base 26 5 kV kids
  hw:wr.ownsRow base 3 1 wV ws.length (bY ws)
  hd:wV.ownBlock=none∨wV.ownBlock≠kV.ownBlock
  bR:b<R
  RT:R<T
  Tb:T<base
  sz:base≤wr.heap.size
  wR:w.heap.size=R
  fr:w.grownBy wr (some b)
section
variable {w:World} {b R T base:Nat} {n:Int} {kids:List Tm} {ws:List Int} {wV kV:Value} {wr wr':World}
theorem nZ.call(h:nZ w b R T base n kids ws wV kV wr)(hg:wr.grownBy wr' (some b)):nZ w b R T base n kids ws wV kV wr' where
  hR:=ay hg h.hR (by have:=h.bR;omega)
  hT:=ay hg h.hT (by have:=h.bR;have:=h.RT;omega)
  hk:=h.hk.grown oG hg (by have:=h.bR;have:=h.RT;have:=h.Tb;omega) (fun g hg=>by have:=h.bR;have:=h.RT;have:=h.Tb;omega)
  hw:=gu h.hw hg (by have:=h.bR;have:=h.RT;have:=h.Tb;omega)
  hd:=h.hd
  bR:=h.bR
  RT:=h.RT
  Tb:=h.Tb
  sz:=cK h.sz hg.size
  wR:=h.wR
  fr:=au h.fr hg
structure KidMem(w:World)(b R T base:Nat)(n:Int)(kids:List Tm)(ws:List Int)(wV kV kV':Value)(wr:World):Prop where
  hR:wr.heap[R]?=some (.cells #[.int .i64 0,.string ⟨#[]⟩,.int .i64 0,.slice none 0 0,.slice none 0 0] 26 (0,0))
  hT:wr.heap[T]?=some (.cells #[.int .i64 2,.string ⟨#[]⟩,.int .i64 n,wV,kV] 26 (0,0))
  hk:dZ dX wr (fun g=>base≤g∧some g≠wV.ownBlock) base 26 5 kV' kids
  hw:wr.ownsRow base 3 1 wV ws.length (bY ws)
  hd:wV.ownBlock=none∨wV.ownBlock≠kV'.ownBlock
  bR:b<R
  RT:R<T
  Tb:T<base
  sz:base≤wr.heap.size
  wR:w.heap.size=R
  fr:w.grownBy wr (some b)
theorem nZ.drew(h:nZ w b R T base n kids ws wV kV wr):nZ w b R T base n kids ws wV kV wr.drew:=h.call (aM (jQ _ _).drew)
theorem Gu{Wa W5:World}{v:Value}{g m e size:Nat}{xs:List Value}{o:Obj}(hg:Wa.grownBy W5 v.ownBlock)(hown:Wa.ownsRow base e size v m xs)(hb:g<base)(h:Wa.heap[g]?=some o):W5.heap[g]?=some o:=
  (hg.block g (jS h) (fun e=>by have:=(hown.lt g e.symm).1;omega)).trans h
theorem nZ.push{W4 W5:World}{o:Obj}{v' u:Value}{t:Tm}{vs news:List Value}{S:Nat→Prop}(h:nZ w b R T base n kids ws wV kV W4)(l:vs.length=kids.length)(hn:cellsOf u=news)
    (hall:∀(i:Nat)(x:Tm)(u:Value),kids[i]?=some x→vs[i]?=some u→dX W4 (fun g=>(base≤g∧some g≠wV.ownBlock)∧some g≠kV.ownBlock) x u)
    (ht:dX W4 S t u) (hnew:∀g,S g→base≤g∧some g≠wV.ownBlock∧some g≠kV.ownBlock)
    (hown:W5.ownsRow base 26 5 v' (kids.length+1) (vs.flatMap cellsOf++news)) (hg:(W4.alloc o).grownBy W5 kV.ownBlock) (hv:v'.ownBlock=kV.ownBlock∨v'.ownBlock=some (W4.alloc o).heap.size):
    KidMem w b R T base n (kids++[t]) ws wV kV v' W5:=by
  have hga:W4.grownBy W5 kV.ownBlock:=au (aM ((jQ _ _).alloc (aP _) o)) hg
  obtain⟨vs0,l0,hown0,_⟩:=h.hk
  refine⟨Gu hga hown0 (by have:=h.RT;have:=h.Tb;omega) h.hR,Gu hga hown0 h.Tb h.hT,?_,?_,?_,h.bR,h.RT,h.Tb,cK h.sz hga.size,h.wR,?_⟩
  · exact dZ.push l hall oG hn (ht.mono (fun g hg _=>⟨⟨(hnew g hg).1,(hnew g hg).2.1⟩,(hnew g hg).2.2⟩)) hown hga (by simpa using hv)
  · refine jl h.hw (fun g e=>hga.block g (h.hw.lt g e).2 (fun e2=>?_))
    rcases h.hd with hd|hd
    · rw[hd] at e;simp at e
    · exact hd (by rw[e,e2])
  · rcases h.hd with hd|hd
    · exact Or.inl hd
    · right
      intro e
      rcases hv with hv|hv
      · exact hd (by rw[e,hv])
      · rw[hv] at e
        have:=(h.hw.lt _ e).2
        simp at this
        omega
  · refine⟨hga.os.trans h.fr.os,hga.tape.trans h.fr.tape,hga.output.trans h.fr.output,cK h.fr.size hga.size,fun g hg1 hne=>?_⟩
    rw[hga.block g (bZ hg1 h.fr.size) (fun e=>by have:=(hown0.lt g e.symm).1;have:=h.wR;have:=h.RT;have:=h.Tb;omega)]
    exact h.fr.block g hg1 hne
theorem KidMem.store{kV':Value}(h:KidMem w b R T base n kids ws wV kV kV' wr):nZ w b R T base n kids ws wV kV' (wr.setCell ⟨T,4,none⟩ kV'):=by
  have hg:wr.grownBy (wr.setCell ⟨T,4,none⟩ kV') (some T):=aK (aJ _ _) _ _
  refine⟨ay hg h.hR (by have:=h.RT;omega),aF h.hT _,h.hk.grown oG hg h.Tb (fun g hg=>by have:=h.Tb;omega),gu h.hw hg h.Tb,h.hd,h.bR,h.RT,h.Tb,?_,h.wR,?_⟩
  · exact cK h.sz hg.size
  · exact aX h.fr (below_grown hg (aP _) (by have:=h.Tb;have:=h.sz;omega)) (by have:=h.wR;have:=h.RT;omega)
theorem nZ.tm(h:nZ w b R T base n kids ws wV kV wr)(heavy:Bool)(_hl:ws.length=kids.length):∃wA wn wc kA kc,(bif heavy then wV else .slice none 0 0)=.slice wA wn wc∧kV=.slice kA kids.length kc∧
    dX wr (base≤·) (.mk 2 (bs []) n (if heavy then ws else []) kids) (.agg #[.int .i64 2,.string (bs []),.int .i64 n,.slice wA wn wc,.slice kA kids.length kc]):=by
  obtain⟨kA,kc,rfl,hkc,vs,h1,h2,h3⟩:=h.hk.list oG
  obtain⟨wA,wc,hwV,hwc⟩:=aD h.hw
  cases heavy
  · exact⟨none,0,0,kA,kc,rfl,rfl,.mk 2 (bs []) n [] kids none kA 0 kc vs (.empty _ _ _ _) (aP _) h2 hkc h1 (fun i t v ht hv=>(h3 i t v ht hv).mono (fun g hg _=>hg.1))⟩
  · refine⟨wA,ws.length,wc,kA,kc,hwV,rfl,.mk 2 (bs []) n ws kids wA kA wc kc vs (ak.own (e:=3) (c:=wc) ?_) hwc h2 hkc h1 (fun i t v ht hv=>(h3 i t v ht hv).mono (fun g hg _=>hg.1))⟩
    have:=h.hw
    rw[hwV] at this
    exact this
end
end
section
open Go.RowKit
open _root_.Go.Proofs.Tryz
def Deep(L:cB)(K:St→Prop)(s:St):Prop:=s.err=0→∀t:St,t.pos≤L.length→(t.err=0→s.pos+1≤t.pos)→K t
theorem Deep.ahead{L:cB}{K:St→Prop}{s t:St}(h:Deep L K s)(ha:Ahead L s t):Deep L K t:=fun he u hu hp=>h (ha.ok he) u hu (fun e=>by have:=hp e;have:=ha.le;omega)
theorem yu{x:ByteArray}{r:Int}(hr:(pq x:Int)=r)(w:World)(k:Nat):
  Calls prog 215 #[.string x] (w.drewN k) fun e w''=>e=.returned (.int .i64 r)∧∃m,w''=w.drewN m:=by
 subst hr
 exact (tX x _).mono fun _ _ h=>⟨h.1,k,h.2.symm⟩
theorem isFun_at{L:cB}{s:St}(h0:s.err=0)(hp:s.pos<L.length):CS L s=((L[s.pos]'hp).1.kind==1&&pq (L[s.pos]'hp).1.text != 0):=by unfold CS;rw[G7 h0 hp]
theorem Dr{L:cB}{pt:St→Tm × St}{s:St}(h:isInt L s=false)(h2:isW L (⟨#[40]⟩:ByteArray) s=false)(h3:CS L s=true)(h5:pq (txt L s)≠5):nL L pt s=(.mk (pq (txt L s)) (tQ L (need L (⟨#[40]⟩:ByteArray) (adv s))).1 0 [] [],need L (⟨#[41]⟩:ByteArray) (tQ L (need L (⟨#[40]⟩:ByteArray) (adv s))).2):=by
 unfold nL;rw[h,if_neg (by simp),h2,if_neg (by simp),if_pos h3,if_neg h5]
end
section
open Go.RowKit
def Fuel(L:cB)(f:Nat)(s:St):Prop:=s.err=0→L.length+1≤f+s.pos
theorem Fuel.ahead{L:cB}{f:Nat}(s t:St)(h:Fuel L f s)(ha:Ahead L s t):Fuel L f t:=fun e=>by have:=h (ha.ok e);have:=ha.le;omega
end
section
open Go.RowKit
open _root_.Go.Proofs.Tryz
theorem row6{w:World}{b:Nat}{v0 v1 v2 v3 v4 v5:Value}{t:TypeId}(h:w.heap[b]?=some (.cells #[v0,v1,v2,v3,v4,v5] t (0,0))):
  w.cell? ⟨b,0,none⟩=some v0∧w.cell? ⟨b,1,none⟩=some v1∧w.cell? ⟨b,2,none⟩=some v2∧w.cell? ⟨b,3,none⟩=some v3∧w.cell? ⟨b,4,none⟩=some v4∧w.cell? ⟨b,5,none⟩=some v5∧∀i,w.frozen? ⟨b,i,none⟩=false:=
 ⟨(j5 _ _ _ _ _ _ h).trans rfl,(j5 _ _ _ _ _ _ h).trans rfl,(j5 _ _ _ _ _ _ h).trans rfl,(j5 _ _ _ _ _ _ h).trans rfl,(j5 _ _ _ _ _ _ h).trans rfl,(j5 _ _ _ _ _ _ h).trans rfl,fun i=>jT _ _ i _ _ h⟩
theorem set6{w:World}{r:Nat}{o0 o1 o2 o3 o4 o5:Value}{t:TypeId}(h:w.heap[r]?=some (.cells #[o0,o1,o2,o3,o4,o5] t (0,0)))(v0 v1 v2 v3 v4 v5:Value):
  ((((((w.setCell ⟨r,0,none⟩ v0).setCell ⟨r,1,none⟩ v1).setCell ⟨r,2,none⟩ v2).setCell ⟨r,3,none⟩ v3).setCell ⟨r,4,none⟩ v4).setCell ⟨r,5,none⟩ v5).heap[r]?=some (.cells #[v0,v1,v2,v3,v4,v5] t (0,0))∧
   w.grownBy ((((((w.setCell ⟨r,0,none⟩ v0).setCell ⟨r,1,none⟩ v1).setCell ⟨r,2,none⟩ v2).setCell ⟨r,3,none⟩ v3).setCell ⟨r,4,none⟩ v4).setCell ⟨r,5,none⟩ v5) (some r):=
 ⟨aF (aF (aF (aF (aF (aF h _) _) _) _) _) _,aK (aK (aK (aK (aK (aK (aJ _ _) _ _) _ _) _ _) _ _) _ _) _ _⟩
theorem ret_fault{fn:Func}{slot:Nat}{R:Ending→World→Prop}{a:Act}{W:World}{r:Nat}{op:Int}{nm:ByteArray}{by_ cr:Int}{bA:Option Addr}{bn bc:Nat}{cA:Option Addr}{cn cc:Nat}(hres:fn.results=#[.cell slot 68])(hp:a.tmps.getD slot undef=.pointer (some ⟨r,0,none⟩))(hd:a.defers=[])
  (hblk:W.heap[r]?=some (.cells #[.int .i64 op,.string nm,.int .i64 by_,.int .i64 cr,.slice bA bn bc,.slice cA cn cc] 68 (0,0))) (hR:R (.returned (.agg #[.int .i64 op,.string nm,.int .i64 by_,.int .i64 cr,.slice bA bn bc,.slice cA cn cc])) W):bodyPost prog fn R .ret a W:=by
 obtain⟨c0,c1,c2,c3,c4,c5,-⟩:=row6 hblk
 refine bodyPost_ret (v:=.agg #[.int .i64 op,.string nm,.int .i64 by_,.int .i64 cr,.slice bA bn bc,.slice cA cn cc]) ?_ hd hR
 have hp':a.tmps[slot]?.getD undef=.pointer (some ⟨r,0,none⟩):=by simpa using hp
 simp[results,hres,hp',go_sem,c0,c1,c2,c3,c4,c5]
def FPost(b:Nat)(A:Option Addr)(n c:Nat)(L:cB)(ln:Nat→Nat)(w:World)(r:Ft × St)(e:Ending)(w':World):Prop:=
 ∃op nm by_ cr bA bn bc cA cn cc,e=.returned (.agg #[.int .i64 op,.string nm,.int .i64 by_,.int .i64 cr,.slice bA bn bc,.slice cA cn cc])∧ng w' (w.heap.size≤·) r.1 (.agg #[.int .i64 op,.string nm,.int .i64 by_,.int .i64 cr,.slice bA bn bc,.slice cA cn cc])∧PSt b A n c L ln r.2 w'∧w.grownBy w' (some b)
theorem fault_thr{L:cB}{x:Int}{s:St}(h1:isW L (⟨#[110,111,110,101]⟩:ByteArray) s=false)(h2:isW L (⟨#[116,104,114,101,115,104,111,108,100]⟩:ByteArray) s=true):kN L x s=(⟨2,bs [],(uN L (taken L (⟨#[116,104,114,101,115,104,111,108,100]⟩:ByteArray) s)).1,(uN L (uN L (taken L (⟨#[116,104,114,101,115,104,111,108,100]⟩:ByteArray) s)).2).1,[],[]⟩,(uN L (uN L (taken L (⟨#[116,104,114,101,115,104,111,108,100]⟩:ByteArray) s)).2).2):=by
 unfold kN taken;rw[h1,if_neg (by simp),if_pos h2,if_pos h2]
theorem ft_plain(w:World)(S:Nat→Prop)(op:Int)(nm:ByteArray)(x y:Int):ng w S ⟨op,nm,x,y,[],[]⟩ (.agg #[.int .i64 op,.string nm,.int .i64 x,.int .i64 y,.slice none 0 0,.slice none 0 0]):=
 ⟨none,0,none,0,rfl,.empty _ _ _ _,aP _,.empty _ _ _ _,aP _⟩
theorem fault_b{b:Nat}{A:Option Addr}{n c:Nat}{L:cB}{ln:Nat→Nat}{s:St}(w:World)(h:PSt b A n c L ln s w)(h1:isW L (⟨#[110,111,110,101]⟩:ByteArray) s=false)(h2:isW L (⟨#[116,104,114,101,115,104,111,108,100]⟩:ByteArray) s=true):
  Calls prog 110 #[.pointer (some ⟨b,0,none⟩)] w (FPost b A n c L ln w (kN L 4 s)):=by
 have hbs:=h.lt
 have HH:=jI h
 have Hh1:=jI h1
 have Hh2:=jI h2
 clear h h1 h2
 go_enter func110,ntmps110
 go_wp2_with fail
 obtain⟨W0,hW0⟩:=kE (w.alloc (.cells #[.int .i64 0,.string ⟨#[]⟩,.int .i64 0,.int .i64 0,.slice none 0 0,.slice none 0 0] 68))
 have hb0:Below w.heap.size w W0:=by rw[hW0];exact (jQ _ _).alloc (aP _) _
 have hs0:w.heap.size<W0.heap.size:=by rw[hW0];simp
 have hr0:W0.heap[w.heap.size]?=some (.cells #[.int .i64 0,.string ⟨#[]⟩,.int .i64 0,.int .i64 0,.slice none 0 0,.slice none 0 0] 68 (0,0)):=by rw[hW0];exact jR w _
 rw[←hW0]
 have HR0:=jI hr0
 clear hW0 hr0
 have q0:=HH.out.below hb0
 have gW0:=aJ W0 (some b)
 have z0:=gW0.size
 have ht:=eY (⟨#[110,111,110,101]⟩:ByteArray) W0 q0
 rw[Hh1.out,iG Hh1.out] at ht
 refine ht.mono ?_
 rintro e W1 ⟨rfl,q1,g1⟩
 have gW1:=au gW0 g1
 have z1:=gW1.size
 clear ht
 go_wp2_with fail
 have ht:=eY (⟨#[116,104,114,101,115,104,111,108,100]⟩:ByteArray) W1 q1
 rw[Hh2.out] at ht
 refine ht.mono ?_
 rintro e W2 ⟨rfl,q2,g2⟩
 have gW2:=au gW1 g2
 have z2:=gW2.size
 clear ht
 go_wp2_with fail
 refine (yX W2 q2).mono ?_
 rintro e W3 ⟨rfl,q3,g3⟩
 have gW3:=au gW2 g3
 have z3:=gW3.size
 go_wp2_with fail
 generalize hn1:(uN L (taken L (⟨#[116,104,114,101,115,104,111,108,100]⟩:ByteArray) s)).1=n1
 have HN1:=jI hn1
 clear hn1
 obtain⟨Wb,hWb⟩:=kE (W3.alloc (.cells #[.int .i64 2,.string ⟨#[]⟩,.int .i64 n1,.int .i64 0,.slice none 0 0,.slice none 0 0] 68))
 have hbb:Below W3.heap.size W3 Wb:=by rw[hWb];exact (jQ _ _).alloc (aP _) _
 have hTb:Wb.heap[W3.heap.size]?=some (.cells #[.int .i64 2,.string ⟨#[]⟩,.int .i64 n1,.int .i64 0,.slice none 0 0,.slice none 0 0] 68 (0,0)):=by rw[hWb];exact jR W3 _
 have hsb:W3.heap.size<Wb.heap.size:=by rw[hWb];simp
 rw[←hWb]
 have HTb:=jI hTb
 clear hWb hTb
 have qb:=q3.below hbb
 have gWb:=au gW3 (aM hbb)
 refine (yX Wb qb).mono ?_
 rintro e W9 ⟨rfl,q9,g9⟩
 have gW9:=au gWb g9
 have z9:=g9.size
 have hT9:=ay g9 HTb.out (by omega)
 generalize hn2:(uN L (uN L (taken L (⟨#[116,104,114,101,115,104,111,108,100]⟩:ByteArray) s)).2).1=n2
 have HN2:=jI hn2
 clear hn2
 obtain⟨t0,t1,t2,t3,t4,t5,tf⟩:=row6 hT9
 have tf3:=tf 3
 clear tf
 have hgx:W9.grownBy (W9.setCell ⟨W3.heap.size,3,none⟩ (.int .i64 n2)) (some W3.heap.size):=aK (aJ _ _) _ _
 have hTx:=aF (i:=3) hT9 (.int .i64 n2)
 have hRx:=ay gW9 HR0.out (by omega)
 obtain⟨r0,r1,r2,r3,r4,r5,rf⟩:=row6 hRx
 have rf0:=rf 0
 have rf1:=rf 1
 have rf2:=rf 2
 have rf3:=rf 3
 have rf4:=rf 4
 have rf5:=rf 5
 have HTx:=jI hTx
 have HRx:=jI hRx
 have hTs:=jS hT9
 clear rf hTx hRx hT9
 have HE:=jI (fault_thr (x:=4) Hh1.out Hh2.out)
 rw[HN1.out,HN2.out] at HE
 go_wp2
 obtain⟨hbR,hgR⟩:=set6 (ay hgx HRx.out (by omega)) (.int .i64 2) (.string (bs [])) (.int .i64 n1) (.int .i64 n2) (.slice none 0 0) (.slice none 0 0)
 refine ret_fault rfl rfl rfl hbR ?_
 rw[HE.out]
 have hsx:=hgx.size
 exact⟨_,_,_,_,_,_,_,_,_,_,rfl,ft_plain _ _ _ _ _ _,(q9.other (below_grown hgx (aP _) (by omega)) (by omega)).other (below_grown hgR (aP _) (by omega)) hbs,aX (aX (au (aM hb0) gW9) (below_grown hgx (aP _) (by omega)) (by omega)) (below_grown hgR (aP _) (by omega)) (aP _)⟩
theorem yh{w:World}{b:Nat}{v0 v1 v2 v3 v4 v5 v6 v7 v8 v9 v10 v11 v12 v13 v14 v15 v16 v17 v18 v19 v20 v21:Value}{t:TypeId}(h:w.heap[b]?=some (.cells #[v0,v1,v2,v3,v4,v5,v6,v7,v8,v9,v10,v11,v12,v13,v14,v15,v16,v17,v18,v19,v20,v21] t (0,0))):
  w.cell? ⟨b,0,none⟩=some v0∧w.cell? ⟨b,1,none⟩=some v1∧w.cell? ⟨b,2,none⟩=some v2∧w.cell? ⟨b,3,none⟩=some v3∧w.cell? ⟨b,4,none⟩=some v4∧w.cell? ⟨b,5,none⟩=some v5∧w.cell? ⟨b,6,none⟩=some v6∧w.cell? ⟨b,7,none⟩=some v7∧w.cell? ⟨b,8,none⟩=some v8∧w.cell? ⟨b,9,none⟩=some v9∧w.cell? ⟨b,10,none⟩=some v10∧w.cell? ⟨b,11,none⟩=some v11∧w.cell? ⟨b,12,none⟩=some v12∧w.cell? ⟨b,13,none⟩=some v13∧w.cell? ⟨b,14,none⟩=some v14∧w.cell? ⟨b,15,none⟩=some v15∧w.cell? ⟨b,16,none⟩=some v16∧w.cell? ⟨b,17,none⟩=some v17∧w.cell? ⟨b,18,none⟩=some v18∧w.cell? ⟨b,19,none⟩=some v19∧w.cell? ⟨b,20,none⟩=some v20∧w.cell? ⟨b,21,none⟩=some v21∧∀i,w.frozen? ⟨b,i,none⟩=false:=
 ⟨(j5 _ _ _ _ _ _ h).trans rfl,(j5 _ _ _ _ _ _ h).trans rfl,(j5 _ _ _ _ _ _ h).trans rfl,(j5 _ _ _ _ _ _ h).trans rfl,(j5 _ _ _ _ _ _ h).trans rfl,(j5 _ _ _ _ _ _ h).trans rfl,(j5 _ _ _ _ _ _ h).trans rfl,(j5 _ _ _ _ _ _ h).trans rfl,(j5 _ _ _ _ _ _ h).trans rfl,(j5 _ _ _ _ _ _ h).trans rfl,(j5 _ _ _ _ _ _ h).trans rfl,(j5 _ _ _ _ _ _ h).trans rfl,(j5 _ _ _ _ _ _ h).trans rfl,(j5 _ _ _ _ _ _ h).trans rfl,(j5 _ _ _ _ _ _ h).trans rfl,(j5 _ _ _ _ _ _ h).trans rfl,(j5 _ _ _ _ _ _ h).trans rfl,(j5 _ _ _ _ _ _ h).trans rfl,(j5 _ _ _ _ _ _ h).trans rfl,(j5 _ _ _ _ _ _ h).trans rfl,(j5 _ _ _ _ _ _ h).trans rfl,(j5 _ _ _ _ _ _ h).trans rfl,fun i=>jT _ _ i _ _ h⟩
structure ko(b d:Nat)(w w':World):Prop where
 os:w'.os=w.os
 tape:w'.tape=w.tape
 output:w'.output=w.output
 size:w.heap.size≤w'.heap.size
 block:∀k,k<w.heap.size→k≠b→k≠d→w'.heap[k]?=w.heap[k]?
theorem ko.refl(b d:Nat)(w:World):ko b d w w:=⟨rfl,rfl,rfl,aP _,fun _ _ _ _=>rfl⟩
theorem ko.call{b d:Nat}{w W W':World}(h:ko b d w W)(hg:W.grownBy W' (some b)):ko b d w W':=
 ⟨hg.os.trans h.os,hg.tape.trans h.tape,hg.output.trans h.output,cK h.size hg.size,fun k hk h1 h2=>(hg.block k (bZ hk h.size) (fun e=>h1 (by injection e))).trans (h.block k hk h1 h2)⟩
theorem ko.set{b d:Nat}{w W W':World}(h:ko b d w W)(hg:W.grownBy W' (some d)):ko b d w W':=
 ⟨hg.os.trans h.os,hg.tape.trans h.tape,hg.output.trans h.output,cK h.size hg.size,fun k hk h1 h2=>(hg.block k (bZ hk h.size) (fun e=>h2 (by injection e))).trans (h.block k hk h1 h2)⟩
theorem cfg_crash{L:cB}{d:Dc}{s:St}(h:isW L (⟨#[99,114,97,115,104]⟩:ByteArray) s=true):
  pCfg L d s=({ d with proto:=(⟨#[99,114,97,115,104]⟩:ByteArray),read:=(nC L (need L (⟨#[114,101,97,100]⟩:ByteArray) (taken L (⟨#[99,114,97,115,104]⟩:ByteArray) s))).1,write:=(nC L (need L (⟨#[119,114,105,116,101]⟩:ByteArray) (nC L (need L (⟨#[114,101,97,100]⟩:ByteArray) (taken L (⟨#[99,114,97,115,104]⟩:ByteArray) s))).2)).1,use:=(bG L (need L (⟨#[102,97,117,108,116,115]⟩:ByteArray) (nC L (need L (⟨#[119,114,105,116,101]⟩:ByteArray) (nC L (need L (⟨#[114,101,97,100]⟩:ByteArray) (taken L (⟨#[99,114,97,115,104]⟩:ByteArray) s))).2)).2)).1 },(bG L (need L (⟨#[102,97,117,108,116,115]⟩:ByteArray) (nC L (need L (⟨#[119,114,105,116,101]⟩:ByteArray) (nC L (need L (⟨#[114,101,97,100]⟩:ByteArray) (taken L (⟨#[99,114,97,115,104]⟩:ByteArray) s))).2)).2)).2):=by
 have e:taken L (⟨#[99,114,97,115,104]⟩:ByteArray) s=adv s:=by unfold taken;rw[if_pos h]
 rw[e]
 unfold pCfg
 simp only[h,if_true]
def CfgPost(b d:Nat)(A:Option Addr)(n c:Nat)(L:cB)(ln:Nat→Nat)(w:World)(kd li:Int)(nm:ByteArray)(r:Dc × St)(e:Ending)(w':World):Prop:=
 ∃o2 m2 d2 wA2 wn2 wc2 kA2 kn2 kc2 o3 m3 d3 wA3 wn3 wc3 kA3 kn3 kc3,e=.returned (.tuple #[])∧w'.heap[d]?=some (.cells #[.int .i64 kd,.int .i64 li,.string nm,.slice none 0 0,.slice none 0 0,.int .i64 0,.string ⟨#[]⟩,.int .i64 0,.slice none 0 0,.slice none 0 0,.string r.1.proto,.int .i64 o2,.string m2,.int .i64 d2,.slice wA2 wn2 wc2,.slice kA2 kn2 kc2,.int .i64 o3,.string m3,.int .i64 d3,.slice wA3 wn3 wc3,.slice kA3 kn3 kc3,.string r.1.use] 35 (0,0))∧
  dX w' (w.heap.size≤·) r.1.read (.agg #[.int .i64 o2,.string m2,.int .i64 d2,.slice wA2 wn2 wc2,.slice kA2 kn2 kc2])∧dX w' (w.heap.size≤·) r.1.write (.agg #[.int .i64 o3,.string m3,.int .i64 d3,.slice wA3 wn3 wc3,.slice kA3 kn3 kc3])∧PSt b A n c L ln r.2 w'∧ko b d w w'
theorem cZ:(prog.info? 35).map (·.size)=some 22:=by kernel_rfl
theorem Cc(w:World)(g:Nat)(cs:Array Value):w.grownBy (w.setRow g cs) (some g):=
 ⟨rfl,rfl,rfl,Nat.le_of_eq (size_setRow w g cs).symm,fun k _ hne=>setRow_other w g k cs (fun e=>hne (by rw[e]))⟩
def storeD(p v:Value):Sem Unit:=Instr.storeAt 35 p v
theorem FD(ρ:Operand→Value)(dst:Option Tmp)(x y:Operand)(ty:TypeId)(pos:String)(after:Array Edge)(guard:Option (Nat × Bool)):
  execOp ρ { dst,op:=.store 35 x y,type:=ty,pos,after,guard }=(do storeD (ρ x) (ρ y);pure .skip):=rfl
theorem Ht(w:World)(c:Array Value)(hc:c.size=22)(li:Int):
  (storeD (.pointer (some ⟨w.heap.size,0,none⟩)) (.agg #[.int .i64 0,.int .i64 li,.string ⟨#[]⟩,.slice none 0 0,.slice none 0 0,.int .i64 0,.string ⟨#[]⟩,.int .i64 0,.slice none 0 0,.slice none 0 0,.string ⟨#[]⟩,.int .i64 0,.string ⟨#[]⟩,.int .i64 0,.slice none 0 0,.slice none 0 0,.int .i64 0,.string ⟨#[]⟩,.int .i64 0,.slice none 0 0,.slice none 0 0,.string ⟨#[]⟩])).run prog ((w.alloc (.cells c 35)).drew)=.ok () ((w.alloc (.cells #[.int .i64 0,.int .i64 li,.string ⟨#[]⟩,.slice none 0 0,.slice none 0 0,.int .i64 0,.string ⟨#[]⟩,.int .i64 0,.slice none 0 0,.slice none 0 0,.string ⟨#[]⟩,.int .i64 0,.string ⟨#[]⟩,.int .i64 0,.slice none 0 0,.slice none 0 0,.int .i64 0,.string ⟨#[]⟩,.int .i64 0,.slice none 0 0,.slice none 0 0,.string ⟨#[]⟩] 35)).drew):=by
 have h:=run_storeVar_row (P:=prog) ((w.alloc (.cells c 35)).drew) w.heap.size 35 35 c #[.int .i64 0,.int .i64 li,.string ⟨#[]⟩,.slice none 0 0,.slice none 0 0,.int .i64 0,.string ⟨#[]⟩,.int .i64 0,.slice none 0 0,.slice none 0 0,.string ⟨#[]⟩,.int .i64 0,.string ⟨#[]⟩,.int .i64 0,.slice none 0 0,.slice none 0 0,.int .i64 0,.string ⟨#[]⟩,.int .i64 0,.slice none 0 0,.slice none 0 0,.string ⟨#[]⟩] (jR w _) cZ (by rw[hc];rfl) (by simp[Value.oneCell'])
 have e:((w.alloc (.cells c 35)).drew).setRow w.heap.size #[.int .i64 0,.int .i64 li,.string ⟨#[]⟩,.slice none 0 0,.slice none 0 0,.int .i64 0,.string ⟨#[]⟩,.int .i64 0,.slice none 0 0,.slice none 0 0,.string ⟨#[]⟩,.int .i64 0,.string ⟨#[]⟩,.int .i64 0,.slice none 0 0,.slice none 0 0,.int .i64 0,.string ⟨#[]⟩,.int .i64 0,.slice none 0 0,.slice none 0 0,.string ⟨#[]⟩]=(w.alloc (.cells #[.int .i64 0,.int .i64 li,.string ⟨#[]⟩,.slice none 0 0,.slice none 0 0,.int .i64 0,.string ⟨#[]⟩,.int .i64 0,.slice none 0 0,.slice none 0 0,.string ⟨#[]⟩,.int .i64 0,.string ⟨#[]⟩,.int .i64 0,.slice none 0 0,.slice none 0 0,.int .i64 0,.string ⟨#[]⟩,.int .i64 0,.slice none 0 0,.slice none 0 0,.string ⟨#[]⟩] 35)).drew:=congrArg World.drew (World.setRow_alloc_new w c #[.int .i64 0,.int .i64 li,.string ⟨#[]⟩,.slice none 0 0,.slice none 0 0,.int .i64 0,.string ⟨#[]⟩,.int .i64 0,.slice none 0 0,.slice none 0 0,.string ⟨#[]⟩,.int .i64 0,.string ⟨#[]⟩,.int .i64 0,.slice none 0 0,.slice none 0 0,.int .i64 0,.string ⟨#[]⟩,.int .i64 0,.slice none 0 0,.slice none 0 0,.string ⟨#[]⟩] 35)
 rw[e] at h
 unfold storeD
 simp only[Instr.storeAt,Instr.sureAddr,Sem.run_bind,Sem.run_pure,Result.andThen]
 exact h
theorem bO(w:World){ops:Array Oper}{rest:List Oper}{o:Oper}{a:Act}{Q:Exit→Act→World→Prop}(hgd:o.guard=none)(hdst:o.dst=none)(x y:Operand)(ho:o.op=.store 35 x y)
  (g:Nat) (cells:Array Value) (hx:a.eval x=.pointer (some ⟨g,0,none⟩)) (hy:a.eval y=.agg cells) (old:Array Value) (hg:w.heap[g]?=some (.cells old 35 (0,0)))
  (hold:old.size=22) (hc:cells.size=22) (h1:cells.all (·.oneCell')=true) (h:∀w',w'.heap[g]?=some (.cells cells 35 (0,0))→w.grownBy w' (some g)→wpList prog ops Q rest a w'):wpList prog ops Q (o::rest) a w:=by
 refine wpList_store_row hgd 35 x y ho g cells hx hy 35 old hg (by rw[hc];exact cZ) (by rw[hold,hc]) h1 ?_
 rw[hdst]
 exact h _ (setRow_heap w g old cells _ _ hg) (Cc w g cells)
theorem gy(w:World){ops:Array Oper}{rest:List Oper}{o:Oper}{a:Act}{Q:Exit→Act→World→Prop}(hgd:o.guard=none)(x:Operand)(ho:o.op=.load 35 x)
  (g:Nat) (hx:a.eval x=.pointer (some ⟨g,0,none⟩)) (cells:Array Value) (hg:w.heap[g]?=some (.cells cells 35 (0,0))) (hc:cells.size=22) (h:wpList prog ops Q rest (a.put o.dst (.agg cells)) w):wpList prog ops Q (o::rest) a w:=
 wpList_load_row hgd 35 x ho g hx 35 cells (0,0) _ hg underlying35 rfl (by rw[hc];exact cZ) h
theorem Aj{fn:Func}{slot:Nat}{R:Ending→World→Prop}{a:Act}{W:World}{r:Nat}{cells:Array Value}(hres:fn.results=#[.cell slot 35])(hp:a.tmps.getD slot undef=.pointer (some ⟨r,0,none⟩))(hd:a.defers=[])
  (hblk:W.heap[r]?=some (.cells cells 35 (0,0))) (hc:cells.size=22) (hR:R (.returned (.agg cells)) W):bodyPost prog fn R .ret a W:=
 bodyPost_ret (results_cell_row hres a.tmps W r 35 cells (0,0) _ hp hblk underlying35 rfl (by rw[hc];exact cZ)) hd hR
def DPost(b:Nat)(A:Option Addr)(n c:Nat)(L:cB)(ln:Nat→Nat)(w:World)(r:Dc × St)(e:Ending)(w':World):Prop:=
 ∃v,e=.returned v∧dS w' (w.heap.size≤·) r.1 v∧PSt b A n c L ln r.2 w'∧w.grownBy w' (some b)
theorem pX(w:World)(S:Nat→Prop):dX w S .zero (.agg #[.int .i64 0,.string ⟨#[]⟩,.int .i64 0,.slice none 0 0,.slice none 0 0]):=dX.named w S 0 (bs [])
theorem dc_mk{w:World}{S:Nat→Prop}{d:Dc}{nA fA:Option Addr}{nc fc:Nat}{t0 t1 t2 t3 t4 r0 r1 r2 r3 r4 w0 w1 w2 w3 w4:Value}
  (h1:ak w S 1 nA d.names.length (d.names.map Value.string)) (h2:d.names.length≤nc) (h3:aO (ng w S) w S 6 fA d.faults) (h4:d.faults.length≤fc) (h5:dX w S d.term (.agg #[t0,t1,t2,t3,t4])) (h6:dX w S d.read (.agg #[r0,r1,r2,r3,r4])) (h7:dX w S d.write (.agg #[w0,w1,w2,w3,w4])):
  dS w S d (.agg #[.int .i64 d.kind,.int .i64 d.line,.string d.name,.slice nA d.names.length nc,.slice fA d.faults.length fc,t0,t1,t2,t3,t4,.string d.proto,r0,r1,r2,r3,r4,w0,w1,w2,w3,w4,.string d.use]):=
 ⟨nA,nc,fA,fc,_,_,_,by simp[Value.cells],h1,h2,h3,h4,h5,h6,h7⟩
theorem body_site{L:cB}{x:Int}{d:Dc}{s:St}(h1:isW L (⟨#[115,105,116,101]⟩:ByteArray) s=true):AA L x d s=pSite L d (taken L (⟨#[115,105,116,101]⟩:ByteArray) s):=by
 have e:taken L (⟨#[115,105,116,101]⟩:ByteArray) s=adv s:=by unfold taken;rw[if_pos h1]
 rw[e]
 unfold AA
 rw[if_pos h1]
theorem FU{L:cB}{x:Int}{d:Dc}{s:St}(h1:isW L (⟨#[115,105,116,101]⟩:ByteArray) s=false)(h2:isW L (⟨#[102,97,117,108,116,115]⟩:ByteArray) s=true):AA L x d s=Ay L x d (taken L (⟨#[102,97,117,108,116,115]⟩:ByteArray) s):=by
 have e:taken L (⟨#[102,97,117,108,116,115]⟩:ByteArray) s=adv s:=by unfold taken;rw[if_pos h2]
 rw[e]
 unfold AA
 rw[h1,if_neg (by simp),if_pos h2]
theorem FV{L:cB}{x:Int}{d:Dc}{s:St}(h1:isW L (⟨#[115,105,116,101]⟩:ByteArray) s=false)(h2:isW L (⟨#[102,97,117,108,116,115]⟩:ByteArray) s=false)(h3:isW L (⟨#[113,117,111,114,117,109]⟩:ByteArray) s=false)(h4:isW L (⟨#[99,111,110,102,105,103]⟩:ByteArray) s=true):AA L x d s=EM L d (taken L (⟨#[99,111,110,102,105,103]⟩:ByteArray) s):=by
 have e:taken L (⟨#[99,111,110,102,105,103]⟩:ByteArray) s=adv s:=by unfold taken;rw[if_pos h4]
 rw[e]
 unfold AA
 rw[h1,if_neg (by simp),h2,if_neg (by simp),h3,if_neg (by simp),if_pos h4]
theorem decl_eq{L:cB}{x:Int}{s:St}{li:Int}{r:Dc × St}(hl:(wI L s.pos:Int)=li)(h:AA L x (.zero li) s=r):uq L x s=(r.1,need L (⟨#[59]⟩:ByteArray) r.2):=by
 unfold uq;rw[hl,h]
end
end Go.Proofs.YtmohibkomlhlaaaGreatDoor
