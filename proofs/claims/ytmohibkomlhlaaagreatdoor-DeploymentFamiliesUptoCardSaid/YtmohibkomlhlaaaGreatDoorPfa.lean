/- The order of faults once more, with the draws that it makes counted: what a sort asks of it; and that it is a strict weak order. Sets of twelve servers. The models of faults of declarations without an error, as far as they are needed: what each of their terms leads to. No condition. The contract of slices.Compact at faults, as far as it is needed: a row that stays a row of faults; and as it was, where none occurs twice. Sets of twelve servers. The contract of slices.SortFunc at faults, as the kit's tool lays it (lay-shelf, lay-plain); by one application. The contract of slices.SortFunc at faults, from the library's: the row holds the same faults in some order. Sets of twelve servers. The contracts of slices.Clone at faults, of fault.normal and of Normalize, as far as they are needed: at any length. Sets of sixteen servers. -/
import Derived.Sort.Statements
import Derived.Sort.Grow
import Derived.Shelf.SlSortCmp.Insertion
import Derived.Test.YtmohibkomlhlaaaGreatDoorPdh
import Derived.Ground.SlsfProg
import Derived.Shelf.SlSortCmp.InsertionK
import Derived.Shelf.SlSortCmp.SiftDownK
import Derived.Shelf.SlSortCmp.HeapSortK
import Derived.Shelf.SlSortCmp.MedianK
import Derived.Shelf.SlSortCmp.PivotK
import Derived.Shelf.SlSortCmp.ReverseRangeK
import Derived.Shelf.SlSortCmp.PartialInsertionK
import Derived.Shelf.SlSortCmp.PartitionEqualK
import Derived.Shelf.SlSortCmp.PartitionK
import Derived.Shelf.SlSortCmp.PdqK
import Derived.Shelf.SlSortCmp.WholeK
import Derived.Shelf.SlSortCmp.NoneTotal
set_option maxRecDepth 100000
set_option maxHeartbeats 4000000
namespace Go.Proofs.YtmohibkomlhlaaaGreatDoor
open Go.RowKit
open _root_.Go.Proofs.Tryz
attribute [local go_sem] Oper.semAt_some
theorem ones_gr(s:Nat)(hs:s<4096)(w:World):Calls prog 202 #[.int .u16 (s:Nat)] w fun e w'=>e=.returned (.int .i64 ((mem s).length:Nat))∧Below w.heap.size w w'∧w.drawn≤w'.drawn:=by
 have hsz:Lib.pop8tab.size=256:=by decide +kernel
 have h8:(0:Int)≤(s:Int) / 256:=by omega
 have h9:(s:Int) / 256<(Lib.pop8tab.size:Int):=by rw[hsz];omega
 have h10:bits .and .u16 (s:Int) 255=((s&&&255:Nat):Int):=u16_and_nat s 255 (by omega) (by decide)
 have h12:s&&&255≤255:=Nat.and_le_right
 have h11:((s&&&255:Nat):Int)<(Lib.pop8tab.size:Int):=by rw[hsz];omega
 have HK:=jI (Gp s hs)
 clear hsz h12
 go_enter func202,ntmps202
 go_wp2_with fail
 go_quiet (fail)
 go_wp2
 go_ret
 have h9':s / 256<Lib.pop8tab.size:=by omega
 have h11':s&&&255<Lib.pop8tab.size:=by omega
 refine⟨?_,below_drewN (jQ _ _) _,gD _ _⟩
 have key:=HK.out
 rw[Ar _ _ h9',Ar _ _ h11',←key]
 rfl
theorem GN(s:Nat)(hs:s<4096)(w:World):Calls prog 172 #[.int .u16 (s:Nat)] w fun e w'=>e=.returned (.int .i64 ((mem s).length:Nat))∧Below w.heap.size w w'∧w.drawn≤w'.drawn:=by
 have HC:=jI (ones_gr s hs w)
 go_enter func172,ntmps172
 go_wp2_with fail
 refine HC.out.mono ?_
 rintro e w' ⟨rfl,hb⟩
 go_wp2
 go_ret
 exact⟨rfl,hb⟩
theorem Ce(a b:Nat)(ha:a<4096)(hb:b<4096)(w:World):Calls prog 208 #[.int .u16 (a:Nat),.int .u16 (b:Nat)] w fun e w'=>e=.returned (.int .i64 (vN a b))∧Below w.heap.size w w'∧w.drawn≤w'.drawn:=by
 have hbA:∀(W:World)(o:Obj),Below W.heap.size W (W.alloc o):=fun W o=>(jQ _ _).alloc (aP _) o
 obtain⟨x,hx⟩:=kE (xE (mem a).length (mem b).length)
 obtain⟨y,hy⟩:=kE (xE (a:Int) (b:Int))
 have HE:=jI (show vN a b=orI x y by rw[hx,hy];rfl)
 have H1:=jI (fun W=>GN a ha W)
 have H2:=jI (fun W=>GN b hb W)
 have H3:=jI (fun W=>cmpI_any (mem a).length (mem b).length W)
 have H4:=jI (fun W=>cmpS_any a b W)
 simp only[←hx] at H3
 simp only[←hy] at H4
 clear hx hy
 go_enter func208,ntmps208
 go_wp2_with fail
 refine (H1.out _).mono ?_
 rintro e w1 ⟨rfl,hb1,hd1⟩
 go_wp2_with fail
 refine (H2.out _).mono ?_
 rintro e w2 ⟨rfl,hb2,hd2⟩
 go_wp2_with fail
 refine (H3.out _).mono ?_
 rintro e w3 ⟨rfl,rfl⟩
 go_wp2_with fail
 refine (H4.out _).mono ?_
 rintro e w3 ⟨rfl,rfl⟩
 go_wp2_with fail
 refine (or2_any x y _ 2 _ (jR _ _)).mono ?_
 rintro e w4 ⟨rfl,rfl⟩
 go_wp2
 go_ret
 exact⟨by rw[HE.out];rfl,hb1.trans ((hb2.trans ((hbA _ _).mono hb2.size)).mono hb1.size),cK hd1 hd2⟩
theorem fltCmp_gr(x y:Nat × Nat)(hx:x.1<4096∧x.2<4096)(hy:y.1<4096∧y.2<4096)(w:World):Calls prog 180 #[J4 x,J4 y] w fun e w'=>e=.returned (.int .i64 (wZ x y))∧Below w.heap.size w w'∧w.drawn≤w'.drawn:=by
 have hbA:∀(W:World)(o:Obj),Below W.heap.size W (W.alloc o):=fun W o=>(jQ _ _).alloc (aP _) o
 obtain⟨p,hp⟩:=kE (vN x.1 y.1)
 obtain⟨q,hq⟩:=kE (vN x.2 y.2)
 have HE:=jI (show wZ x y=orI p q by rw[hp,hq];rfl)
 have HC1:=jI (fun W=>Ce x.1 y.1 hx.1 hy.1 W)
 have HC2:=jI (fun W=>Ce x.2 y.2 hx.2 hy.2 W)
 simp only[←hp] at HC1
 simp only[←hq] at HC2
 obtain⟨W0,hW0⟩:=kE ((w.alloc (.cells #[.int .u16 (x.1:Nat),.int .u16 (x.2:Nat)] 148)).alloc (.cells #[.int .u16 (y.1:Nat),.int .u16 (y.2:Nat)] 148))
 have h2:Two w.heap.size w.heap.size (w.heap.size+1) w W0 x y:=⟨by rw[hW0];exact heap_alloc2_old _ _ _,by rw[hW0];exact heap_alloc2_new _ _ _,by rw[hW0];exact (hbA _ _).alloc (by simp) _⟩
 have hd0:w.drawn≤W0.drawn:=by rw[hW0];exact aP _
 have H0:=jI hW0
 have HD0:=jI hd0
 have H2:=jI h2
 clear hp hq hW0 h2 hx hy hd0
 unfold J4
 go_enter func180,ntmps180
 go_upto_region 1 with fail
 rw[←H0.out]
 refine av.start (fun W'=>Two w.heap.size w.heap.size (w.heap.size+1) w W' x y∧w.drawn≤W'.drawn) [] [0,1,2,3,5,6,7,8] (by kernel_rfl) (And.intro H2.out.drew (Nat.le_succ_of_le HD0.out)) (fun hHeld=>?_)
 repeat
  refine av.take (v:=?_) rfl (by decide +kernel) (by rfl) (fun _ _ _ h=>h) hHeld ?_ ?_
  rotate_left
  focus
   intro w9 h9
   obtain⟨k0,k1⟩:=aG h9.1.r2
   obtain⟨k2,k3⟩:=aG h9.1.r3
   go_simp
   (try with_reducible rfl)
   done
  simp only[Act.put,List.getElem_toArray,List.getElem_cons_succ,List.getElem_cons_zero,List.setIfInBounds_toArray,List.set_cons_zero,List.set_cons_succ]
 repeat'
  first
  |refine av.one 4 rfl (by decide +kernel) (by rfl) (fun K hK=>?_)
  |refine av.one 9 rfl (by decide +kernel) (by rfl) (fun K hK=>?_)
  |refine av.one 10 rfl (by decide +kernel) (by rfl) (fun K hK=>?_)
  |refine av.one 11 rfl (by decide +kernel) (by rfl) (fun K hK=>?_)
  |refine av.one 12 rfl (by decide +kernel) (by rfl) (fun K hK=>?_)
  |refine av.two 4 9 rfl rfl (by decide +kernel) (by rfl) (by rfl) (fun K hK=>?_) (fun K hK=>?_)
  |go_simp
   first
   |go_at_call 208
    first
    |(with_reducible refine (HC1.out _).mono ?_);rintro e Y1 ⟨rfl,hb,hd⟩
    |(with_reducible refine (HC2.out _).mono ?_);rintro e Y2 ⟨rfl,hb,hd⟩
    have hHeld:=And.intro (hHeld.1.later hb hHeld.1.b.size) (cK hHeld.2 hd)
    try go_simp
    refine hK.out _ _ (by first|exact fun h=>absurd h (by decide)|exact fun _=>hHeld) ?_
    clear hK K
   |go_at_call 207
    refine (or2_any p q _ 2 _ (jR _ _)).mono ?_
    rintro e Y3 ⟨rfl,rfl⟩
    try go_simp
    refine hK.out _ _ (fun _=>hHeld) ?_
    clear hK K
   |refine hK.out _ (World.alloc _ (.cells #[.int .i64 p,.int .i64 q] 3)) (fun _=>And.intro (hHeld.1.later (hbA _ _) hHeld.1.b.size) hHeld.2) ?_
    have hHeld:Two w.heap.size w.heap.size (w.heap.size+1) w (World.alloc _ (.cells #[.int .i64 p,.int .i64 q] 3)) x y∧w.drawn≤(World.alloc _ (.cells #[.int .i64 p,.int .i64 q] 3)).drawn:=And.intro (hHeld.1.later (hbA _ (.cells #[.int .i64 p,.int .i64 q] 3)) hHeld.1.b.size) hHeld.2
    clear hK K
   |refine hK.out _ _ (fun _=>hHeld) ?_
    clear hK K
 all_goals
  refine av.done (by decide +kernel) ?_
  go_wp2_with fail
  go_ret
  exact⟨by rw[HE.out];rfl,hHeld.1.b,hHeld.2⟩
theorem grow_of{w w':World}(hb:Below w.heap.size w w')(hd:w.drawn≤w'.drawn):∃q os,w'=Go.Sort.grow (w.drewN q) os:=by
 obtain⟨ho,ht,hu,hs,hk⟩:=hb
 refine⟨w'.drawn-w.drawn,w'.heap.extract w.heap.size w'.heap.size,?_⟩
 have hh:w'.heap=w.heap++w'.heap.extract w.heap.size w'.heap.size:=by
  refine Array.ext_getElem? fun i=>?_
  by_cases hi:i<w.heap.size
  ·rw[hk i hi,Array.getElem?_append_left hi]
  ·rw[Array.getElem?_append_right (by omega),Array.getElem?_extract]
   split
   ·congr 1;omega
   ·exact Array.getElem?_eq_none (by omega)
 have hdd:w.drawn+(w'.drawn-w.drawn)=w'.drawn:=by omega
 cases w;cases w'
 simp only[Go.Sort.grow,World.drewN] at *
 subst ho ht hu
 simp only[hdd,←hh]
abbrev F12:={ x:Nat × Nat // x.1<4096∧x.2<4096 }
instance:Inhabited F12:=⟨⟨(0,0),by decide⟩⟩
theorem wY(x y:Nat × Nat):wZ x y<0↔(mem x.1).length<(mem y.1).length∨((mem x.1).length=(mem y.1).length∧(x.1<y.1∨(x.1=y.1∧((mem x.2).length<(mem y.2).length∨((mem x.2).length=(mem y.2).length∧x.2<y.2))))):=by
 unfold wZ vN orI xE
 constructor<;>intro h<;>repeat' split at *<;>omega
theorem flt_swo:Go.Sort.SWO (ltOf fun x y:F12=>wZ x.1 y.1) where
 irrefl x:=by
  unfold ltOf
  rw[decide_eq_false_iff_not,wY];omega
 trans x y z h1 h2:=by
  unfold ltOf at *
  rw[decide_eq_true_eq,wY] at *;omega
 ntrans x y z h1 h2:=by
  unfold ltOf at *
  rw[decide_eq_false_iff_not,wY] at *;omega
end Go.Proofs.YtmohibkomlhlaaaGreatDoor
namespace Go.Proofs.YtmohibkomlhlaaaGreatDoor
open Go.RowKit
theorem AV{t:List (ByteArray × Int)}{x:ByteArray}{k:Int}(h:isE t x [k]=0):aQ t x=k:=by
 unfold isE at h
 by_cases h0:aQ t x=0
 ·rw[if_pos h0] at h;cases h
 ·rw[if_neg h0] at h
  by_cases h1:[k].contains (aQ t x)=true
  ·simpa using h1
  ·rw[if_neg h1] at h;cases h
theorem Fx{t:List (ByteArray × Int)}{ns:Nat}:∀{l:List Ft},jE t ns l=0→∀f∈l,lC t ns f=0:=by
 intro l
 induction l with
 |nil=>intro _ f hf;cases hf
 |cons a r ih=>
  intro h f hf
  rw[jE] at h
  split at h
  ·rename_i h9;exact absurd h h9
  ·rename_i h9
   rcases List.mem_cons.1 hf with rfl|hf
   ·exact Decidable.not_not.1 h9
   ·exact ih h f hf
theorem Jz{l:List Dc}{d:Dc}(h:iK l d=0)(hk:d.kind=2):jE (tab l) (aH l) d.faults=0:=by
 obtain⟨h1,h2⟩:=iW h
 unfold iK at h
 rw[if_neg h1,if_neg h2,if_neg (show ¬d.kind=1 by omega),if_pos hk] at h
 exact h
theorem zC{l:List Dc}{d:Dc}(h:iK l d=0)(hk:d.kind=4):iP (tab l) (aH l) d.read=0∧iP (tab l) (aH l) d.write=0∧aQ (tab l) d.use=3:=by
 obtain⟨h1,h2⟩:=iW h
 unfold iK at h
 rw[if_neg h1,if_neg h2,if_neg (show ¬d.kind=1 by omega),if_neg (show ¬d.kind=2 by omega),if_neg (show ¬d.kind=3 by omega),if_pos hk] at h
 by_cases h6:6≤dR 4 l
 ·rw[if_pos h6] at h;cases h
 rw[if_neg h6] at h
 by_cases hr:iP (tab l) (aH l) d.read=0
 ·rw[if_neg (by rw[Decidable.not_not];exact hr)] at h
  by_cases hw:iP (tab l) (aH l) d.write=0
  ·rw[if_neg (by rw[Decidable.not_not];exact hw)] at h
   by_cases hu:isE (tab l) d.use [3]=0
   ·exact⟨hr,hw,AV hu⟩
   ·rw[if_pos hu] at h;exact absurd h hu
  ·rw[if_pos hw] at h;exact absurd h hw
 ·rw[if_pos hr] at h;exact absurd h hr
theorem declE_use{l:List Dc}{d:Dc}(h:iK l d=0)(hk:d.kind=6):d.use.size=0∨aQ (tab l) d.use=3:=by
 obtain⟨h1,h2⟩:=iW h
 unfold iK at h
 rw[if_neg h1,if_neg h2,if_neg (show ¬d.kind=1 by omega),if_neg (show ¬d.kind=2 by omega),if_neg (show ¬d.kind=3 by omega),if_neg (show ¬d.kind=4 by omega),if_neg (show ¬d.kind=5 by omega),if_pos hk] at h
 by_cases h6:6≤dR 6 l
 ·rw[if_pos h6] at h;cases h
 rw[if_neg h6] at h
 by_cases hu:d.use.size=0
 ·exact Or.inl hu
 ·rw[if_neg hu] at h;exact Or.inr (AV h)
structure FtGood(l pre:List Dc)(f:Ft):Prop where
 op:1≤f.op∧f.op≤6
 thr:f.op=2→0≤f.byz∧0≤f.iw∧f.byz+f.iw≤((ai l).length:Int)
 nm:f.op=6→aQ (tab pre) f.name=3
 site:f.op=4∨f.op=5→∃d,nY l 1 f.name=some d
 len:f.aI.length≤1000000000∧f.aB.length≤1000000000∧f.name.size≤maxLen∧(∀y∈f.aI,y.size≤maxLen)∧∀y∈f.aB,y.size≤maxLen
section
variable {l:List Dc}
theorem svs_le(l:List Dc)(i:Nat):aH (l.take i)≤(ai l).length:=by
 rw[tT]
 unfold ai bV
 conv=>rhs;rw[←List.take_append_drop i l,List.flatMap_append,bD]
 exact gD _ _
theorem dfl_len(hsz:(l.map aW).sum≤1100000){d:Dc}(hd:d∈l):d.faults.length≤1100000:=by
 have h1:=gZ hd
 have e1:aW d=d.name.size+aZ d.names+(d.faults.map dJ).sum+ax d.term+d.proto.size+ax d.read+ax d.write+d.use.size+1:=rfl
 have:=Bd d.faults
 omega
theorem ft_len(hsz:(l.map aW).sum≤1100000){d:Dc}(hd:d∈l){f:Ft}(hf:f∈d.faults):dJ f≤1100000:=by
 have h1:=gZ hd
 have e1:aW d=d.name.size+aZ d.names+(d.faults.map dJ).sum+ax d.term+d.proto.size+ax d.read+ax d.write+d.use.size+1:=rfl
 have h2:∀(L:List Ft),f∈L→dJ f≤(L.map dJ).sum:=by
  intro L
  induction L with
  |nil=>intro h;cases h
  |cons a r ih=>
   intro h
   rw[List.map_cons,List.sum_cons]
   rcases List.mem_cons.1 h with rfl|h
   ·omega
   ·have:=ih h;omega
 have:=h2 _ hf
 omega
theorem ft_good(hc:(bf l).2=0)(hsz:(l.map aW).sum≤1100000){i:Nat}(hi:i<l.length)(hk:l[i].kind=2):∀f∈l[i].faults,FtGood l (l.take i) f:=by
 intro f hf
 have hE:=Fx (Jz ((je hc).2.1 i hi) hk) f hf
 have hok:=List.all_eq_true.1 ((dW hc).1 l[i] (bQ hi)).faults f hf
 have hlen:=ft_len hsz (bQ hi) hf
 have e1:dJ f=f.name.size+aZ f.aI+aZ f.aB+1:=rfl
 have n1:=dh f.aI
 have n2:=dh f.aB
 have hkf:∀x,aQ (tab (l.take i)) x=1→∃d,nY l 1 x=some d:=fun x hx=>by
  have:=(ic hc i).sub x (by rw[hx];decide)
  obtain⟨d,-,-,-,-,h⟩:=xg (k:=1) (fw hc).1 (dW hc).2 (this.trans hx) (by decide)
  exact⟨d,h⟩
 have hsv:=svs_le l i
 unfold pG at hok
 unfold lC at hE
 refine⟨?_,fun h2=>?_,fun h6=>?_,fun h45=>?_,by omega,by omega,by unfold maxLen;omega,fun y hy=>by have:=jB hy;unfold maxLen;omega,fun y hy=>by have:=jB hy;unfold maxLen;omega⟩
 ·repeat' split at hok
  all_goals first|omega|cases hok
 ·rw[if_neg (by omega),if_pos h2] at hok
  rw[if_pos h2] at hE
  simp only[small,Bool.and_eq_true,decide_eq_true_eq] at hok
  split at hE
  ·cases hE
  ·omega
 ·rw[if_neg (by omega),if_neg (by omega),if_neg (by omega),if_pos h6] at hE
  exact AV hE
 ·rw[if_neg (by omega),if_neg (by omega),if_pos h45] at hE
  exact hkf _ (AV hE)
theorem dTab_kind{d:Dc}{x:ByteArray}(h:aQ (rT d) x=3):d.kind=2∧d.name=x:=by
 have key:∀t:List (ByteArray × Int),aQ t x=3→(x,(3:Int))∈t:=by
  intro t
  induction t with
  |nil=>intro h;exact absurd h (by simp[aQ])
  |cons p r ih=>
   intro h
   rw[aQ] at h
   split at h
   ·rename_i h1
    exact List.mem_cons.2 (Or.inl (by rw[←h,←(eT _ _).1 h1]))
   ·exact List.mem_cons_of_mem _ (ih h)
 have hm:=key _ h
 unfold rT at hm
 rcases List.mem_append.1 hm with hm|hm
 ·split at hm
  ·simp at hm
  ·obtain⟨h1,h2⟩:x=d.name∧3=dI d.kind:=by simpa using hm
   refine⟨?_,h1.symm⟩
   unfold dI at h2
   repeat' split at h2
   all_goals first|assumption|(exfalso;revert h2;decide)
 ·split at hm
  ·obtain⟨y,-,e⟩:=List.mem_map.1 hm
   cases e
  ·simp at hm
theorem Ji(hc:(bf l).2=0){i:Nat}(hi:i<l.length){x:ByteArray}(hx:aQ (tab (l.take (i+1))) x=3):aQ (tab (l.take i)) x=3∨(aQ (tab (l.take i)) x=0∧l[i].kind=2∧l[i].name=x∧nY l 2 x=some l[i]):=by
 rw[oq hi,mE _ _ _ (gU _)] at hx
 by_cases hz:aQ (tab (l.take i)) x=0
 ·rw[if_neg (by rw[hz];simp)] at hx
  obtain⟨h1,h2⟩:=dTab_kind hx
  have:=uS (fw hc).1 (bQ hi) (by rw[h1];decide)
  rw[h1,h2] at this
  exact Or.inr ⟨hz,h1,h2,this⟩
 ·rw[if_pos hz] at hx
  exact Or.inl hx
def known(l:List Dc)(f:ByteArray→Option Value):Nat:=l.countP fun d=>(f d.name).isSome
theorem IC(f:ByteArray→Option Value){x:ByteArray}{v:Value}(h0:f x=none)(hx:∃d∈l,d.name=x):known l f<known l (fun y=>if y=x then some v else f y):=by
 unfold known
 have mono:∀r:List Dc,r.countP (fun d=>(f d.name).isSome)≤r.countP fun d=>((fun y=>if y=x then some v else f y) d.name).isSome:=fun r=>List.countP_mono_left fun d _ hd=>by
  show (if d.name=x then some v else f d.name).isSome=true
  by_cases e:d.name=x
  ·rw[if_pos e];rfl
  ·rw[if_neg e];exact hd
 induction l with
 |nil=>obtain⟨d,hd,-⟩:=hx;cases hd
 |cons a r ih=>
  rw[List.countP_cons,List.countP_cons]
  by_cases e:a.name=x
  ·rw[if_neg (by rw[e,h0];simp),if_pos (by show (if a.name=x then some v else f a.name).isSome=true;rw[if_pos e];rfl)]
   have:=mono r
   omega
  ·have h1:((fun y=>if y=x then some v else f y) a.name)=f a.name:=if_neg e
   rw[h1]
   have:=ih (by
    obtain⟨d,hd,hdx⟩:=hx
    rcases List.mem_cons.1 hd with rfl|hd
    ·exact absurd hdx e
    ·exact⟨d,hd,hdx⟩)
   omega
theorem known_le(l:List Dc)(f:ByteArray→Option Value):known l f≤l.length:=List.countP_le_length
end
def NormR(l F:List (Nat × Nat)):Prop:=∃p:List (Nat × Nat),(l.Nodup→p.Perm l)∧F=p.filter fun a=>!p.any (kg a)
def MdR(l:List Dc)(x:ByteArray)(F:List (Nat × Nat)):Prop:=
 ∀d f,nY l 2 x=some d→d.faults=[f]→f.op=2→NormR (fq (ai l).length f.byz.toNat f.iw.toNat).1 F
def yC(l:List (Nat × Nat)):Prop:=∀x∈l,x.1<65536∧x.2<65536
def MdG(l:List Dc)(x:ByteArray):Prop:=
 ∃d f,nY l 2 x=some d∧d.faults=[f]∧f.op=2∧(fq (ai l).length f.byz.toNat f.iw.toNat).2=0∧0<(fq (ai l).length f.byz.toNat f.iw.toNat).1.length∧∀y∈(fq (ai l).length f.byz.toNat f.iw.toNat).1,J5 y=0
def MdP(l:List Dc)(x:ByteArray)(F:List (Nat × Nat))(er:Nat):Prop:=(er=0→MdR l x F)∧(MdG l x→er=0)
def FlPost(Q:List (Nat × Nat)→Prop)(E:Prop)(w:World)(e:Ending)(w':World):Prop:=∃F A c er,e=.returned (.tuple #[.slice A F.length c,.int .i64 (er:Nat)])∧ak w' (w.heap.size≤·) 2 A F.length (aL F)∧F.length≤c∧F.length≤100∧yC F∧((er=0→Q F)∧(E→er=0))∧Below w.heap.size w w'
end Go.Proofs.YtmohibkomlhlaaaGreatDoor
namespace Go.Proofs.YtmohibkomlhlaaaGreatDoor
open Go.RowKit
open _root_.Go.Proofs.Tryz
def BB(W:World)(g o m:Nat):Prop:=∀j,j<m→∃a:Nat,a<4096∧W.cell? ⟨g,o+j,none⟩=some (.int .u16 (a:Nat))∧W.frozen? ⟨g,o+j,none⟩=false
section
variable {W W':World} {g o m:Nat}
theorem BB.set(h:BB W g o m)(p:Nat){a:Nat}(ha:a<4096):BB (W.setCell ⟨g,p,none⟩ (.int .u16 (a:Nat))) g o m:=fun j hj=>by
 obtain⟨b,h1,h2,h3⟩:=h j hj
 by_cases e:(⟨g,p,none⟩:Addr)=⟨g,o+j,none⟩
 ·rw[e]
  exact⟨a,ha,World.cell?_setCell_same _ _ _ h2,by rw[World.frozen?_setCell];exact h3⟩
 ·exact⟨b,h1,(World.cell?_setCell_other _ _ _ _ e).trans h2,by rw[World.frozen?_setCell];exact h3⟩
theorem BB.sets(vs:List Value)(hv:∀v∈vs,v=.int .u16 ((0:Nat):Int)):∀(p:Nat)(W:World),BB W g o m→BB (W.setCells g p vs) g o m:=by
 induction vs with
 |nil=>intro p W h;exact h
 |cons v r ih=>
  intro p W h
  rw[World.setCells,hv v (by simp)]
  exact ih (fun u hu=>hv u (by simp[hu])) (p+1) _ (h.set p (by decide))
theorem BB.below(h:BB W g o m)(hb:Below W.heap.size W W')(hg:g<W.heap.size):BB W' g o m:=fun j hj=>by
 obtain⟨a,h1,h2,h3⟩:=h j hj
 exact⟨a,h1,(hb.cell (p:=⟨g,o+j,none⟩) hg).trans h2,(hb.frozen (p:=⟨g,o+j,none⟩) hg).trans h3⟩
theorem BB.two(h:BB W g o m){j:Nat}(hj:j+1<m):∃x:Nat × Nat,x.1<4096∧x.2<4096∧W.cell? ⟨g,o+j,none⟩=some (.int .u16 (x.1:Nat))∧W.cell? ⟨g,o+j+1,none⟩=some (.int .u16 (x.2:Nat))∧W.frozen? ⟨g,o+j,none⟩=false∧W.frozen? ⟨g,o+j+1,none⟩=false:=by
 obtain⟨a,h1,h2,h3⟩:=h j (by omega)
 obtain⟨b,h4,h5,h6⟩:=h (j+1) hj
 exact⟨(a,b),h1,h4,h2,h5,h3,h6⟩
theorem BB.list(h:BB W g o m):∀n,n * 2≤m→∃L:List (Nat × Nat),L.length=n∧Flt12 L∧∀j u,(aL L)[j]?=some u→W.cell? ⟨g,o+j,none⟩=some u:=by
 intro n
 induction n with
 |zero=>intro _;exact⟨[],rfl,fun x hx=>(by cases hx),fun j u hu=>(by simp[aL] at hu)⟩
 |succ n ih=>
  intro hn
  obtain⟨L,h1,h2,h3⟩:=ih (by omega)
  obtain⟨x,h4,h5,h6,h7,-,-⟩:=h.two (j:=n * 2) (by omega)
  refine⟨L++[x],by simp[h1],fun y hy=>?_,fun j u hu=>?_⟩
  ·rcases List.mem_append.1 hy with hy|hy
   ·exact h2 y hy
   ·obtain rfl:y=x:=by simpa using hy
    exact⟨h4,h5⟩
  ·rw[nV] at hu
   have hfl:(aL L).length=n * 2:=by rw[fU,h1]
   by_cases hj:j<n * 2
   ·rw[gL (by omega)] at hu
    exact h3 j u hu
   ·rw[gM (by omega),hfl] at hu
    obtain⟨i,rfl⟩:∃i,j=n * 2+i:=⟨j-n * 2,by omega⟩
    rw[Nat.add_sub_cancel_left] at hu
    match i,hu with
    |0,hu=>
     obtain rfl:_=u:=by simpa using hu
     exact h6
    |1,hu=>
     obtain rfl:_=u:=by simpa using hu
     exact h7
    |i+2,hu=>simp at hu
end
theorem FZ{m:Nat}(v:Value)(hv:v∈(Builtin.zeroCells #[.int .u16 0,.int .u16 0] m).toList):v=.int .u16 ((0:Nat):Int):=by
 unfold Builtin.zeroCells at hv
 simp only[Array.toList_map,List.mem_map] at hv
 obtain⟨i,-,rfl⟩:=hv
 have:i % 2=0∨i % 2=1:=by omega
 rcases this with h|h<;>simp[h]
def zFl:Array Value:=#[.int .u16 0,.int .u16 0]
theorem Hw(w:World)(ty:TypeId)(b o m c:Nat)(hm:0<m)(hth:w.there b o (m * 2)):
  (Builtin.clear_ #[52] ty #[.slice (some ⟨b,o,none⟩) m c]).run prog w=.ok (.tuple #[]) (w.setCells b o (Builtin.zeroCells zFl m).toList):=by
 have hlen:(Builtin.zeroCells zFl m).toList.length=m * 2:=by simp[Builtin.zeroCells,zFl]
 have hone:∀v∈(Builtin.zeroCells zFl m).toList,v.oneCell'=true:=by
  intro v hv
  rw[FZ v hv];rfl
 have hst:=run_storeCells_cells (P:=prog) b o (Builtin.zeroCells zFl m).toList 0 w (fun j hj=>by rw[Nat.add_zero];exact (hth j (by rw[←hlen];exact hj)).1) (fun j hj=>by rw[Nat.add_zero];exact (hth j (by rw[←hlen];exact hj)).2) hone
 simp only[Nat.add_zero] at hst
 have hzv:(zeroValue 148).run prog w=.ok (.agg zFl) w:=by kernel_rfl
 have hcz:(Value.agg zFl).cells=zFl:=rfl
 obtain⟨m,rfl⟩:∃n,m=n+1:=⟨m-1,by omega⟩
 simp[Builtin.clear_,run_underlying underlying52,hzv,hcz,hst]
theorem wp_clear2(w:World){ops:Array Oper}{rest:List Oper}{o:Oper}{a:Act}{Q:Exit→Act→World→Prop}(hgd:o.guard=none)(x:Operand)
  (ho:o.op=.call { callee:=.builtin .clear,args:=#[x],argTypes:=#[52] }) (b off m c:Nat) (hx:a.eval x=.slice (some ⟨b,off,none⟩) m c) (hm:0<m) (hth:w.there b off (m * 2))
  (h:∀w',w'=w.setCells b off (Builtin.zeroCells zFl m).toList→wpList prog ops Q rest (a.put o.dst (.tuple #[])) w'):wpList prog ops Q (o::rest) a w:=by
 refine wpList_plain hgd fun _ hK=>?_
 unfold Oper.wp execOp
 simp only[ho,resolve,invoke,builtin,Sem.run_bind,Sem.run_pure,Result.andThen_ok,List.map_toArray,List.map_cons,List.map_nil,hx,Hw w o.type b off m c hm hth]
 exact hK _ _ (h _ rfl)
theorem but_sets{b:Nat}(vs:List Value):∀(o:Nat)(a w:World),But (fun g=>g=b) a w→But (fun g=>g=b) a (w.setCells b o vs):=by
 induction vs with
 |nil=>intro _ _ _ h;exact h
 |cons v r ih=>intro o a w h;exact ih (o+1) a _ (h.setCell rfl o v)
theorem compactW(l:List (Nat × Nat))(g o c:Nat)(w:World)(hg:g<w.heap.size)(hlen:l.length≤1000000000)(hcap:l.length≤c)(hr:BB w g o (l.length * 2))(hl:ak w (·=g) 2 (some ⟨g,o,none⟩) l.length (aL l)):
  Calls prog 181 #[.slice (some ⟨g,o,none⟩) l.length c] w fun e w'=>∃m,e=.returned (.slice (some ⟨g,o,none⟩) m c)∧m≤l.length∧BB w' g o (l.length * 2)∧But (fun h=>h=g) w w'∧(l.Nodup→m=l.length∧Below w.heap.size w w'):=by
 obtain⟨N,hN⟩:=kE l.length
 have HN:=jI hN
 have HL:=jI hl
 have HR:=jI hr
 rw[←hN] at hlen hcap HR ⊢
 clear hl hr hN
 by_cases h2:N<2
 ·have h2I:(N:Int)<2:=by omega
  go_enter func181,ntmps181
  go_wp2
  go_ret
  exact⟨N,rfl,aP _,HR.out,But.refl _ _,fun _=>⟨rfl,jQ _ _⟩⟩
 have h2I:¬(N:Int)<2:=by omega
 go_enter func181,ntmps181
 go_wp2
 go_loopw [3] (fun x wr=>∃k:Nat,k≤N∧1≤k∧x=.int .i64 k∧Below w.heap.size w wr) (fun x _=>N-(intOf x).toNat)
 case atStart=>exact⟨1,by omega,by omega,rfl,jQ _ _⟩
 case round=>
  obtain⟨k,hk,hk1,rfl,hb⟩:=hrel
  by_cases hlt:k<N
  ·have hkI:(k:Int)<(N:Int):=by omega
   obtain⟨g1,o1,hA,-,x0,x1⟩:=nU HL.out (k:=k) (by have:=HN.out;omega)
   cases hA
   obtain⟨g1,o1,hA,-,x2,x3⟩:=nU HL.out (k:=k-1) (by have:=HN.out;omega)
   cases hA
   obtain⟨u,hu⟩:∃u,u=l[k-1]'(by have:=HN.out;omega):=⟨_,rfl⟩
   obtain⟨v,hv⟩:∃v,v=l[k]'(by have:=HN.out;omega):=⟨_,rfl⟩
   have HND:=jI (show u=v→¬l.Nodup from fun e hnd=>by
    have h9:=List.pairwise_iff_getElem.1 hnd (k-1) k (by have:=HN.out;omega) (by have:=HN.out;omega) (by omega)
    exact h9 (by rw[←hu,←hv];exact e))
   rw[←hu] at x2 x3
   rw[←hv] at x0 x1
   have hk0:(0:Int)≤(k:Int):=by omega
   obtain⟨q,hq⟩:=kE (k-1)
   rw[←hq] at x2 x3
   have hwk:IntKind.i64.wrap ((k:Int)-1)=(q:Int):=by rw[IntWalk.i64_in _ (by omega)];omega
   have hmI:(q:Int)<(N:Int):=by omega
   have hm0:(0:Int)≤(q:Int):=by omega
   have k0:=(hb.cell (p:=⟨g,o+k * 2,none⟩) hg).trans x0
   have k1:=(hb.cell (p:=⟨g,o+k * 2+1,none⟩) hg).trans x1
   have k2:=(hb.cell (p:=⟨g,o+q * 2,none⟩) hg).trans x2
   have k3:=(hb.cell (p:=⟨g,o+q * 2+1,none⟩) hg).trans x3
   clear x0 x1 x2 x3 hu hv hq
   by_cases hd:v=u
   ·have f1:(((v.1:Nat):Int)==((u.1:Nat):Int))=true:=by rw[hd];simp
    have f2:(((v.2:Nat):Int)==((u.2:Nat):Int))=true:=by rw[hd];simp
    have hno:=HND.out hd.symm
    clear hd HND
    go_upto_region 6 with fail
    go_quiet (fail)
    go_wp2
    rename World=>w0
    have HR0:=jI ((HR.out.below hb hg).below (below_drewN (jQ _ w0) nq) (bZ hg hb.size))
    have hg0:=bZ hg hb.size
    clear k0 k1 k2 k3 f1 f2 hmI hm0 hwk
    go_loopw [3,5] (fun y z wn=>∃k2 k3:Nat,1≤k2∧k2≤N-k∧z=.int .i64 k2∧y=.int .i64 k3∧k≤k3∧k3+1≤k+k2∧Hid (BB wn g o (N * 2))∧Hid (But (fun h=>h=g) w0 wn)) (fun _ z _=>N-(intOf z).toNat)
    case atStart=>exact⟨1,k,aP _,by omega,rfl,rfl,aP _,aP _,HR0,jI (.of_below (below_drewN (jQ _ _) _))⟩
    case round=>
     obtain⟨m2,m3,h1,h2,rfl,rfl,h3,h4,hF,hBu⟩:=hrel
     have h30:(0:Int)≤(m3:Int):=by omega
     have h3n:(m3:Int)<(N:Int):=by omega
     by_cases h5:m2<N-k
     ·have h5I:(m2:Int)<((N-k:Nat):Int):=by omega
      have h5J:(m2:Int)<(N:Int)-(k:Int):=by omega
      have h20:(0:Int)≤(m2:Int):=by omega
      obtain⟨q,hq⟩:=kE (m2-1)
      have hwk:IntKind.i64.wrap ((m2:Int)-1)=(q:Int):=by rw[IntWalk.i64_in _ (by omega)];omega
      have hqI:(q:Int)<((N-k:Nat):Int):=by omega
      have hqJ:(q:Int)<(N:Int)-(k:Int):=by omega
      have hq0:(0:Int)≤(q:Int):=by omega
      obtain⟨v,hv1,hv2,x0,x1,-,-⟩:=hF.out.two (j:=k * 2+m2 * 2) (by omega)
      obtain⟨u,-,-,x2,x3,-,-⟩:=hF.out.two (j:=k * 2+q * 2) (by omega)
      obtain⟨z,-,-,y0,y1,y2,y3⟩:=hF.out.two (j:=m3 * 2) (by omega)
      rw[←Nat.add_assoc] at x0 x1 x2 x3
      clear hq
      by_cases hd:v=u
      ·have f1:(((v.1:Nat):Int)==((u.1:Nat):Int))=true:=by rw[hd];simp
       have f2:(((v.2:Nat):Int)==((u.2:Nat):Int))=true:=by rw[hd];simp
       clear hd
       go_upto_region 11 with fail
       go_quiet (fail)
       go_wp2
       go_roundw
       case rel=>exact⟨m2+1,m3,by omega,by omega,by go_num,rfl,h3,by omega,jI (hF.out.below (below_drewN (jQ _ _) _) (by have:=hBu.out.size;omega)),jI (hBu.out.trans (.of_below (below_drewN (jQ _ _) _)))⟩
       case measure=>simp[intOf];omega
      ·have hk9:∃f1 f2:Bool,(((v.1:Nat):Int)==((u.1:Nat):Int))=f1∧(((v.2:Nat):Int)==((u.2:Nat):Int))=f2∧(f1&&f2)=false:=by
        refine⟨_,_,rfl,rfl,?_⟩
        rw[Bool.and_eq_false_iff,bP,bP]
        by_cases e1:v.1=u.1
        ·exact Or.inr (fun e=>hd (Prod.ext e1 (by omega)))
        ·exact Or.inl (by omega)
       obtain⟨f1,f2,g1,g2,g3⟩:=hk9
       clear hd
       cases f1<;>cases f2<;>first|(exact absurd g3 (by decide))|skip
       all_goals
        clear g3
        go_upto_region 11 with fail
        go_quiet (fail)
        go_wp2
        refine⟨⟨m2+1,m3+1,by omega,by omega,by go_num,by go_num,by omega,by omega,jI (((hF.out.below (below_drewN (jQ _ _) _) (by have:=hBu.out.size;omega)).set _ hv1).set _ hv2),jI (((hBu.out.trans (.of_below (below_drewN (jQ _ _) _))).setCell rfl _ _).setCell rfl _ _)⟩,by simp[intOf];omega⟩
     ·have h5I:¬(m2:Int)<((N-k:Nat):Int):=by omega
      have h5J:¬(m2:Int)<(N:Int)-(k:Int):=by omega
      have hth:wr.there g (o+m3 * 2) ((N-m3) * 2):=fun j hj=>by
       obtain⟨a,-,e1,e2⟩:=hF.out (m3 * 2+j) (by omega)
       rw[←Nat.add_assoc] at e1 e2
       exact⟨by rw[e1];rfl,e2⟩
      go_wp2_with (refine wp_clear2 _ rfl (.tmp 56) rfl g (o+m3 * 2) (N-m3) (c-m3) rfl (by omega) hth ?_;intro w9 h9)
      go_ret
      subst h9
      exact⟨m3,rfl,by omega,BB.sets _ (fun v hv=>FZ v hv) _ _ hF.out,but_sets _ _ _ _ ((But.of_below hb).trans hBu.out)⟩
   ·have hk9:∃f1 f2:Bool,(((v.1:Nat):Int)==((u.1:Nat):Int))=f1∧(((v.2:Nat):Int)==((u.2:Nat):Int))=f2∧(f1&&f2)=false:=by
     refine⟨_,_,rfl,rfl,?_⟩
     rw[Bool.and_eq_false_iff,bP,bP]
     by_cases e1:v.1=u.1
     ·exact Or.inr (fun e=>hd (Prod.ext e1 (by omega)))
     ·exact Or.inl (by omega)
    obtain⟨f1,f2,g1,g2,g3⟩:=hk9
    clear hd HND
    cases f1<;>cases f2<;>first|(exact absurd g3 (by decide))|skip
    all_goals
     clear g3
     go_upto_region 6 with fail
     go_quiet (fail)
     go_wp2_with fail
     exact⟨⟨k+1,by omega,by omega,by go_num,below_drewN hb nq⟩,by simp[intOf];omega⟩
  ·obtain rfl:k=N:=by omega
   have hkI:¬(k:Int)<(k:Int):=by omega
   go_wp2
   go_ret
   exact⟨k,rfl,aP _,HR.out.below hb hg,.of_below hb,fun _=>⟨rfl,hb⟩⟩
end Go.Proofs.YtmohibkomlhlaaaGreatDoor
namespace Go.Proofs
open Go.Shelf
open _root_.Go.Proofs.Tryz
def Tryz.laysSlF06_f179_ren:Go.Shelf.Ren:=⟨fun|6=>179|15=>206|14=>205|28=>231|29=>232|20=>223|21=>224|22=>225|23=>226|24=>227|25=>228|26=>229|27=>230|46=>243|47=>244|48=>245|49=>246|50=>247|57=>253|n=>n,fun|22=>52|24=>148|25=>243|3=>3|39=>260|0=>0|53=>259|55=>272|4=>4|46=>279|45=>278|50=>130|5=>5|9=>9|66=>291|70=>295|76=>299|77=>300|n=>n,fun|n=>n⟩
theorem Tryz.laysSlF06_f179:Go.Proofs.SlLaysF0.n6 prog Tryz.laysSlF06_f179_ren:={
 mixed:=by kernel_rfl
 f6:=⟨Tryz.f179.name,by decide,func179.trans (congrArg some (by kernel_rfl))⟩
 f14:=⟨Tryz.f205.name,by decide,func205.trans (congrArg some (by kernel_rfl))⟩
 f15:=func206.trans (congrArg some (by kernel_rfl))
 f20:=⟨Tryz.f223.name,by decide,func223.trans (congrArg some (by kernel_rfl))⟩
 f21:=⟨Tryz.f224.name,by decide,func224.trans (congrArg some (by kernel_rfl))⟩
 f22:=⟨Tryz.f225.name,by decide,func225.trans (congrArg some (by kernel_rfl))⟩
 f23:=⟨Tryz.f226.name,by decide,func226.trans (congrArg some (by kernel_rfl))⟩
 f24:=⟨Tryz.f227.name,by decide,func227.trans (congrArg some (by kernel_rfl))⟩
 f25:=⟨Tryz.f228.name,by decide,func228.trans (congrArg some (by kernel_rfl))⟩
 f26:=⟨Tryz.f229.name,by decide,func229.trans (congrArg some (by kernel_rfl))⟩
 f27:=⟨Tryz.f230.name,by decide,func230.trans (congrArg some (by kernel_rfl))⟩
 f28:=func231.trans (congrArg some (by kernel_rfl))
 f29:=func232.trans (congrArg some (by kernel_rfl))
 f46:=⟨Tryz.f243.name,by decide,func243.trans (congrArg some (by kernel_rfl))⟩
 f47:=func244.trans (congrArg some (by kernel_rfl))
 f48:=func245.trans (congrArg some (by kernel_rfl))
 f49:=⟨Tryz.f246.name,by decide,func246.trans (congrArg some (by kernel_rfl))⟩
 f50:=⟨Tryz.f247.name,by decide,func247.trans (congrArg some (by kernel_rfl))⟩
 f57:=⟨Tryz.f253.name,by decide,func253.trans (congrArg some (by kernel_rfl))⟩
 t0:=underlying0
 a0:=Tryz.isAgg0
 z0:=Tryz.sizeOf0
 v0:=Tryz.zeroValue0
 t3:=underlying3
 a3:=Tryz.isAgg3
 z3:=Tryz.sizeOf3
 v3:=Tryz.zeroValue3
 t4:=underlying4
 a4:=Tryz.isAgg4
 z4:=Tryz.sizeOf4
 v4:=Tryz.zeroValue4
 t5:=underlying5
 a5:=Tryz.isAgg5
 z5:=Tryz.sizeOf5
 v5:=Tryz.zeroValue5
 t9:=underlying9
 a9:=Tryz.isAgg9
 z9:=Tryz.sizeOf9
 v9:=Tryz.zeroValue9
 t22:=underlying52
 a22:=Tryz.isAgg52
 z22:=Tryz.sizeOf52
 v22:=Tryz.zeroValue52
 t25:=underlying243
 a25:=Tryz.isAgg243
 z25:=Tryz.sizeOf243
 v25:=Tryz.zeroValue243
 t39:=underlying260
 a39:=Tryz.isAgg260
 z39:=Tryz.sizeOf260
 v39:=Tryz.zeroValue260
 t45:=underlying278
 a45:=Tryz.isAgg278
 z45:=Tryz.sizeOf278
 v45:=Tryz.zeroValue278
 t46:=underlying279
 a46:=Tryz.isAgg279
 z46:=Tryz.sizeOf279
 v46:=Tryz.zeroValue279
 t50:=underlying130
 a50:=Tryz.isAgg130
 z50:=Tryz.sizeOf130
 v50:=Tryz.zeroValue130
 t53:=underlying259
 a53:=Tryz.isAgg259
 z53:=Tryz.sizeOf259
 v53:=Tryz.zeroValue259
 t55:=underlying272
 a55:=Tryz.isAgg272
 z55:=Tryz.sizeOf272
 v55:=Tryz.zeroValue272
 t66:=underlying291
 a66:=Tryz.isAgg291
 z66:=Tryz.sizeOf291
 v66:=Tryz.zeroValue291
 t70:=underlying295
 a70:=Tryz.isAgg295
 z70:=Tryz.sizeOf295
 v70:=Tryz.zeroValue295
 t76:=underlying299
 a76:=Tryz.isAgg299
 z76:=Tryz.sizeOf299
 v76:=Tryz.zeroValue299
 t77:=underlying300
 a77:=Tryz.isAgg300
 z77:=Tryz.sizeOf300
 v77:=Tryz.zeroValue300 }
open Go.RowKit Go.Lib Go.Sort in
theorem Tryz.slices_SortFunc{α:Type}[Inhabited α](k:Nat)(aE:∀w,(isAgg (Tryz.laysSlF06_f179_ren.t 24)).run prog w=.ok true w)(zE:∀w,(Go.sizeOf (Tryz.laysSlF06_f179_ren.t 24)).run prog w=.ok k w)(enc:α→List Value)(hk:∀x,(enc x).length=k)(h1:∀x,∀v∈enc x,v.oneCell'=true)(cf:α→α→Int)(hO:SWO (ltOf cf))(g:Nat)(cb:Array Value)(blk off cap:Nat)(d:Array α)(w:World)(eg:∀args w,(callFunc g args).run prog w=.ok (.enter g args) w)(hcmp:CmpLays prog g cb enc k cf blk off d.size w)(hH:HoldsK enc k w blk off d)(hblk:blk<w.heap.size)(hsz:d.size<4611686018427387904):
  Calls prog 179 #[.slice (some ⟨blk,off,none⟩) d.size cap,.func (.func g) #[] cb] w fun e w'=>
   e=.returned (.tuple #[])∧∃d' n os,PermIn 0 d.size d d'∧SortedIn (ltOf cf) 0 d.size d'∧w'=sortWorldK enc k w blk off n d' os:=AnyQ.slices_SortFunc Tryz.laysSlF06_f179 k aE zE enc hk h1 cf hO g cb blk off cap d w eg hcmp hH hblk hsz
end Go.Proofs
namespace Go.Proofs.YtmohibkomlhlaaaGreatDoor
open Go.RowKit
open _root_.Go.Proofs.Tryz
def GU(l:List (Nat × Nat))(g:Nat)(w:World)(e:Ending)(w':World):Prop:=
 e=.returned (.tuple #[])∧∃p:List (Nat × Nat),p.Perm l∧p.length=l.length∧BB w' g 0 (p.length * 2)∧ak w' (·=g) 2 (some ⟨g,0,none⟩) p.length (aL p)∧But (fun h=>h=g) w w'
def encF(x:F12):List Value:=[.int .u16 (x.1.1:Nat),.int .u16 (x.1.2:Nat)]
theorem tY(d:Array F12):(Go.Sort.flatK encF 2 d).toList=aL (d.toList.map Subtype.val):=by
 have key:∀(L:List F12)(j:Nat),j<L.length * 2→(aL (L.map Subtype.val))[j]?=some (encF L[j / 2]!)[j % 2]!:=by
  intro L
  induction L with
  |nil=>intro j hj;simp at hj
  |cons a r ih=>
   intro j hj
   rw[List.map_cons,show aL (a.1::r.map Subtype.val)=[.int .u16 (a.1.1:Nat),.int .u16 (a.1.2:Nat)]++aL (r.map Subtype.val) from rfl]
   match j,hj with
   |0,_=>rfl
   |1,_=>rfl
   |j+2,hj=>
    rw[gM (by simp),show j+2 - [Value.int .u16 (a.1.1:Nat),.int .u16 (a.1.2:Nat)].length=j from rfl,ih j (by simp at hj;omega),show (j+2) / 2=j / 2+1 by omega,show (j+2) % 2=j % 2 by omega]
    rfl
 refine List.ext_getElem? fun j=>?_
 by_cases hj:j<d.size * 2
 ·rw[key d.toList j (by simpa using hj),Array.getElem?_toList,Array.getElem?_eq_getElem (by simpa using hj)]
  congr 1
  have:=Go.Sort.get_flatK encF 2 d j hj
  rw[getElem!_pos _ j (by simpa using hj)] at this
  have hq:j / 2<d.size:=by omega
  rw[this,getElem!_pos d.toList (j / 2) (by simpa using hq),getElem!_pos d (j / 2) hq,Array.getElem_toList]
 ·rw[List.getElem?_eq_none (by simp;omega),List.getElem?_eq_none (by rw[fU];simp;omega)]
theorem sortW(l:List (Nat × Nat))(base g c:Nat)(w:World)(hown:w.ownsRow base 148 2 (.slice (some ⟨g,0,none⟩) l.length c) l.length (aL l))(hf:Flt12 l)(hlen:l.length≤1000000000):
  Calls prog 179 #[.slice (some ⟨g,0,none⟩) l.length c,.func (.func 180) #[] #[]] w (GU l g w):=by
 obtain⟨d,hd⟩:∃d:Array F12,d.toList.map Subtype.val=l:=⟨(l.attach.map fun x=>⟨x.1,hf x.1 x.2⟩).toArray,by
  rw[List.toList_toArray,List.map_map]
  exact List.attach_map_subtype_val l⟩
 have hds:d.size=l.length:=by rw[←hd];simp
 have hcell:∀j u,(aL l)[j]?=some u→w.cell? ⟨g,0+j,none⟩=some u:=by
  intro j u hu
  have hj:=(List.getElem?_eq_some_iff.1 hu).1
  rw[fU] at hj
  obtain⟨g1,o1,e,-,hc⟩:=(ak.own hown).cells (by omega)
  cases e
  exact hc j u hu
 have hH:Go.Sort.HoldsK encF 2 w g 0 d:=by
  intro j hj
  have hj2:j<d.size * 2:=by simpa using hj
  have h1:(aL l)[j]?=some (Go.Sort.flatK encF 2 d)[j]!:=by
   rw[←hd,←tY,Array.getElem?_toList,Array.getElem?_eq_getElem (by simpa using hj2),getElem!_pos _ j (by simpa using hj2)]
  exact⟨hcell j _ h1,hown.frozenAt _⟩
 have hg:g<w.heap.size:=(hown.lt g rfl).2
 have hcmp:Go.Proofs.CmpLays prog 180 #[] encF 2 (fun x y:F12=>wZ x.1 y.1) g 0 d.size w:=fun m os dk _ x y=>
  (fltCmp_gr x.1 y.1 x.2 y.2 _).mono fun e w' h=>⟨h.1,grow_of h.2.1 h.2.2⟩
 have hS:=Tryz.slices_SortFunc 2 (fun _=>by kernel_rfl) (fun _=>by kernel_rfl) encF (fun _=>rfl) (fun x v hv=>by simp[encF] at hv;rcases hv with rfl|rfl<;>rfl) (fun x y:F12=>wZ x.1 y.1) flt_swo 180 #[] g 0 c d w (enters_of func180 (by kernel_rfl) rfl) hcmp hH hg (by omega)
 rw[hds] at hS
 refine hS.mono fun e w' h=>?_
 obtain⟨he,d',n,os,hp,-,hw⟩:=h
 have hds':d'.size=d.size:=hp.1
 have hperm:d'.toList.Perm d.toList:=by
  have h2:=hp.2.2
  rw[←hds] at h2
  rw[Array.extract_size,show d.size=d'.size from hds'.symm,Array.extract_size] at h2
  exact h2
 have hH':Go.Sort.HoldsK encF 2 w' g 0 d':=by rw[hw];exact Go.Proofs.holdsK_sortWorldK_c encF 2 w g 0 d d' n os hH hg hds'
 have hget:∀j,j<d'.size * 2→(aL (d'.toList.map Subtype.val))[j]?=some (Go.Sort.flatK encF 2 d')[j]!:=fun j hj=>by
  rw[←tY,Array.getElem?_toList,Array.getElem?_eq_getElem (by simpa using hj),getElem!_pos _ j (by simpa using hj)]
 have hpl:(d'.toList.map Subtype.val).length=l.length:=by simp[hds',hds]
 refine⟨he,d'.toList.map Subtype.val,by rw[←hd];exact hperm.map _,hpl,fun j hj=>?_,⟨fU _,fun _=>⟨g,0,rfl,rfl,fun j u hu=>?_⟩⟩,?_⟩
 ·have hj2:j<d'.size * 2:=by rw[hpl] at hj;omega
  obtain⟨h1,h2⟩:=hH' j (by simpa using hj2)
  have h3:=hget j hj2
  obtain⟨x,hx,hv⟩:=List.mem_flatMap.1 (List.mem_of_getElem? h3)
  obtain⟨y,-,rfl⟩:=List.mem_map.1 hx
  simp only[List.mem_cons,List.not_mem_nil,or_false] at hv
  rcases hv with hv|hv
  ·exact⟨y.1.1,y.2.1,by rw[h1];exact congrArg some hv,h2⟩
  ·exact⟨y.1.2,y.2.2,by rw[h1];exact congrArg some hv,h2⟩
 ·have hj:=(List.getElem?_eq_some_iff.1 hu).1
  rw[fU,hpl] at hj
  have h3:=hget j (by omega)
  rw[h3] at hu
  obtain rfl:=Option.some.inj hu
  exact (hH' j (by simp;omega)).1
 ·rw[hw]
  refine⟨rfl,rfl,rfl,by simp[Go.Proofs.sortWorldK,Go.Sort.putRowK],fun k hk hl=>?_⟩
  unfold Go.Proofs.sortWorldK Go.Sort.putRowK
  rw[Go.Sort.heap_grow_old _ _ (by simpa using hl)]
  have:g≠k:=fun e=>hk e.symm
  simp[Go.Sort.putRow,Go.Sort.mapBlock,Go.Sort.ahead,Array.getElem?_modify,this]
theorem run_flts(w:World)(ty:TypeId)(base:Nat)(v:Value)(n:Nat)(xs:List Value)(hown:w.ownsRow base 148 2 v n xs)(S:Nat→Prop)(A:Option Addr)(c:Nat)(l:List (Nat × Nat))(hr:ak w S 2 A l.length (aL l))
  (hn:n+l.length≤2000000000) (hbase:base≤w.heap.size):
  ∃v' w',(Builtin.append_ #[52,52] ty #[v,.slice A l.length c]).run prog w=.ok v' w'∧w'.ownsRow base 148 2 v' (n+l.length) (xs++aL l)∧w.grownBy w' v.ownBlock∧(v'.ownBlock=v.ownBlock∨v'.ownBlock=some w.heap.size):=by
 obtain⟨i0,hi,hz0,hz1,hz2⟩:=info_parts uP
 cases A with
 |none=>
  have h0:l=[]:=by
   rcases Nat.eq_zero_or_pos l.length with h0|h0
   ·exact List.eq_nil_of_length_eq_zero h0
   ·obtain⟨g,o,e,_⟩:=hr.2 h0
    cases e
  subst h0
  refine⟨v,w,?_,by simpa [aL] using hown,aJ _ _,Or.inl rfl⟩
  have ht:=underlying52
  rcases hown.2 with ⟨rfl,rfl⟩|⟨g,cap,cur,rfl,_,_,hnc,_⟩
  ·simp[Builtin.append_,run_underlying ht,sizeOf,typeInfo,hi,Builtin.lenOf,Builtin.firstCells]
  ·simp[Builtin.append_,run_underlying ht,sizeOf,typeInfo,hi,Builtin.lenOf,Builtin.firstCells,hnc,storeCells]
 |some ad=>
  have hc:∀j u,(aL l)[j]?=some u→w.cell? (ad.add j)=some u:=by
   intro j u hu
   have hp:0<l.length:=by
    have:=(List.getElem?_eq_some_iff.1 hu).1
    rw[fU] at this;omega
   obtain⟨g,o,e,_,h⟩:=hr.2 hp
   cases e
   rw[Go.WideShapes.add_plain];exact h j u hu
  obtain⟨v',w',h1,h2,h3,_,h5⟩:=run_append_own_at (P:=prog) w base 52 ty 148 i0 _ 2 4 underlying52 hi hz0 hz1 hz2 rfl (by decide) v n xs hown ad l.length c (aL l) (fU l) hc (wX l) (by unfold maxLen;omega) (by omega) hbase
  exact⟨v',w',h1,h2,h3,h5⟩
theorem mI(w:World){ops:Array Oper}{rest:List Oper}{o:Oper}{a:Act}{Q:Exit→Act→World→Prop}(hgd:o.guard=none)(s x:Operand)
  (ho:o.op=.call { callee:=.builtin .append,args:=#[s,x],argTypes:=#[52,52] })
  (base:Nat) (v:Value) (n:Nat) (xs:List Value) (hown:w.ownsRow base 148 2 v n xs) (hs:a.eval s=v)
  (S:Nat→Prop) (A:Option Addr) (m c:Nat) (l:List (Nat × Nat)) (hx:a.eval x=.slice A m c) (hmm:m=l.length) (hr:ak w S 2 A l.length (aL l))
  (hn:n+l.length≤2000000000) (hbase:base≤w.heap.size)
  (h:∀v' w',w'.ownsRow base 148 2 v' (n+l.length) (xs++aL l)→w.grownBy w' v.ownBlock→(v'.ownBlock=v.ownBlock∨v'.ownBlock=some w.heap.size)→wpList prog ops Q rest (a.put o.dst v') w'):
  wpList prog ops Q (o::rest) a w:=by
 subst hmm
 refine wpList_plain hgd fun _ hK=>?_
 obtain⟨v',w',h1,h2,h3,h4⟩:=run_flts w o.type base v n xs hown S A c l hr hn hbase
 unfold Oper.wp execOp
 simp only[ho,resolve,invoke,builtin,Sem.run_bind,Sem.run_pure,Result.andThen_ok,List.map_toArray,List.map_cons,List.map_nil,hs,hx,h1]
 exact hK _ _ (h v' w' h2 h3 h4)
theorem cloneW(l:List (Nat × Nat))(A:Option Addr)(c:Nat)(w:World)(S:Nat→Prop)(hl:ak w S 2 A l.length (aL l))(hll:l.length≤1000000000):
  Calls prog 78 #[.slice A l.length c] w fun e w'=>∃v,e=.returned v∧w'.ownsRow w.heap.size 148 2 v l.length (aL l)∧Below w.heap.size w w':=by
 cases A with
 |none=>
  have h0:l=[]:=by
   rcases Nat.eq_zero_or_pos l.length with h0|h0
   ·exact List.eq_nil_of_length_eq_zero h0
   ·obtain⟨g,o,e,_⟩:=hl.2 h0
    cases e
  subst h0
  have heq:=fun(W:World)=>Lib.run_eql_slice_nil (P:=prog) W 52 148 none 0 c 0 0 underlying52
  simp only[List.length_nil]
  go_enter func78,ntmps78
  go_wp2
  go_ret
  exact⟨_,rfl,World.ownsRow_nil _ _ _ _,jQ _ _⟩
 |some ad=>
  obtain⟨X,hX⟩:=kE (w.alloc (.cells #[] 148 (0,0)))
  have hbX:Below w.heap.size w X:=by rw[hX];exact (jQ _ _).alloc (aP _) _
  have hzX:w.heap.size≤X.heap.size:=hbX.size
  have hoX:X.ownsRow w.heap.size 148 2 (.slice (some ⟨w.heap.size,0,none⟩) 0 0) 0 []:=by rw[hX];exact World.ownsRow_lit (base:=w.heap.size) (e:=148) (size:=2) w #[] 0 (aP _) (by decide) rfl
  have HC:=jI (hl.keep (aA hbX))
  have HX:=jI hX
  obtain⟨N,hN⟩:=kE l.length
  have HN:=jI hN
  rw[←hN] at hll ⊢
  have hnl:0+l.length≤2000000000:=by omega
  have HNL:=jI hnl
  clear hX hl hN hnl
  have heq:=fun(W:World)=>Lib.run_eql_slice_nil (P:=prog) W 52 148 (some ad) N c 0 0 underlying52
  go_enter func78,ntmps78
  go_upto_region 3 with fail
  go_wp2_with (rw[←HX.out];refine mI X rfl (.tmp 5) (.tmp 6) rfl w.heap.size _ 0 [] hoX rfl S (some ad) N c l rfl HN.out HC.out HNL.out hzX ?_;intro v3 X3 hown3 hg3 hv3)
  go_ret
  refine⟨_,rfl,?_,hbX.trans (aN hoX hg3 hzX)⟩
  rw[Nat.zero_add,List.nil_append,←HN.out] at hown3
  exact hown3
theorem II(l p:List (Nat × Nat))(a:Nat × Nat):(p++[a]).filter (fun a=>!l.any (kg a))=if l.any (kg a) then p.filter (fun a=>!l.any (kg a)) else p.filter (fun a=>!l.any (kg a))++[a]:=by
 rw[List.filter_append]
 cases h:l.any (kg a)<;>simp[h]
theorem normalW(l0:List (Nat × Nat))(A:Option Addr)(c:Nat)(w:World)(S:Nat→Prop)(hl:ak w S 2 A l0.length (aL l0))(hl0:0<l0.length)(hll:l0.length≤1000000000)(hf:Flt12 l0):
  Calls prog 142 #[.slice A l0.length c] w (FlPost (NormR l0) (l0.length≤100) w):=by
 have hbA:∀(W:World)(o:Obj),Below W.heap.size W (W.alloc o):=fun W o=>(jQ _ _).alloc (aP _) o
 have HC:=jI (cloneW l0 A c w S hl hll)
 have HF0:=jI hf
 obtain⟨N0,hN0⟩:=kE l0.length
 have HN0:=jI hN0
 rw[←hN0] at HC hll hl0 ⊢
 clear hl hf hN0
 go_enter func142,ntmps142
 go_wp2_with fail
 refine HC.out.mono ?_
 rintro e w1 ⟨v,rfl,hown,hb1⟩
 obtain⟨g1,c1,rfl⟩:=AB hown hl0
 have hg1:w.heap.size≤g1∧g1<w1.heap.size:=hown.lt g1 rfl
 have hc1:N0≤c1:=by obtain⟨_,_,e,h⟩:=aD hown;cases e;exact h
 have HSO:=jI (show Calls prog 179 #[.slice (some ⟨g1,0,none⟩) N0 c1,.func (.func 180) #[] #[]] w1 (GU l0 g1 w1) from by
  rw[HN0.out] at hown ⊢
  exact sortW l0 w.heap.size g1 c1 w1 hown HF0.out (by rw[←HN0.out];exact hll))
 clear hown
 go_wp2_with fail
 refine HSO.out.mono ?_
 rintro e w2 ⟨rfl,p,hp,hpl,hrow2,hsee2,hbut2⟩
 have hs2:=hbut2.size
 have hpN:p.length=N0:=by rw[hpl,HN0.out]
 have HSEE:=jI hsee2
 have uG:=jI hrow2
 have HP:=jI hp
 have HCO:=jI (show Calls prog 181 #[.slice (some ⟨g1,0,none⟩) N0 c1] w2 fun e w'=>∃m,e=.returned (.slice (some ⟨g1,0,none⟩) m c1)∧m≤N0∧BB w' g1 0 (N0 * 2)∧But (fun h=>h=g1) w2 w'∧(p.Nodup→m=N0∧Below w2.heap.size w2 w') from by
  have:=compactW p g1 0 c1 w2 (by omega) (by omega) (by omega) uG.out HSEE.out
  rw[hpN] at this
  exact this)
 clear hsee2 hrow2 hp hpl
 go_wp2_with fail
 refine HCO.out.mono ?_
 rintro e w3 ⟨m,rfl,hm,hrow3,I9,hnd3⟩
 obtain⟨l,hLm,hL12,hLc,hLp⟩:∃L:List (Nat × Nat),L.length=m∧Flt12 L∧(∀j u,(aL L)[j]?=some u→w3.cell? ⟨g1,0+j,none⟩=some u)∧(l0.Nodup→L.Perm l0):=by
  by_cases hnd:p.Nodup
  ·obtain⟨h1,h2⟩:=hnd3 hnd
   refine⟨p,by omega,fun x hx=>HF0.out x (HP.out.mem_iff.1 hx),fun j u hu=>?_,fun _=>HP.out⟩
   have hp0:0<p.length:=by omega
   obtain⟨g,o,e,hg,hc⟩:=HSEE.out.cells hp0
   cases e
   exact (h2.cell (p:=⟨g1,0+j,none⟩) (show g1<_ by omega)).trans (hc j u hu)
  ·obtain⟨L,h1,h2,h3⟩:=hrow3.list m (by omega)
   exact⟨L,h1,h2,h3,fun h=>absurd (HP.out.nodup_iff.2 h) hnd⟩
 have hsee3:ak w3 (·=g1) 2 (some ⟨g1,0,none⟩) l.length (aL l):=⟨fU l,fun _=>⟨g1,0,rfl,rfl,hLc⟩⟩
 have hs3:=I9.size
 have jC:Below w.heap.size w w3:=hb1.trans ((hbut2.trans I9).below (fun g e=>by omega) (by omega))
 obtain⟨N,hN⟩:=kE l.length
 rw[←hLm,←hN]
 have HS3:=jI (show ak w3 (·<w3.heap.size) 2 (some ⟨g1,0,none⟩) N (aL l) by rw[hN];exact hsee3.mono (fun g _ hx=>hx) (by decide))
 have HLP:=jI hLp
 have HN:=jI hN
 have HF:=jI hL12
 have h12:N≤1000000000:=by omega
 have HM9:=jI (show N≤N0 by omega)
 clear HC HSO HCO HN0 HF0 hb1 hbut2 I9 HP HSEE uG hnd3 hrow3 hsee3 hLp hLc hpN hN hLm hL12 hm hc1 hll hl0 hs2 hs3 hg1
 go_wp2
 go_loopw [4,15] (fun y x wr=>∃(k:Nat)(L:List (Nat × Nat)),k≤N∧x=.int .i64 k∧Hid (L=(l.take k).filter (fun a=>!l.any (kg a)))∧L.length≤k∧Below w3.heap.size w3 wr∧wr.ownsRow w3.heap.size 148 2 y L.length (aL L)) (fun _ x _=>N-(intOf x).toNat)
 case atStart=>exact⟨0,[],cu _,rfl,jI rfl,aP _,jQ _ _,World.ownsRow_nil _ _ _ _⟩
 case round=>
  obtain⟨k,L,hk,rfl,hL,hLk,hb,hown⟩:=hrel
  obtain⟨A5,c5,hv5,hc5⟩:=aD hown
  have hv5':=hv5.symm
  clear hv5
  subst hv5'
  have hsr:=hb.size
  by_cases hlt:k<N
  ·have hkI:(k:Int)<(N:Int):=by omega
   have hk0:(0:Int)≤(k:Int):=by omega
   have hlt2:k<l.length:=by have:=HN.out;omega
   have hS9:=HS3.out.keep (aj hb (fun g hg=>hg))
   obtain⟨g1,o1,hA1,hSg1,x0,x1⟩:=nU (by rw[←HN.out];exact hS9) (k:=k) hlt2
   cases hA1
   rw[Nat.zero_add] at x0 x1
   obtain⟨a,ha⟩:=kE (l[k])
   have hfa:=HF.out l[k] (bQ hlt2)
   rw[←ha] at x0 x1 hfa
   have hsn:=II l (l.take k) l[k]
   rw[←nI l k hlt2,←ha,←hL.out] at hsn
   have HSN:=jI hsn
   have hgs:g1<wr.heap.size:=by have:=hSg1;omega
   obtain⟨wa,hwa⟩:=kE (wr.alloc (.cells #[.int .u16 (a.1:Nat),.int .u16 (a.2:Nat)] 148))
   have hba:Below wr.heap.size wr wa:=by rw[hwa];exact hbA _ _
   have hra:wa.heap[wr.heap.size]?=some (.cells #[.int .u16 (a.1:Nat),.int .u16 (a.2:Nat)] 148 (0,0)):=by rw[hwa];exact jR _ _
   have HX:=jI (show Calls prog 182 #[.slice (some ⟨g1,0,none⟩) N c1,.func (.func 183) #[] #[.pointer (some ⟨wr.heap.size,0,none⟩)]] wa fun e w'=>e=.returned (.bool (l.any (kg a)))∧Below wa.heap.size wa w' from by
    have:=HN.out
    rw[HN.out]
    refine cx_flt l (·<wa.heap.size) (some ⟨g1,0,none⟩) c1 wa (by rw[←HN.out];exact (hS9.keep (aj hba (fun g hg=>by have:=hg;omega))).mono (fun g _ hl=>hl) (by decide)) (fun g hg=>hg) (by omega) 183 (enters_of func183 (by kernel_rfl) rfl) (.pointer (some ⟨wr.heap.size,0,none⟩)) (kg a) (fun x hx v W hv hW=>?_)
    subst hv
    have hfx:=HF.out x hx
    exact over_any a x ⟨by omega,by omega⟩ ⟨by omega,by omega⟩ wr.heap.size W ((hW.block _ (jS hra)).trans hra))
   have HRA:=jI hra
   have HOWN:=jI hown
   have HWA:=jI hwa
   have hsa:=hba.size
   obtain⟨ov,hov⟩:=kE (l.any (kg a))
   rw[←hov] at HX HSN
   clear hS9 hsn hra hown hwa hov ha hlt2
   go_wp2_with fail
   rw[←HWA.out]
   refine HX.out.mono ?_
   rintro e w6 ⟨rfl,hb6⟩
   have hb36:Below w3.heap.size w3 w6:=hb.trans ((hba.trans (hb6.mono hsa)).mono hsr)
   have yj:=own_below HOWN.out (hba.trans (hb6.mono hsa)) (aP _)
   have hra6:=(hb6.block _ (jS HRA.out)).trans HRA.out
   obtain⟨y0,y1⟩:=aG hra6
   have hl6:=jS hra6
   have hs36:=hb36.size
   clear hra6
   cases ov
   ·have h9:=HSN.out
    rw[if_neg (by decide)] at h9
    have H9:=jI h9
    clear h9
    go_wp2_with (at_builtin;refine push_flt w6 rfl (.tmp 23) (.tmp 25) rfl w3.heap.size _ _ _ yj rfl a.1 a.2 rfl (by omega) (by omega) ?_;intro v' w7 hown' hg' hv')
    go_roundw
    case rel=>
     refine⟨k+1,L++[a],by omega,by go_num,jI (by rw[H9.out]),by rw[bD,List.length_singleton];omega,hb36.grown hg' (by omega) (fun j e=>by have:=(yj.lt j e).1;omega),?_⟩
     rw[bD,List.length_singleton,nV]
     exact hown'
    case measure=>simp[intOf];omega
   ·have h9:=HSN.out
    rw[if_pos rfl] at h9
    have H9:=jI h9
    clear h9
    go_wp2
    go_roundw
    case rel=>exact⟨k+1,L,by omega,by go_num,jI (by rw[H9.out]),by omega,hb36,yj⟩
    case measure=>simp[intOf];omega
  ·obtain rfl:k=N:=by omega
   have hkI:¬(k:Int)<(k:Int):=by omega
   have hL9:L=l.filter (fun a=>!l.any (kg a)):=by rw[hL.out,HN.out,List.take_length]
   have HOWN:=jI hown
   have HL9:=jI hL9
   clear hL hL9 hown
   by_cases xW:(100:Int)<(L.length:Int)
   ·go_wp2
    go_ret2
    exact⟨[],none,0,3,rfl,ak.empty _ _ _ _,aP _,by decide,fun x hx=>by (cases hx),⟨fun h=>absurd h (by decide),fun hE=>by have:=HM9.out;omega⟩,jC.trans (hb.mono jC.size)⟩
   ·go_wp2
    go_ret2
    exact⟨L,A5,c5,0,rfl,(ak.own HOWN.out).mono (fun g hg _=>by have:=jC.size;omega) (by decide),hc5,by omega,fun x hx=>by rw[HL9.out] at hx;have:=HF.out x ((List.mem_filter.1 hx).1);omega,⟨fun _=>⟨l,HLP.out,HL9.out⟩,fun _=>rfl⟩,jC.trans (hb.mono jC.size)⟩
theorem flt12_of{x:Nat × Nat}(h:J5 x=0):x.1<4096∧x.2<4096:=by
 unfold J5 at h
 split at h
 ·cases h
 ·rename_i h1
  have h2:x.1|||x.2≤4095:=by rw[←Decidable.not_not.1 h1];exact Nat.and_le_right
  have h3:x.1≤x.1|||x.2:=Nat.left_le_or
  have h4:x.2≤x.1|||x.2:=Nat.right_le_or
  omega
theorem Il(l:List (Nat × Nat))(A:Option Addr)(c:Nat)(w:World)(S:Nat→Prop)(hl:ak w S 2 A l.length (aL l))(hS:∀g,S g→g<w.heap.size)(hll:l.length≤1000000000)(hf:yC l):
  Calls prog 104 #[.slice A l.length c] w (FlPost (NormR l) (0<l.length∧l.length≤100∧∀x∈l,J5 x=0) w):=by
 have hbA:∀(W:World)(o:Obj),Below W.heap.size W (W.alloc o):=fun W o=>(jQ _ _).alloc (aP _) o
 obtain⟨N,hN⟩:=kE l.length
 have HN:=jI hN
 have HC:=jI (fun(W:World)(hW:Below w.heap.size w W)(h0:0<N)(h12:Flt12 l)=>show Calls prog 142 #[.slice A N c] W (FlPost (NormR l) (l.length≤100) W) from by
  rw[hN] at h0 ⊢
  exact normalW l A c W S (hl.keep (aj hW hS)) h0 hll h12)
 have HL:=jI hl
 have HF:=jI hf
 rw[←hN] at hll ⊢
 clear hl hf hN
 by_cases h0:N=0
 ·have hN0:((N:Int)==0)=true:=by rw[h0];rfl
  have HZ0:=jI h0
  clear h0
  go_enter func104,ntmps104
  go_wp2
  go_ret2
  exact⟨[],none,0,9,rfl,ak.empty _ _ _ _,aP _,by decide,fun x hx=>by (cases hx),⟨fun h=>absurd h (by decide),fun hE=>by have:=HZ0.out;have:=HN.out;omega⟩,jQ _ _⟩
 have hN0:((N:Int)==0)=false:=lM h0
 have hN1:0<N:=by omega
 clear h0
 go_enter func104,ntmps104
 go_wp2
 go_loopw [12] (fun x wr=>∃k:Nat,k≤N∧x=.int .i64 k∧Below w.heap.size w wr∧Hid (∀j (hj:j<l.length),j<k→J5 l[j]=0)) (fun x _=>N-(intOf x).toNat)
 case atStart=>exact⟨0,cu _,rfl,jQ _ _,jI (fun j _ h=>absurd h (by omega))⟩
 case round=>
  obtain⟨k,hk,rfl,hb,hE⟩:=hrel
  by_cases hlt:k<N
  ·have hkI:(k:Int)<(N:Int):=by omega
   have hk0:(0:Int)≤(k:Int):=by omega
   have hlt2:k<l.length:=by have:=HN.out;omega
   obtain⟨g1,o1,rfl,hSg1,x0,x1⟩:=nU (HL.out.keep (aj hb hS)) (k:=k) hlt2
   obtain⟨a,ha⟩:=kE (l[k])
   have hfa:=HF.out l[k] (bQ hlt2)
   rw[←ha] at x0 x1 hfa
   have hgs:g1<wr.heap.size:=by have:=hS g1 hSg1;have:=hb.size;omega
   obtain⟨er,her⟩:=kE (J5 a)
   have HX:=jI (show ∀W,Calls prog 141 #[.agg #[.int .u16 (a.1:Nat),.int .u16 (a.2:Nat)]] W fun e w'=>e=.returned (.int .i64 (er:Nat))∧Below W.heap.size W w' from fun W=>(Dh a (by omega) (by omega) W).mono (fun e w' h=>⟨by rw[h.1,her],h.2⟩))
   have HE2:=jI (show er=0→∀j (hj:j<l.length),j<k+1→J5 l[j]=0 from fun h0 j hj hjk=>by
    by_cases hj2:j<k
    ·exact hE.out j hj hj2
    ·obtain rfl:j=k:=by omega
     rw[←ha,←her];exact h0)
   have HE9:=jI (show (∀x∈l,J5 x=0)→er=0 from fun h=>by rw[her,ha];exact h _ (bQ hlt2))
   clear ha her hlt2 hE
   by_cases he0:er=0
   ·subst he0
    have HE3:=jI (HE2.out rfl)
    clear HE2
    go_wp2_with fail
    refine (HX.out _).mono ?_
    rintro e w6 ⟨rfl,hb6⟩
    go_wp2
    go_roundw
    case rel=>exact⟨k+1,by omega,by go_num,hb.trans (((hbA _ _).trans (hb6.mono (by simp))).mono hb.size),HE3⟩
    case measure=>simp[intOf];omega
   ·have heI:((er:Int) != 0)=true:=by simpa using he0
    have I7:¬(er:Int)=0:=by omega
    clear HE2
    go_wp2_with fail
    refine (HX.out _).mono ?_
    rintro e w6 ⟨rfl,hb6⟩
    go_wp2
    go_ret2
    exact⟨[],none,0,er,rfl,ak.empty _ _ _ _,aP _,by decide,fun x hx=>by (cases hx),⟨fun h=>absurd h he0,fun hE=>HE9.out hE.2.2⟩,hb.trans (((hbA _ _).trans (hb6.mono (by simp))).mono hb.size)⟩
  ·obtain rfl:k=N:=by omega
   have hkI:¬(k:Int)<(k:Int):=by omega
   have HN9:=jI (HC.out wr hb hN1 (fun x hx=>by
    obtain⟨j,hj,rfl⟩:=List.getElem_of_mem hx
    exact flt12_of (hE.out j hj (by have:=HN.out;omega))))
   clear hE
   go_wp2_with fail
   refine HN9.out.mono ?_
   rintro e w6 ⟨F,A6,c6,er,rfl,hs6,hc6,xW,h16,hq,hb6⟩
   have HQ:=jI hq
   have HS6:=jI hs6
   have H16:=jI h16
   clear hq hs6 h16
   go_wp2
   go_ret2
   exact⟨F,A6,c6,er,rfl,HS6.out.mono (fun g hg _=>by have:=hb.size;omega) (by decide),hc6,xW,H16.out,⟨HQ.out.1,fun hE=>HQ.out.2 (by have:=HN.out;have:=hE.2.1;omega)⟩,hb.trans (hb6.mono hb.size)⟩
end Go.Proofs.YtmohibkomlhlaaaGreatDoor
