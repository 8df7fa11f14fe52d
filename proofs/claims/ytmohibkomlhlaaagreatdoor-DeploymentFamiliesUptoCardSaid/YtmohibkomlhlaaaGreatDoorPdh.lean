/- What it means that a set satisfies an expression: thresholds, duals and the sets of servers, one level at a time. No condition. Declarations without an error declare each name once; what a name stands for is then the same, wherever it is looked up. No condition. What it means that a set satisfies a typed term, one level at a time; the expressions of typed terms stand well. No condition. The Am of declarations without an error, in order: what holds of each behind the earlier ones holds of all. No condition. The contract of Expand: the expression of a term behind declarations, or what Check and Term return. Declarations and terms of a size up to a bound. Condition: the table of powers lies in the world. -/
import Derived.Test.YtmohibkomlhlaaaGreatDoorPdg
import Derived.Test.YtmohibkomlhlaaaGreatDoorPkCheck
set_option maxRecDepth 100000
set_option maxHeartbeats 4000000
namespace Go.Proofs.YtmohibkomlhlaaaGreatDoor
section
theorem dU{α:Type}{p:List α→Prop}(l:List α)(nil:p [])(snoc:∀l a,p l→p (l++[a])):p l:=by
 rw[←l.reverse_reverse]
 generalize l.reverse=r
 induction r with
 |nil=>exact nil
 |cons a r ih=>rw[List.reverse_cons];exact snoc _ _ ih
structure NdWf(at_:Nat)(n:Nd):Prop where
 kind:n.kind=1∨n.kind=2
 server:n.kind=1→0≤n.server∧n.server<12
 kids:∀k∈n.kids,0≤k∧k<(at_:Int)
 ws:n.ws.length=0∨n.ws.length=n.kids.length
 wt:∀v∈n.ws,1≤v∧v≤1000
structure qA(x:Ex):Prop where
 nd:∀i (h:i<x.nodes.length),NdWf i x.nodes[i]
 root:0≤x.root∧x.root<(x.nodes.length:Int)
theorem rH{l r:List Bool}{i:Nat}(h:i<l.length):(l++r).getD i false=l.getD i false:=by
 simp[List.getD,gL h]
theorem oU{l r:List Bool}{i:Nat}:(l++r).getD (l.length+i) false=r.getD i false:=by
 simp[List.getD,gM]
theorem G8{n:Nd}{l r:List Bool}(h:∀k∈n.kids,0≤k):G9 (fB l.length n) (l++r)=G9 n r:=by
 unfold G9 fB
 rw[List.length_map]
 congr 1
 refine List.map_congr_left fun k hk=>?_
 have hk2:k<n.kids.length:=by simpa using hk
 have he:n.kids.getD k 0=n.kids[k]:=by simp[List.getD,hk2]
 have he2:(n.kids.map (·+(l.length:Int))).getD k 0=n.kids[k]+(l.length:Int):=by simp[List.getD,hk2]
 have:=h _ (bQ hk2)
 have e3:(n.kids[k]+(l.length:Int)).toNat=l.length+n.kids[k].toNat:=by omega
 show (if (l++r).getD ((n.kids.map (·+(l.length:Int))).getD k 0).toNat false=true then wgt ⟨n.kind,n.server,n.need,n.ws,n.kids.map (·+(l.length:Int))⟩ k else 0)=_
 rw[he,he2,e3,oU]
 rfl
theorem AO{s:Nat}{n:Nd}{l r:List Bool}(h:∀k∈n.kids,0≤k):iT s (l++r) (fB l.length n)=iT s r n:=by
 unfold iT
 rw[G8 h]
 rfl
theorem Fp(s:Nat)(a:List Nd):∀b:List Nd,∃X,holdsGo s (a++b)=holdsGo s a++X:=by
 intro b
 induction b using dU with
 |nil=>exact⟨[],by simp⟩
 |snoc b n ih=>
  obtain⟨X,hX⟩:=ih
  exact⟨X++[iT s (holdsGo s (a++b)) n],by rw[←List.append_assoc,eD,hX,List.append_assoc]⟩
theorem CX(s:Nat)(l:List Nd)(i:Nat)(h:i<l.length):(holdsGo s (l.take (i+1))).getD i false=(holdsGo s l).getD i false:=by
 obtain⟨X,hX⟩:=Fp s (l.take (i+1)) (l.drop (i+1))
 rw[List.take_append_drop] at hX
 rw[hX,rH (by rw[di];simp;omega)]
theorem jF{x:Ex}(h:0≤x.root∧x.root<(x.nodes.length:Int))(s:Nat):bW x s=(holdsGo s x.nodes).getD x.root.toNat false:=CX s x.nodes _ (by omega)
theorem Bc(s:Nat)(a:List Nd):∀b:List Nd,(∀n∈b,∀k∈n.kids,0≤k)→holdsGo s (a++b.map (fB a.length))=holdsGo s a++holdsGo s b:=by
 intro b
 induction b using dU with
 |nil=>intro _;simp[holdsGo]
 |snoc b n ih=>
  intro h
  rw[List.map_append,List.map_singleton,←List.append_assoc,eD,ih (fun m hm=>h m (dO _ hm)),eD,List.append_assoc]
  have hl:a.length=(holdsGo s a).length:=(di s a).symm
  have e:iT s (holdsGo s a++holdsGo s b) (fB a.length n)=iT s (holdsGo s b) n:=by
   rw[hl]
   exact AO (h n (by simp))
  rw[e]
theorem qA.kid0{x:Ex}(h:qA x):∀n∈x.nodes,∀k∈n.kids,0≤k:=fun n hn k hk=>by
 obtain⟨i,hi,rfl⟩:=List.getElem_of_mem hn
 exact ((h.nd i hi).kids k hk).1
theorem zw(s:Nat):∀ks:List Ex,(∀x∈ks,qA x)→(iV ks).2.length=ks.length∧∀j (h:j<ks.length),0≤(iV ks).2.getD j 0∧(iV ks).2.getD j 0<((iV ks).1.length:Int)∧(holdsGo s (iV ks).1).getD ((iV ks).2.getD j 0).toNat false=bW ks[j] s:=by
 intro ks
 induction ks using dU with
 |nil=>exact fun _=>⟨rfl,fun j h=>absurd h (by simp)⟩
 |snoc ks x ih=>
  intro hx
  obtain⟨h1,h2⟩:=ih (fun y hy=>hx y (dO _ hy))
  have hw:=hx x (by simp)
  rw[xu]
  refine⟨by simp[h1],fun j hj=>?_⟩
  have hsh:=Bc s (iV ks).1 x.nodes hw.kid0
  have hr:=hw.root
  simp only[bD,List.length_map]
  by_cases hlt:j<ks.length
  ·have e1:((iV ks).2++[((iV ks).1.length:Int)+x.root]).getD j 0=(iV ks).2.getD j 0:=by simp[List.getD,gL (show j<(iV ks).2.length by omega)]
   obtain⟨q1,q2,q3⟩:=h2 j hlt
   rw[e1,hsh,rH (by rw[di];omega),q3]
   exact⟨q1,by omega,by rw[List.getElem_append_left hlt]⟩
  ·obtain rfl:j=ks.length:=by simp at hj;omega
   have e1:((iV ks).2++[((iV ks).1.length:Int)+x.root]).getD ks.length 0=((iV ks).1.length:Int)+x.root:=by simp[List.getD,←h1]
   have e2:(((iV ks).1.length:Int)+x.root).toNat=(holdsGo s (iV ks).1).length+x.root.toNat:=by rw[di];omega
   rw[e1,hsh,e2,oU,List.getElem_append_right (aP _)]
   refine⟨by omega,by omega,?_⟩
   simp[jF hr]
def BI(ws:List Int)(hs:List Bool):Int:=((List.range hs.length).map fun k=>if hs.getD k false then (if ws.length=0 then 1 else ws.getD k 0) else 0).sum
theorem F7{need:Int}{ws:List Int}{ks:List Ex}(h:(lK need ws ks).2=0):(lK need ws ks).1=⟨(iV ks).1++[⟨2,0,need,ws,(iV ks).2⟩],(iV ks).1.length⟩:=by
 unfold lK at h ⊢
 split at h
 ·cases h
 ·rename_i h9;rw[if_neg h9]
theorem qK{need:Int}{ws:List Int}{ks:List Ex}(h:(lK need ws ks).2=0)(hx:∀x∈ks,qA x)(s:Nat):bW (lK need ws ks).1 s=decide (need≤BI ws (ks.map (bW · s))):=by
 rw[F7 h]
 obtain⟨h1,h2⟩:=zw s ks hx
 rw[jF (by simp;omega)]
 show (holdsGo s ((iV ks).1++[⟨2,0,need,ws,(iV ks).2⟩])).getD ((iV ks).1.length:Int).toNat false=_
 rw[eD,show ((iV ks).1.length:Int).toNat=(holdsGo s (iV ks).1).length+0 by rw[di];omega,oU]
 show decide (need≤G9 ⟨2,0,need,ws,(iV ks).2⟩ (holdsGo s (iV ks).1))=_
 congr 2
 unfold G9 BI wgt
 simp only[h1,List.length_map]
 congr 1
 refine List.map_congr_left fun k hk=>?_
 have hk2:k<ks.length:=by simpa using hk
 rw[(h2 k hk2).2.2]
 simp[List.getD,hk2]
theorem F6{need:Int}{ws:List Int}{ks:List Ex}(h:(lK need ws ks).2=0)(hx:∀x∈ks,qA x)(hw:ws.length=0∨ws.length=ks.length)(hw2:∀v∈ws,1≤v∧v≤1000):qA (lK need ws ks).1:=by
 rw[F7 h]
 have key:∀ks:List Ex,(∀x∈ks,qA x)→∀i (h:i<(iV ks).1.length),NdWf i (iV ks).1[i]:=by
  intro ks
  induction ks using dU with
  |nil=>exact fun _ i h=>absurd h (by simp[iV])
  |snoc ks x ih=>
   intro hx i hi
   have h0:=ih (fun y hy=>hx y (dO _ hy))
   have hw:=hx x (by simp)
   simp only[xu] at hi ⊢
   by_cases hlt:i<(iV ks).1.length
   ·rw[List.getElem_append_left hlt]
    exact h0 i hlt
   ·rw[List.getElem_append_right (by omega),List.getElem_map]
    have hn:=hw.nd (i-(iV ks).1.length) (by simp at hi;omega)
    refine⟨hn.kind,hn.server,fun k hk=>?_,by simpa [fB] using hn.ws,hn.wt⟩
    obtain⟨k0,hk0,rfl⟩:=List.mem_map.1 hk
    have:=hn.kids k0 hk0
    omega
 obtain⟨h1,h2⟩:=zw 0 ks hx
 refine⟨fun i hi=>?_,by simp;omega⟩
 by_cases hlt:i<(iV ks).1.length
 ·simp only[List.getElem_append_left hlt]
  exact key ks hx i hlt
 ·obtain rfl:i=(iV ks).1.length:=by simp at hi;omega
  simp only[List.getElem_concat_length]
  refine⟨Or.inr rfl,fun h=>absurd (show (2:Int)=1 from h) (by decide),fun k hk=>?_,by rw[h1];exact hw,hw2⟩
  obtain⟨j,hj,rfl⟩:=List.getElem_of_mem (show k∈(iV ks).2 from hk)
  have:=h2 j (by omega)
  have e:(iV ks).2.getD j 0=(iV ks).2[j]:=by simp[List.getD,show j<(iV ks).2.length from hj]
  rw[e] at this
  exact⟨this.1,this.2.1⟩
theorem srv_wf{i:Nat}(h:i<12):qA (lY i):=by
 refine⟨fun j hj=>?_,by simp[lY]⟩
 obtain rfl:j=0:=by simp[lY] at hj;omega
 exact⟨Or.inl rfl,fun _=>by show 0≤(i:Int)∧(i:Int)<12;omega,fun k hk=>absurd hk (by simp[lY]),Or.inl rfl,fun v hv=>absurd hv (by simp[lY])⟩
theorem BR(i s:Nat):bW (lY i) s=s.testBit i:=by
 rw[jF (by simp[lY])]
 rfl
theorem Aa{s i:Nat}(hs:s<4096)(hi:i<12):(4095-s).testBit i=!s.testBit i:=by
 rw[show 4095-s=2^12-(s+1) by omega,Nat.testBit_two_pow_sub_succ (by omega)]
 simp[hi]
theorem sumW_not{n:Nd}{L:List Bool}(h:∀k∈n.kids,0≤k∧k<(L.length:Int)):G9 n (L.map (!·))=allW n-G9 n L:=by
 have key:∀m,m≤n.kids.length→((List.range m).map fun k=>if (L.map (!·)).getD (n.kids.getD k 0).toNat false then wgt n k else 0).sum=((List.range m).map fun k=>wgt n k).sum-((List.range m).map fun k=>if L.getD (n.kids.getD k 0).toNat false then wgt n k else 0).sum:=by
  intro m
  induction m with
  |zero=>intro _;simp
  |succ m ih=>
   intro hm
   have e:n.kids.getD m 0=n.kids[m]:=by simp[List.getD,show m<n.kids.length from hm]
   have hk:=h _ (bQ (show m<n.kids.length from hm))
   have hk2:n.kids[m].toNat<L.length:=by omega
   simp only[List.range_succ,List.map_append,List.sum_append,List.map_singleton,List.sum_singleton]
   rw[ih (by omega),e]
   have e2:(L.map (!·)).getD n.kids[m].toNat false=!(L.getD n.kids[m].toNat false):=by simp[List.getD,hk2]
   rw[e2]
   cases L.getD n.kids[m].toNat false<;>simp<;>omega
 exact key _ (aP _)
theorem Er{n:Nd}(L:List Bool)(h:∀w∈n.ws,0≤w):0≤G9 n L:=by
 unfold G9
 generalize List.range n.kids.length=R
 induction R with
 |nil=>simp
 |cons k r ih=>
  rw[List.map_cons,List.sum_cons]
  have:0≤wgt n k:=by
   unfold wgt
   split
   ·decide
   ·by_cases hk:k<n.ws.length
    ·rw[show n.ws.getD k 0=n.ws[k] by simp[List.getD,hk]];exact h _ (bQ hk)
    ·have e:n.ws[k]?=none:=List.getElem?_eq_none (by omega)
     simp[List.getD,e]
  split<;>omega
theorem ndsE_ok{l:List Nd}:∀{i:Nat},Ir i l=0→∀j (h:j<l.length),ndE (i+j) l[j]=0:=by
 induction l with
 |nil=>intro i _ j h;simp at h
 |cons n r ih=>
  intro i h j hj
  rw[Ir] at h
  split at h
  ·rename_i h9;exact absurd h h9
  ·rename_i h9
   cases j with
   |zero=>exact Decidable.not_not.1 h9
   |succ j=>have:=ih h j (by simpa using hj);rw[show i+(j+1)=i+1+j by omega];exact this
theorem exE_ok{x:Ex}(h:exE x=0):qA x:=by
 unfold exE at h
 split at h
 ·cases h
 split at h
 ·cases h
 split at h
 ·rename_i h9;exact absurd h h9
 split at h
 ·cases h
 rename_i h0 h1 h2 h3
 have hnd:=ndsE_ok (Decidable.not_not.1 h2)
 have key:∀i (hi:i<x.nodes.length),NdWf i x.nodes[i]:=by
  intro i hi
  have he:=hnd i hi
  rw[Nat.zero_add] at he
  unfold ndE at he
  have hk:(x.nodes[i].kind=1∨x.nodes[i].kind=2)∧ndE.ndE2 i x.nodes[i]=0:=by
   split at he
   ·rename_i h9
    split at he
    ·cases he
    ·exact⟨Or.inl h9,he⟩
   ·split at he
    ·rename_i h9
     split at he
     ·cases he
     ·exact⟨Or.inr h9,he⟩
    ·cases he
  obtain⟨hk,he2⟩:=hk
  unfold ndE.ndE2 at he2
  split at he2
  ·cases he2
  split at he2
  ·cases he2
  split at he2
  ·cases he2
  rename_i g1 g2 g3
  simp only[not_or,Bool.not_eq_true,List.any_eq_false,Bool.or_eq_true,decide_eq_true_eq,not_or] at g1 g3
  obtain⟨g11,g12,-,-,g15⟩:=g1
  exact⟨hk,fun _=>by omega,fun k hk=>by have:=g3 k hk;omega,by omega,fun w hw=>by have:=g15 w hw;omega⟩
 exact⟨key,by omega⟩
theorem CY{s:Nat}(hs:s<4096):∀l:List Nd,(∀i (h:i<l.length),NdWf i l[i])→holdsGo s (l.map jP)=(holdsGo (4095-s) l).map (!·):=by
 intro l
 induction l using dU with
 |nil=>intros;rfl
 |snoc l n ih=>
  intro h
  have hn:=h l.length (by simp)
  simp only[List.getElem_concat_length] at hn
  rw[List.map_append,List.map_singleton,eD,eD,ih (fun i hi=>by have:=h i (by simp;omega);rwa [List.getElem_append_left hi] at this),List.map_append,List.map_singleton]
  congr 2
  unfold jP
  rcases hn.kind with hk|hk
  ·rw[if_neg (by rw[hk];decide)]
   unfold iT
   rw[if_pos hk,if_pos hk,Aa hs (by have:=hn.server hk;omega),Bool.not_not]
  ·rw[if_pos hk]
   unfold iT
   simp only[hk]
   rw[if_neg (by decide),if_neg (by decide)]
   have e:=sumW_not (n:=n) (L:=holdsGo (4095-s) l) (fun k hk=>by rw[di];exact hn.kids k hk)
   have hp:=Er (n:=n) ((holdsGo (4095-s) l).map (!·)) (fun w hw=>by have:=hn.wt w hw;omega)
   show decide (max 0 (allW n-n.need+1)≤G9 n ((holdsGo (4095-s) l).map (!·)))=!decide (n.need≤G9 n (holdsGo (4095-s) l))
   rw[Bool.eq_iff_iff,decide_eq_true_eq,Bool.not_eq_true',decide_eq_false_iff_not]
   omega
theorem dual_ok{x:Ex}(h:(kU x).2=0):exE x=0∧(kU x).1=⟨x.nodes.map jP,x.root⟩:=by
 unfold kU at h ⊢
 by_cases h9:exE x≠0
 ·rw[if_pos h9] at h;exact absurd h h9
 ·rw[if_neg h9];exact⟨Decidable.not_not.1 h9,rfl⟩
theorem Jm{x:Ex}(h:(kU x).2=0){s:Nat}(hs:s<4096):bW (kU x).1 s=!bW x (4095-s):=by
 obtain⟨he,hd⟩:=dual_ok h
 have hw:=exE_ok he
 rw[hd,jF (by simpa using hw.root),jF hw.root,CY hs x.nodes hw.nd]
 have:=hw.root
 have hlt:x.root.toNat<(holdsGo (4095-s) x.nodes).length:=by rw[di];omega
 simp[List.getD,hlt]
theorem dual_wf{x:Ex}(h:(kU x).2=0):qA (kU x).1:=by
 obtain⟨he,hd⟩:=dual_ok h
 have hw:=exE_ok he
 rw[hd]
 refine⟨fun i hi=>?_,by simpa using hw.root⟩
 have hn:=hw.nd i (by simpa using hi)
 simp only[List.getElem_map]
 unfold jP
 split
 ·exact⟨hn.kind,hn.server,hn.kids,hn.ws,hn.wt⟩
 ·exact hn
end
section
def gJ(l:List Dc):List ByteArray:=(tab l).map (·.1)
theorem vM{t:List (ByteArray × Int)}{ns:Nat}{nm:ByteArray}:∀{l pre:List ByteArray},qN t ns nm pre l=0→l.Nodup∧(∀y∈l,y∉pre∧y≠nm)∧(l≠[]→ns+pre.length+l.length≤12):=by
 intro l
 induction l with
 |nil=>intro pre _;exact⟨List.nodup_nil,fun y h=>absurd h (by simp),fun h=>absurd rfl h⟩
 |cons x r ih=>
  intro pre h
  rw[qN] at h
  split at h
  ·cases h
  split at h
  ·cases h
  rename_i h1 h2
  obtain⟨i1,i2,i3⟩:=ih h
  simp only[not_or] at h1
  refine⟨List.nodup_cons.2 ⟨fun hx=>?_,i1⟩,fun y hy=>?_,fun _=>?_⟩
  ·exact (i2 x hx).1 (by simp)
  ·rcases List.mem_cons.1 hy with rfl|hy
   ·exact⟨fun hm=>h1.2.2 ((DY _ _).2 hm),h1.2.1⟩
   ·exact⟨fun hm=>(i2 y hy).1 (dO _ hm),(i2 y hy).2⟩
  ·by_cases hr:r=[]
   ·subst hr;simp;omega
   ·have:=i3 hr;simp at this ⊢;omega
theorem zH(d:Dc):(rT d).map (·.1)=(if dI d.kind=0 then [] else [d.name])++(if d.kind=1 then d.names else []):=by
 unfold rT
 rw[List.map_append]
 congr 1
 ·split<;>rfl
 ·split
  ·rw[List.map_map];exact List.map_id' _
  ·rfl
theorem oq{l:List Dc}{i:Nat}(h:i<l.length):tab (l.take (i+1))=tab (l.take i)++rT l[i]:=by
 rw[cO h];unfold tab;rw[List.flatMap_append];simp
theorem Cf{l:List Dc}{i:Nat}(h:i<l.length):ai (l.take (i+1))=ai (l.take i)++(if l[i].kind=1 then l[i].names else []):=by
 rw[cO h];unfold ai bV;rw[List.flatMap_append];simp
theorem tT(l:List Dc):aH l=(ai l).length:=by
 unfold aH ai bV
 rw[List.length_flatMap]
 congr 1
 refine List.map_congr_left fun d _=>?_
 split<;>rfl
section
variable {l:List Dc}
theorem tab_once(h:∀i (hi:i<l.length),iK (l.take i) l[i]=0):∀i,i≤l.length→(gJ (l.take i)).Nodup∧(ai (l.take i)).length≤12:=by
 intro i
 induction i with
 |zero=>intro _;exact⟨by simp[gJ,tab],by simp[ai,bV]⟩
 |succ i ih=>
  intro hi
  obtain⟨h1,h2⟩:=ih (by omega)
  have hd:=h i hi
  have hz:=fun y=>zm (gU (l.take i)) y
  have hs:l[i].kind=1→qN (tab (l.take i)) (aH (l.take i)) l[i].name [] l[i].names=0:=fun hk=>(Jy hd hk).2
  refine⟨?_,?_⟩
  ·unfold gJ
   rw[oq hi,List.map_append,List.nodup_append,zH]
   refine⟨h1,?_,?_⟩
   ·by_cases hk:l[i].kind=1
    ·have hk0:¬dI l[i].kind=0:=by rw[hk];decide
     rw[if_neg hk0,if_pos hk,List.singleton_append,List.nodup_cons]
     exact⟨fun hm=>((vM (hs hk)).2.1 _ hm).2 rfl,(vM (hs hk)).1⟩
    ·rw[if_neg hk,List.append_nil];split<;>simp
   ·intro a ha b hb hab
    subst hab
    obtain⟨p,hp,hpa⟩:=List.mem_map.1 ha
    rcases List.mem_append.1 hb with hb|hb
    ·split at hb
     ·simp at hb
     ·rename_i hk
      obtain rfl:a=l[i].name:=by simpa using hb
      exact (hz _).1 (zB hd hk) p hp hpa
    ·split at hb
     ·rename_i hk
      exact (hz _).1 (Hl (hs hk) a hb) p hp hpa
     ·simp at hb
  ·rw[Cf hi,bD]
   split
   ·rename_i hk
    by_cases h0:l[i].names=[]
    ·rw[h0];simpa using h2
    ·have:=(vM (hs hk)).2.2 h0
     rw[tT] at this
     simpa using this
   ·simpa using h2
theorem fw(h:(bf l).2=0):(gJ l).Nodup∧(ai l).length≤12:=by
 have:=tab_once (je h).2.1 l.length (aP _)
 rwa [List.take_length] at this
theorem mQ(l:List Dc):(ai l).Sublist (gJ l):=by
 unfold ai bV gJ tab
 rw[List.map_flatMap]
 induction l with
 |nil=>simp
 |cons d r ih=>
  rw[List.flatMap_cons,List.flatMap_cons]
  refine List.Sublist.append ?_ ih
  rw[zH]
  exact List.sublist_append_right _ _
theorem findK_of{t:List (ByteArray × Int)}(h:(t.map (·.1)).Nodup){x:ByteArray}{k:Int}(hm:(x,k)∈t):aQ t x=k:=by
 induction t with
 |nil=>simp at hm
 |cons p r ih=>
  rw[List.map_cons,List.nodup_cons] at h
  rw[aQ]
  by_cases hp:p.1=x
  ·rw[if_pos ((eT _ _).2 hp)]
   rcases List.mem_cons.1 hm with rfl|hm
   ·rfl
   ·exact absurd (List.mem_map.2 ⟨_,hm,rfl⟩) (by rw[←hp];exact h.1)
  ·rw[if_neg (fun e=>hp ((eT _ _).1 e))]
   rcases List.mem_cons.1 hm with rfl|hm
   ·exact absurd rfl hp
   ·exact ih h.2 hm
theorem Eo{x:ByteArray}{k:Int}:(x,k)∈tab l↔∃d∈l,(dI d.kind≠0∧x=d.name∧k=dI d.kind)∨(d.kind=1∧x∈d.names∧k=2):=by
 unfold tab
 rw[List.mem_flatMap]
 refine exists_congr fun d=>and_congr_right fun _=>?_
 unfold rT
 rw[List.mem_append]
 refine or_congr ?_ ?_
 ·split
  ·rename_i h;simp[h]
  ·rename_i h;simp[h]
 ·split
  ·rename_i h
   rw[List.mem_map]
   constructor
   ·rintro⟨y,hy,e⟩;cases e;exact⟨h,hy,rfl⟩
   ·rintro⟨-,hy,rfl⟩;exact⟨x,hy,rfl⟩
  ·rename_i h;simp[h]
theorem DL(k:Int):dI k≠2:=by rcases FL k with h|h|h|h|h|h<;>rw[h]<;>decide
theorem wL(h:(gJ l).Nodup)(x:ByteArray):aQ (tab l) x=2↔x∈ai l:=by
 constructor
 ·intro h2
  have hm:=Dk (l:=l) (y:=x) (by rw[h2];decide)
  rw[h2] at hm
  obtain⟨d,hd,⟨-,-,e⟩|⟨hk,hx,-⟩⟩:=Eo.1 hm
  ·exact absurd e.symm (DL _)
  ·exact List.mem_flatMap.2 ⟨d,hd,by rw[if_pos hk];exact hx⟩
 ·intro hx
  obtain⟨d,hd,hx⟩:=List.mem_flatMap.1 hx
  split at hx
  ·rename_i hk
   exact findK_of h (Eo.2 ⟨d,hd,Or.inr ⟨hk,hx,rfl⟩⟩)
  ·simp at hx
def rO(l:List Dc)(x:ByteArray):Option Dc:=l.find? fun d=>d.name==x&&(!decide (d.kind=5)&&!decide (d.kind=7))
theorem vX{x:ByteArray}:∀{l:List Dc},(gJ l).Nodup→∀d∈l,∀e∈l,dI d.kind≠0→dI e.kind≠0→d.name=x→e.name=x→d=e:=by
 intro l
 induction l with
 |nil=>intro _ d hd;simp at hd
 |cons a r ih=>
  intro hn d hd e he hdk hek hdx hex
  unfold gJ tab at hn
  rw[List.flatMap_cons,List.map_append,List.nodup_append] at hn
  have hout:∀b∈r,dI b.kind≠0→b.name∈(r.flatMap rT).map (·.1):=fun b hb hk=>List.mem_map.2 ⟨(b.name,dI b.kind),List.mem_flatMap.2 ⟨b,hb,xC hk⟩,rfl⟩
  have hin:dI a.kind≠0→a.name∈(rT a).map (·.1):=fun hk=>List.mem_map.2 ⟨(a.name,dI a.kind),xC hk,rfl⟩
  rcases List.mem_cons.1 hd with rfl|hd2<;>rcases List.mem_cons.1 he with rfl|he2
  ·rfl
  ·exact absurd (hdx.trans hex.symm) (hn.2.2 _ (hin hdk) _ (hout e he2 hek))
  ·exact absurd (hex.trans hdx.symm) (hn.2.2 _ (hin hek) _ (hout d hd2 hdk))
  ·exact ih hn.2.1 d hd2 e he2 hdk hek hdx hex
def uF(l:List Dc):Prop:=∀d∈l,1≤d.kind∧d.kind≤7
theorem kind_some{d:Dc}(h:1≤d.kind∧d.kind≤7)(h5:d.kind≠5)(h7:d.kind≠7):dI d.kind≠0:=by
 obtain⟨h1,h2⟩:=h
 have:d.kind=1∨d.kind=2∨d.kind=3∨d.kind=4∨d.kind=6:=by omega
 rcases this with e|e|e|e|e<;>rw[e]<;>decide
theorem Gz(hn:(gJ l).Nodup)(hk:uF l){d:Dc}(hd:d∈l)(hdk:dI d.kind≠0):rO l d.name=some d:=by
 have h57:d.kind≠5∧d.kind≠7:=⟨fun e=>hdk (by rw[e];rfl),fun e=>hdk (by rw[e];rfl)⟩
 cases h:rO l d.name with
 |none=>
  have:=List.find?_eq_none.1 h d hd
  simp[h57.1,h57.2,rX] at this
 |some e=>
  have h1:=List.find?_some h
  have h2:=List.mem_of_find?_eq_some h
  simp only[Bool.and_eq_true,eT,Bool.not_eq_true',decide_eq_false_iff_not] at h1
  rw[vX hn e h2 d hd (kind_some (hk e h2) h1.2.1 h1.2.2) hdk h1.1 rfl]
theorem uS(hn:(gJ l).Nodup){d:Dc}(hd:d∈l)(hdk:dI d.kind≠0):nY l d.kind d.name=some d:=by
 cases h:nY l d.kind d.name with
 |none=>
  have:=List.find?_eq_none.1 h d hd
  simp[rX] at this
 |some e=>
  have h1:=List.find?_some h
  have h2:=List.mem_of_find?_eq_some h
  simp only[Bool.and_eq_true,eT,decide_eq_true_eq] at h1
  rw[vX hn e h2 d hd (by rw[h1.1];exact hdk) hdk h1.2 rfl]
theorem xg(hn:(gJ l).Nodup)(hk:uF l){x:ByteArray}{k:Int}(hx:aQ (tab l) x=dI k)(h0:dI k≠0):∃d∈l,d.kind=k∧d.name=x∧rO l x=some d∧nY l k x=some d:=by
 have hm:=Dk (l:=l) (y:=x) (by rw[hx];exact h0)
 rw[hx] at hm
 obtain⟨d,hd,⟨h1,rfl,e⟩|⟨-,-,e⟩⟩:=Eo.1 hm
 ·have hkk:d.kind=k:=by
   have inj:∀a b:Int,dI a=dI b→dI a≠0→a=b:=by
    intro a b hab ha
    unfold dI at hab ha
    repeat' split at hab
    all_goals simp_all
   exact inj _ _ e.symm h1
  subst hkk
  exact⟨d,hd,rfl,rfl,Gz hn hk hd h1,uS hn hd h1⟩
 ·exact absurd e (DL _)
def Gm(sv:List ByteArray)(x:ByteArray):Option Nat:=sv.findIdx? (·==x)
theorem yF{sv:List ByteArray}(h:sv.Nodup)(x:ByteArray):iQ sv x=Gm sv x:=by
 induction sv using dU with
 |nil=>rfl
 |snoc sv n ih=>
  rw[List.nodup_append] at h
  rw[oC,ih h.1,Gm,Gm,List.findIdx?_append]
  by_cases hx:n=x
  ·subst hx
   have hno:List.findIdx? (·==n) sv=none:=by
    rw[List.findIdx?_eq_none_iff]
    intro y hy
    have:=h.2.2 y hy n (by simp)
    rw[rX];simp[this]
   rw[if_pos rfl,hno]
   simp[List.findIdx?_cons,rX]
  ·rw[if_neg hx]
   simp[List.findIdx?_cons,rX,hx]
theorem sG{sv:List ByteArray}{x:ByteArray}{i:Nat}(h:iQ sv x=some i):i<sv.length:=by
 induction sv using dU with
 |nil=>cases h
 |snoc sv n ih=>
  rw[oC] at h
  split at h
  ·cases h;simp
  ·have:=ih h;simp;omega
theorem yG{sv:List ByteArray}{x:ByteArray}:iQ sv x=none↔x∉sv:=by
 induction sv using dU with
 |nil=>simp[iQ]
 |snoc sv n ih=>
  rw[oC]
  by_cases hx:n=x
  ·simp[hx]
  ·rw[if_neg hx,ih,List.mem_append,List.mem_singleton]
   exact⟨fun h h2=>h2.elim h (fun e=>hx e.symm),fun h h2=>h (Or.inl h2)⟩
theorem svSet_two(sv l:List ByteArray):iA sv l<2^sv.length:=by
 induction l using dU with
 |nil=>exact Nat.two_pow_pos _
 |snoc l n ih=>
  rw[lX]
  split
  ·rename_i i h
   exact Nat.or_lt_two_pow ih (Nat.pow_lt_pow_right (by decide) (sG h))
  ·exact ih
theorem svSet_bit{sv l:List ByteArray}{i:Nat}:(iA sv l).testBit i=true↔∃n∈l,iQ sv n=some i:=by
 induction l using dU with
 |nil=>simp[iA]
 |snoc l n ih=>
  rw[lX]
  cases h:iQ sv n with
  |none=>
   simp only[ih,List.mem_append,List.mem_singleton]
   constructor
   ·rintro⟨m,hm,e⟩;exact⟨m,Or.inl hm,e⟩
   ·rintro⟨m,hm|rfl,e⟩
    ·exact⟨m,hm,e⟩
    ·rw[h] at e;cases e
  |some k=>
   simp only[Nat.testBit_or,Bool.or_eq_true,ih,Nat.testBit_two_pow,decide_eq_true_eq,List.mem_append,List.mem_singleton]
   constructor
   ·rintro (⟨m,hm,e⟩|rfl)
    ·exact⟨m,Or.inl hm,e⟩
    ·exact⟨n,Or.inr rfl,h⟩
   ·rintro⟨m,hm|rfl,e⟩
    ·exact Or.inl ⟨m,hm,e⟩
    ·rw[h] at e;cases e;exact Or.inr rfl
theorem svSet_all{sv:List ByteArray}(h:sv.Nodup):iA sv sv=2^sv.length-1:=by
 refine Nat.eq_of_testBit_eq fun i=>?_
 rw[Nat.testBit_two_pow_sub_one,Bool.eq_iff_iff,svSet_bit,decide_eq_true_eq]
 constructor
 ·rintro⟨n,-,e⟩
  exact sG e
 ·intro hi
  refine⟨sv[i],bQ hi,?_⟩
  rw[yF h,Gm,List.findIdx?_eq_some_iff_getElem]
  refine⟨hi,by simp[rX],fun j hj=>?_⟩
  rw[rX,decide_eq_true_eq]
  intro e
  exact absurd ((List.getElem_inj h).1 e) (by omega)
end
end
section
theorem qF(ws:List Int)(hs:List Bool)(b:Bool):BI ws (hs++[b])=BI ws hs+if b then (if ws.length=0 then 1 else ws.getD hs.length 0) else 0:=by
 unfold BI
 rw[bD,List.length_singleton,List.range_succ,List.map_append,List.sum_append,List.map_singleton,List.sum_singleton]
 have e:(hs++[b]).getD hs.length false=b:=by simp[List.getD]
 rw[e]
 congr 2
 refine List.map_congr_left fun k hk=>?_
 have hk2:k<hs.length:=by simpa using hk
 rw[rH hk2]
theorem wSum_one(hs:List Bool):BI [] hs=((hs.filter (·)).length:Int):=by
 induction hs using dU with
 |nil=>rfl
 |snoc hs b ih=>
  rw[qF,ih,List.filter_append,bD]
  cases b<;>simp
theorem wSum_le(hs:List Bool):0≤BI [] hs∧BI [] hs≤(hs.length:Int):=by
 rw[wSum_one]
 have:=List.length_filter_le (·) hs
 omega
def iy(n s:Nat):Nat:=((List.range n).filter fun i=>s.testBit i).length
theorem eG(n s:Nat):iy (n+1) s=iy n s+if s.testBit n then 1 else 0:=by
 unfold iy
 rw[List.range_succ,List.filter_append,bD]
 by_cases h:s.testBit n=true
 ·simp[h]
 ·simp[h]
theorem DR{n s:Nat}(h:s<2^n):∀k,iy (n+k) s=iy n s:=by
 intro k
 induction k with
 |zero=>rfl
 |succ k ih=>
  rw[←Nat.add_assoc,eG,ih,Nat.testBit_lt_two_pow (bZ h (Nat.pow_le_pow_right (by decide) (gD n k)))]
  simp
theorem lF(n s:Nat):iy n s≤n:=by
 unfold iy
 have:=List.length_filter_le (fun i=>s.testBit i) (List.range n)
 simpa using this
theorem srv_count(G s n:Nat):(iH G n).length=iy n G∧BI [] ((iH G n).map (bW · s))=(iy n (G&&&s):Nat):=by
 induction n with
 |zero=>exact⟨rfl,rfl⟩
 |succ n ih=>
  rw[vH,eG,eG,bD,List.map_append]
  by_cases h:G.testBit n=true
  ·rw[if_pos h,if_pos h,ih.1]
   refine⟨rfl,?_⟩
   rw[List.map_singleton,qF,ih.2,BR,Nat.testBit_and,h,Bool.true_and]
   split<;>simp
  ·rw[if_neg h,if_neg h,ih.1]
   refine⟨rfl,?_⟩
   have h0:G.testBit n=false:=by simpa using h
   rw[List.map_nil,List.append_nil,ih.2,Nat.testBit_and,h0]
   simp
theorem Et{G N:Nat}(hN:N≤12)(hG:G<2^N)(s:Nat):(iH G N).length=iy 12 G∧BI [] ((iH G N).map (bW · s))=(iy 12 (G&&&s):Nat):=by
 obtain⟨h1,h2⟩:=srv_count G s N
 rw[show 12=N+(12-N) by omega,DR hG,DR (fG Nat.and_le_left hG)]
 exact⟨h1,h2⟩
theorem cntTo_and(n G s:Nat):iy n (G&&&s)≤iy n G:=by
 induction n with
 |zero=>exact aP _
 |succ n ih=>
  rw[eG,eG,Nat.testBit_and]
  cases G.testBit n<;>cases s.testBit n<;>simp<;>omega
theorem BS{G N:Nat}(hN:N≤12):∀x∈iH G N,qA x:=by
 intro x hx
 unfold iH at hx
 obtain⟨i,hi,rfl⟩:=List.mem_map.1 hx
 have:=List.mem_range.1 (List.mem_filter.1 hi).1
 exact srv_wf (by omega)
theorem Fv{l:List Dc}(x:ByteArray):gH l x<2^(ai l).length:=by
 unfold gH
 split
 ·have:=Nat.two_pow_pos (ai l).length;omega
 ·split
  ·exact svSet_two _ _
  ·exact Nat.two_pow_pos _
theorem isE_two{t:List (ByteArray × Int)}{x:ByteArray}(h:isE t x [2,4]=0):aQ t x=2∨aQ t x=4:=by
 unfold isE at h
 split at h
 ·cases h
 ·split at h
  ·rename_i h9;simpa using h9
  ·cases h
theorem thrE_ws{nd:Int}{ws:List Int}{k:Nat}(h:JZ nd ws k=0):∀v∈ws,1≤v∧v≤1000:=by
 intro v hv
 unfold JZ at h
 rw[if_pos (List.length_pos_of_mem hv)] at h
 split at h
 ·cases h
 ·rename_i h9
  simp only[Bool.not_eq_true,List.any_eq_false,Bool.or_eq_true,decide_eq_true_eq,not_or] at h9
  have:=h9 v hv
  omega
theorem isE_only{t:List (ByteArray × Int)}{x:ByteArray}(h:isE t x [1]=0):aQ t x=1:=by
 unfold isE at h
 split at h
 ·cases h
 ·split at h
  ·rename_i h9;simpa using h9
  ·cases h
def Typed(pre:List Dc)(t:Tm):Prop:=lT t=true∧iP (tab pre) (aH pre) t=0
theorem termsE_ok{t:List (ByteArray × Int)}{ns:Nat}:∀{l:List Tm},ni t ns l=0→∀k∈l,iP t ns k=0:=by
 intro l
 induction l with
 |nil=>intro _ k hk;simp at hk
 |cons a r ih=>
  intro h k hk
  rw[ni] at h
  split at h
  ·rename_i h9;exact absurd h h9
  ·rename_i h9
   rcases List.mem_cons.1 hk with rfl|hk
   ·exact Decidable.not_not.1 h9
   ·exact ih h k hk
section
variable {l pre:List Dc} {env:ByteArray→Ex × Nat} {op:Int} {name:ByteArray} {need:Int} {ws:List Int} {kids:List Tm}
theorem Typed.parts(h:Typed pre (.mk op name need ws kids)):bJ (.mk op name need ws kids)=true∧(∀n∈ws,small n=true)∧ownE (tab pre) (aH pre) op name need ws kids.length=0∧∀k∈kids,Typed pre k:=by
 obtain⟨h1,h2⟩:=h
 obtain⟨a,b,c⟩:=oL h1
 rw[iP] at h2
 split at h2
 ·rename_i h9;exact absurd h2 h9
 ·rename_i h9
  exact⟨a,b,Decidable.not_not.1 h9,fun k hk=>⟨c k hk,termsE_ok h2 k hk⟩⟩
theorem Typed.cases(h:Typed pre (.mk op name need ws kids)):
  (op=1∧ws=[]∧kids=[]∧dP name=true∧(aQ (tab pre) name=2∨aQ (tab pre) name=4))∨
  (op=2∧name.size=0∧(ws.length=0∨ws.length=kids.length)∧∀v∈ws,1≤v∧v≤1000)∨((op=3∨op=4)∧name.size=0∧ws=[])∨(op=5∧name.size=0∧ws=[]∧kids.length=1)∨
  ((op=6∨op=7∨op=8)∧ws=[]∧kids=[]∧(name=(⟨#[115,101,114,118,101,114,115]⟩:ByteArray)∨name≠(⟨#[115,101,114,118,101,114,115]⟩:ByteArray)∧aQ (tab pre) name=1)):=by
 obtain⟨h1,-,h3,-⟩:=h.parts
 unfold bJ at h1
 simp only[show (Tm.mk op name need ws kids).op=op from rfl,show (Tm.mk op name need ws kids).name=name from rfl,show (Tm.mk op name need ws kids).need=need from rfl,show (Tm.mk op name need ws kids).ws=ws from rfl,show (Tm.mk op name need ws kids).kids=kids from rfl] at h1
 unfold ownE at h3
 by_cases e1:op=1
 ·left
  rw[if_pos e1] at h1 h3
  simp only[Bool.and_eq_true,bare,decide_eq_true_eq,show (Tm.mk op name need ws kids).ws=ws from rfl,show (Tm.mk op name need ws kids).kids=kids from rfl] at h1
  have hk:=isE_two h3
  exact⟨e1,List.length_eq_zero_iff.1 (by omega),List.length_eq_zero_iff.1 (by omega),h1.1,hk⟩
 rw[if_neg e1] at h1 h3
 by_cases e6:op=6∨op=7∨op=8
 ·right;right;right;right
  rw[if_pos e6] at h1
  rw[if_neg (by omega),if_pos e6] at h3
  simp only[Bool.and_eq_true,bare,decide_eq_true_eq,show (Tm.mk op name need ws kids).ws=ws from rfl,show (Tm.mk op name need ws kids).kids=kids from rfl] at h1
  refine⟨e6,List.length_eq_zero_iff.1 (by omega),List.length_eq_zero_iff.1 (by omega),?_⟩
  by_cases hs:name=(⟨#[115,101,114,118,101,114,115]⟩:ByteArray)
  ·exact Or.inl hs
  ·rw[if_neg hs] at h3
   exact Or.inr ⟨hs,isE_only h3⟩
 rw[if_neg e6] at h1
 right
 by_cases e2:op=2
 ·left
  rw[if_pos e2] at h1
  simp only[Bool.and_eq_true,Bool.or_eq_true,decide_eq_true_eq] at h1
  rw[if_pos e2] at h3
  exact⟨e2,h1.1.1.1,h1.2,thrE_ws h3⟩
 rw[if_neg e2] at h1
 right
 by_cases e3:op=3∨op=4
 ·left
  rw[if_pos e3] at h1
  simp only[Bool.and_eq_true,decide_eq_true_eq] at h1
  exact⟨e3,h1.1.1.1,List.length_eq_zero_iff.1 h1.1.2⟩
 rw[if_neg e3] at h1
 right;left
 by_cases e5:op=5
 ·rw[if_pos e5] at h1
  simp only[Bool.and_eq_true,decide_eq_true_eq] at h1
  exact⟨e5,h1.1.1.1,List.length_eq_zero_iff.1 h1.1.2,h1.2⟩
 ·rw[if_neg e5] at h1;cases h1
theorem exTms_ok:∀{kids:List Tm},(iU l env kids).2=0→(iU l env kids).1=kids.map (fun t=>(fK l env t).1)∧∀k∈kids,(fK l env k).2=0:=by
 intro kids
 induction kids with
 |nil=>intro _;exact⟨rfl,fun k hk=>by simp at hk⟩
 |cons a r ih=>
  intro h
  rw[iU] at h ⊢
  split at h
  ·rename_i h9;exact absurd h h9
  ·rename_i h9
   rw[if_neg h9]
   obtain⟨i1,i2⟩:=ih h
   refine⟨by rw[i1];rfl,fun k hk=>?_⟩
   rcases List.mem_cons.1 hk with rfl|hk
   ·exact Decidable.not_not.1 h9
   ·exact i2 k hk
theorem kH(h:(fK l env (.mk op name need ws kids)).2=0):(iU l env kids).2=0∧fK l env (.mk op name need ws kids)=gX l env op name need ws (kids.map fun t=>(fK l env t).1)∧∀k∈kids,(fK l env k).2=0:=by
 have e:fK l env (.mk op name need ws kids)=if (iU l env kids).2≠0 then (ex0,(iU l env kids).2) else gX l env op name need ws (iU l env kids).1:=by rw[fK]
 rw[e] at h ⊢
 split at h
 ·rename_i h9;exact absurd h h9
 ·rename_i h9
  obtain⟨i1,i2⟩:=exTms_ok (Decidable.not_not.1 h9)
  rw[if_neg h9,i1]
  exact⟨Decidable.not_not.1 h9,rfl,i2⟩
structure Plain(l pre:List Dc):Prop where
 once:(gJ l).Nodup
 sv:(ai l).length≤12
 sub:∀x,aQ (tab pre) x≠0→aQ (tab l) x=aQ (tab pre) x
theorem Plain.srv(h:Plain l pre){x:ByteArray}(hx:aQ (tab pre) x=2):∃i,iQ (ai l) x=some i∧i<12:=by
 have h2:aQ (tab l) x=2:=by rw[h.sub x (by rw[hx];decide)];exact hx
 cases hs:iQ (ai l) x with
 |none=>exact absurd ((wL h.once x).1 h2) (yG.1 hs)
 |some i=>exact⟨i,rfl,by have:=sG hs;have:=h.sv;omega⟩
theorem Plain.qu(h:Plain l pre){x:ByteArray}(hx:aQ (tab pre) x=4):iQ (ai l) x=none:=by
 rw[yG]
 intro hm
 have:=(wL h.once x).2 hm
 rw[h.sub x (by rw[hx];decide),hx] at this
 exact absurd this (by decide)
theorem own_wf(hp:Plain l pre)(ht:Typed pre (.mk op name need ws kids))(wU:∀x,aQ (tab pre) x=4→(env x).2=0→qA (env x).1)(hk:∀k∈kids,qA (fK l env k).1)(h:(fK l env (.mk op name need ws kids)).2=0):qA (fK l env (.mk op name need ws kids)).1:=by
 obtain⟨-,h2,h3⟩:=kH h
 rw[h2] at h ⊢
 have hks:∀x∈kids.map (fun t=>(fK l env t).1),qA x:=fun x hx=>by
  obtain⟨t,ht,rfl⟩:=List.mem_map.1 hx
  exact hk t ht
 rcases ht.cases with ⟨rfl,rfl,rfl,-,hf⟩|⟨rfl,-,hw,hw2⟩|⟨hop,-,rfl⟩|⟨rfl,-,rfl,hl⟩|⟨hop,rfl,rfl,-⟩
 ·unfold gX at h ⊢
  rw[if_pos rfl] at h ⊢
  rcases hf with hf|hf
  ·obtain⟨i,hi,h12⟩:=hp.srv hf
   rw[hi]
   exact srv_wf h12
  ·rw[hp.qu hf] at h ⊢
   exact wU name hf h
 ·unfold gX at h ⊢
  rw[if_neg (by decide),if_neg (by decide),if_pos rfl] at h ⊢
  exact F6 h hks (by simpa using hw) hw2
 ·rcases hop with rfl|rfl
  ·unfold gX at h ⊢
   rw[if_neg (by decide),if_neg (by decide),if_neg (by decide),if_pos rfl] at h ⊢
   exact F6 h hks (Or.inl rfl) (fun v hv=>by simp at hv)
  ·unfold gX at h ⊢
   rw[if_neg (by decide),if_neg (by decide),if_neg (by decide),if_neg (by decide),if_pos rfl] at h ⊢
   exact F6 h hks (Or.inl rfl) (fun v hv=>by simp at hv)
 ·unfold gX at h ⊢
  rw[if_neg (by decide),if_pos rfl] at h ⊢
  exact dual_wf h
 ·unfold gX at h ⊢
  rw[if_neg (by omega),if_neg (by omega),if_neg (by omega),if_neg (by omega),if_neg (by omega)] at h ⊢
  exact F6 h (fun x hx=>by rw[List.map_nil,List.nil_append] at hx;exact BS hp.sv x hx) (Or.inl rfl) (fun v hv=>by simp at hv)
def finB(op need:Int)(n:Nat)(sm:Int):Bool:=if op=3 then sm==(n:Int) else if op=4 then decide (0<sm) else decide (need≤sm)
theorem own_sum{ks:List Ex}(ht:Typed pre (.mk op name need ws kids))(hop:op=2∨op=3∨op=4)(he:(gX l env op name need ws ks).2=0)(hl:ks.length=kids.length)(hx:∀x∈ks,qA x)(s:Nat):
  bW (gX l env op name need ws ks).1 s=finB op need ks.length (BI ws (ks.map (bW · s)))∧(ws.length=0∨ws.length=ks.length)∧∀v∈ws,1≤v∧v≤1000:=by
 have hle:=wSum_le (ks.map (bW · s))
 rw[List.length_map] at hle
 rcases ht.cases with ⟨rfl,-⟩|⟨rfl,-,hw,hw2⟩|⟨hop2,-,rfl⟩|⟨rfl,-⟩|⟨hop2,-⟩
 ·omega
 ·unfold gX at he ⊢
  rw[if_neg (by decide),if_neg (by decide),if_pos rfl] at he ⊢
  exact⟨qK he hx s,by omega,hw2⟩
 ·refine⟨?_,Or.inl rfl,fun v hv=>by simp at hv⟩
  rcases hop2 with rfl|rfl
  ·unfold gX at he ⊢
   rw[if_neg (by decide),if_neg (by decide),if_neg (by decide),if_pos rfl] at he ⊢
   rw[qK he hx s]
   unfold finB
   rw[if_pos rfl,Bool.eq_iff_iff]
   simp
   omega
  ·unfold gX at he ⊢
   rw[if_neg (by decide),if_neg (by decide),if_neg (by decide),if_neg (by decide),if_pos rfl] at he ⊢
   rw[qK he hx s]
   unfold finB
   rw[if_neg (by decide),if_pos rfl,Bool.eq_iff_iff]
   simp
   omega
 ·omega
 ·omega
theorem sW(hp:Plain l pre)(wU:∀x,aQ (tab pre) x=4→(env x).2=0→qA (env x).1):∀(n:Nat)(t:Tm),ax t≤n→Typed pre t→(fK l env t).2=0→qA (fK l env t).1:=by
 intro n
 induction n with
 |zero=>intro t ht;cases t;simp[ax] at ht
 |succ n ih=>
  intro t hs ht h
  cases t with
  |mk op name need ws kids=>
   refine own_wf hp ht wU (fun k hk=>ih k ?_ (ht.parts.2.2.2 k hk) ((kH h).2.2 k hk)) h
   have h1:=gQ (.mk op name need ws kids)
   have h2:=eZ (l:=kids) hk
   simp only[show (Tm.mk op name need ws kids).kids=kids from rfl] at h1
   omega
end
end
section
theorem mE(a b:List (ByteArray × Int))(x:ByteArray)(ha:∀p∈a,p.2≠0):aQ (a++b) x=if aQ a x≠0 then aQ a x else aQ b x:=by
 induction a with
 |nil=>simp[aQ]
 |cons p r ih=>
  rw[List.cons_append,aQ,aQ]
  by_cases h:(p.1==x)=true
  ·rw[if_pos h,if_pos h,if_pos (ha p (by simp))]
  ·rw[if_neg h,if_neg h,ih (fun q hq=>ha q (by simp[hq]))]
theorem tab_split(l:List Dc)(i:Nat):tab l=tab (l.take i)++tab (l.drop i):=by
 unfold tab
 rw[←List.flatMap_append,List.take_append_drop]
theorem ic{l:List Dc}(h:(bf l).2=0)(i:Nat):Plain l (l.take i):=
 ⟨(fw h).1,(fw h).2,fun x hx=>by rw[tab_split l i,mE _ _ _ (gU _),if_pos hx]⟩
theorem plain_all{l:List Dc}(h:(bf l).2=0):Plain l l:=by
 have:=ic h l.length
 rwa [List.take_length] at this
theorem Fw{l:List Dc}(h:(eP l).2=0):l.all vZ=true:=by
 unfold eP at h
 by_cases ho:l.all vZ=true
 ·exact ho
 ·rw[if_neg ho] at h;simp at h
theorem dW{l:List Dc}(h:(bf l).2=0):(∀d∈l,DcOk d)∧uF l:=by
 have h1:=Fw (je h).1
 have h2:∀d∈l,DcOk d:=fun d hd=>JA (List.all_eq_true.1 h1 d hd)
 exact⟨h2,fun d hd=>⟨(h2 d hd).lo,(h2 d hd).hi⟩⟩
theorem EI(a:List (ByteArray × (Ex × Nat)))(n:ByteArray)(r:Ex × Nat)(x:ByteArray)(h:n≠x):jg (a++[(n,r)]) x=jg a x:=by
 induction a with
 |nil=>
  show jg [(n,r)] x=(ex0,0)
  rw[jg,if_neg (fun e=>h ((eT _ _).1 e))]
  rfl
 |cons p q ih=>rw[List.cons_append,jg,jg,ih]
theorem qFind_new(a:List (ByteArray × (Ex × Nat)))(n:ByteArray)(r:Ex × Nat)(h:∀p∈a,p.1≠n):jg (a++[(n,r)]) n=r:=by
 induction a with
 |nil=>
  show jg [(n,r)] n=r
  rw[jg,if_pos ((eT _ _).2 rfl)]
 |cons p q ih=>rw[List.cons_append,jg,if_neg (fun e=>h p (by simp) ((eT _ _).1 e)),ih (fun x hx=>h x (by simp[hx]))]
theorem qGo_names(all:List Dc)(l:List Dc):∀p∈qGo all l,∃d∈l,d.kind=3∧d.name=p.1:=by
 induction l using dU with
 |nil=>intro p hp;simp[qGo] at hp
 |snoc l d ih=>
  intro p hp
  rw[Gn] at hp
  split at hp
  ·rename_i hk
   rcases List.mem_append.1 hp with hp|hp
   ·obtain⟨e,he,h⟩:=ih p hp
    exact⟨e,dO _ he,h⟩
   ·obtain rfl:p=(d.name,fK all (jg (qGo all l)) d.term):=by simpa using hp
    exact⟨d,by simp,hk,rfl⟩
  ·obtain⟨e,he,h⟩:=ih p hp
   exact⟨e,dO _ he,h⟩
theorem Dz{l:List Dc}{d:Dc}(h:iK l d=0)(hk:d.kind=3):iP (tab l) (aH l) d.term=0:=by
 have hn:=iW h
 unfold iK at h
 rw[if_neg hn.1,if_neg hn.2,if_neg (by omega),if_neg (by omega),if_pos hk] at h
 exact h
theorem Hz{l:List Dc}(hc:(bf l).2=0)(P:ByteArray→Ex × Nat→Prop)
  (step:∀i (hi:i<l.length),l[i].kind=3→Typed (l.take i) l[i].term→(∀x,aQ (tab (l.take i)) x=4→P x (jg (qGo l (l.take i)) x))→P l[i].name (fK l (jg (qGo l (l.take i))) l[i].term)):
  ∀i,i≤l.length→∀x,aQ (tab (l.take i)) x=4→P x (jg (qGo l (l.take i)) x):=by
 intro i
 induction i with
 |zero=>intro _ x hx;rw[List.take_zero] at hx;exact absurd hx (by simp[tab,aQ])
 |succ i ih=>
  intro hi x hx
  have h0:=ih (by omega)
  have hd:=(je hc).2.1 i hi
  have hok:=(dW hc).1 l[i] (bQ hi)
  have hq:qGo l (l.take (i+1))=if l[i].kind=3 then qGo l (l.take i)++[(l[i].name,fK l (jg (qGo l (l.take i))) l[i].term)] else qGo l (l.take i):=by
   rw[cO hi,Gn]
  rw[oq hi,mE _ _ _ (gU _)] at hx
  by_cases hk:l[i].kind=3
  ·have hkn:dI l[i].kind≠0:=by rw[hk];decide
   have hnew:=zB hd hkn
   have hty:Typed (l.take i) l[i].term:=by
    refine⟨?_,?_⟩
    ·have:=hok.term
     rw[hk] at this
     exact this
    ·exact Dz hd hk
   rw[hq,if_pos hk]
   by_cases hz:aQ (tab (l.take i)) x=0
   ·rw[if_neg (by rw[hz];simp)] at hx
    have hxn:l[i].name=x:=by
     unfold rT at hx
     simp only[hk] at hx
     rw[if_neg (by decide),if_neg (by decide),List.append_nil,aQ] at hx
     split at hx
     ·rename_i h9;exact (eT _ _).1 h9
     ·exact absurd hx (by simp[aQ])
    subst hxn
    rw[qFind_new _ _ _ (fun p hp e=>by
     obtain⟨d,hd1,hd2,hd3⟩:=qGo_names l (l.take i) p hp
     exact (zm (gU (l.take i)) _).1 hz (d.name,dI d.kind) (List.mem_flatMap.2 ⟨d,hd1,xC (by rw[hd2];decide)⟩) (hd3.trans e))]
    exact step i hi hk hty h0
   ·rw[if_pos hz] at hx
    rw[EI _ _ _ _ (fun e=>hz (by rw[←e];exact hnew))]
    exact h0 x hx
  ·rw[hq,if_neg hk]
   by_cases hz:aQ (tab (l.take i)) x=0
   ·rw[if_neg (by rw[hz];simp)] at hx
    exfalso
    have hm:∃p∈rT l[i],p.2=4:=by
     have key:∀t:List (ByteArray × Int),aQ t x=4→∃p∈t,p.2=4:=by
      intro t
      induction t with
      |nil=>intro h;exact absurd h (by simp[aQ])
      |cons p r ih=>
       intro h
       rw[aQ] at h
       split at h
       ·exact⟨p,by simp,h⟩
       ·obtain⟨q,hq,e⟩:=ih h
        exact⟨q,by simp[hq],e⟩
     exact key _ hx
    obtain⟨p,hp,hp4⟩:=hm
    unfold rT at hp
    rcases List.mem_append.1 hp with hp|hp
    ·split at hp
     ·simp at hp
     ·obtain rfl:p=(l[i].name,dI l[i].kind):=by simpa using hp
      have:dI l[i].kind=4:=hp4
      unfold dI at this
      repeat' split at this
      all_goals simp_all
    ·split at hp
     ·obtain⟨y,-,rfl⟩:=List.mem_map.1 hp
      exact absurd hp4 (by show ¬(2:Int)=4;decide)
     ·simp at hp
   ·rw[if_pos hz] at hx
    exact h0 x hx
theorem Am{l:List Dc}(hc:(bf l).2=0)(P:ByteArray→Ex × Nat→Prop)
  (step:∀i (hi:i<l.length),l[i].kind=3→Typed (l.take i) l[i].term→(∀x,aQ (tab (l.take i)) x=4→P x (jg (qGo l (l.take i)) x))→P l[i].name (fK l (jg (qGo l (l.take i))) l[i].term)):
  ∀x,aQ (tab l) x=4→P x (jg (qGo l l) x):=by
 have:=Hz hc P step l.length (aP _)
 rwa [List.take_length] at this
theorem quorum_wf{l:List Dc}(hc:(bf l).2=0):∀x,aQ (tab l) x=4→(jg (qGo l l) x).2=0→qA (jg (qGo l l) x).1:=
 Am hc (fun _ r=>r.2=0→qA r.1) fun i _ _ ht ih h=>sW (ic hc i) ih _ _ (aP _) ht h
end
section
open Go.RowKit
open _root_.Go.Proofs.Tryz
section
variable {b sb mb:Nat} {A:Option Addr} {c:Nat} {l pre:List Dc} {env:ByteArray→Ex × Nat}
theorem qj(hl:LOk l){t:Tm}(hg:D6 l (QOk b sb mb A c l env) t):EOk b sb mb A c l t (fK l env t):=by
 induction hg with
 |mk op name need ws kids hh hk ih=>exact FB hl op name need ws kids hh (fun k hk'=>⟨ih k hk',uU hl (hk k hk')⟩)
theorem sD(hp:Plain l pre)(hks:uF l){Q:ByteArray→Prop}(hq:∀x,aQ (tab pre) x=4→Q x):∀(n:Nat)(t:Tm),ax t≤n→ax t≤1550000→Typed pre t→D6 l Q t:=by
 intro n
 induction n with
 |zero=>intro t ht;cases t;simp[ax] at ht
 |succ n ih=>
  intro t hs hs2 ht
  cases t with
  |mk op name need ws kids=>
   have h1:ax (.mk op name need ws kids)=1+name.size+ws.length+dG kids:=gQ (.mk op name need ws kids)
   have h2:=lW kids
   refine .mk op name need ws kids ⟨by unfold maxLen;omega,by omega,by omega,fun e hno=>?_,fun e=>?_,fun e1 e2 e3 e4 e5 hs=>?_,?_⟩ (fun k hk=>?_)
   ·rcases ht.cases with ⟨-,-,-,-,hf⟩|⟨rfl,-⟩|⟨hop,-⟩|⟨rfl,-⟩|⟨hop,-⟩
    ·rcases hf with hf|hf
     ·obtain⟨i,hi,-⟩:=hp.srv hf
      rw[hno] at hi
      cases hi
     ·exact hq name hf
    all_goals omega
   ·rcases ht.cases with ⟨rfl,-⟩|⟨rfl,-⟩|⟨hop,-⟩|⟨-,-,-,hl1⟩|⟨hop,-⟩
    ·omega
    ·omega
    ·omega
    ·exact⟨by omega,dual_any⟩
    ·omega
   ·rcases ht.cases with ⟨rfl,-⟩|⟨rfl,-⟩|⟨hop,-⟩|⟨rfl,-⟩|⟨-,-,-,hn⟩
    ·omega
    ·omega
    ·omega
    ·omega
    ·rcases hn with hn|⟨-,hn⟩
     ·exact absurd hn hs
     ·obtain⟨d,-,-,-,-,e⟩:=xg hp.once hks (k:=1) (x:=name) (by rw[hp.sub name (by rw[hn];decide),hn];rfl) (by decide)
      exact⟨d,e⟩
   ·rcases ht.cases with ⟨rfl,-⟩|⟨rfl,-⟩|⟨hop,-⟩|⟨rfl,-⟩|⟨hop,-⟩<;>omega
   ·have h3:=eZ (l:=kids) hk
    exact ih k (by omega) (by omega) (ht.parts.2.2.2 k hk)
theorem wH(hc:(bf l).2=0)(hsz:(l.map aW).sum≤1100000):LOk l:=by
 refine⟨by have:=gY l;omega,(fw hc).2,fun d hd=>?_⟩
 have h1:=gZ hd
 have e1:aW d=d.name.size+aZ d.names+(d.faults.map dJ).sum+ax d.term+d.proto.size+ax d.read+ax d.write+d.use.size+1:=rfl
 have h2:=dh d.names
 exact⟨by omega,fun y hy=>by have:=jB hy;unfold maxLen;omega⟩
theorem om(hsz:(l.map aW).sum≤1100000){d:Dc}(hd:d∈l):ax d.term≤1550000∧ax d.read≤1550000∧ax d.write≤1550000:=by
 have h1:=gZ hd
 have e1:aW d=d.name.size+aZ d.names+(d.faults.map dJ).sum+ax d.term+d.proto.size+ax d.read+ax d.write+d.use.size+1:=rfl
 omega
theorem yR(hc:(bf l).2=0)(hsz:(l.map aW).sum≤1100000):∀x,aQ (tab l) x=4→QOk b sb mb A c l (jg (qGo l l)) x:=by
 have hl:=wH hc hsz
 have hks:=(dW hc).2
 refine Am hc (fun x r=>∃d,nY l 3 x=some d∧EOk b sb mb A c l d.term r∧(r.2=0→kY r.1)) fun i hi hk ht ih=>?_
 have hg:=sD (ic hc i) hks (Q:=QOk b sb mb A c l (jg (qGo l (l.take i)))) ih _ l[i].term (aP _) (om hsz (bQ hi)).1 ht
 exact⟨l[i],by have:=uS (fw hc).1 (bQ hi) (by rw[hk];decide);rwa [hk] at this,qj hl hg,uU hl hg⟩
theorem Jk(hc:(bf l).2=0)(hsz:(l.map aW).sum≤1100000){t:Tm}(ht:Typed l t)(hst:ax t≤1550000):EOk b sb mb A c l t (bS l t)∧((bS l t).2=0→kY (bS l t).1):=by
 have hl:=wH hc hsz
 have hg:=sD (plain_all hc) (dW hc).2 (Q:=QOk b sb mb A c l (jg (qGo l l))) (yR hc hsz) _ t (aP _) hst ht
 exact⟨qj hl hg,uU hl hg⟩
end
theorem dc_tlim25{d:Dc}(hs:aW d≤1100000):TLim d:=by
 have n1:=dh d.names
 have n2:=Bd d.faults
 have e1:aW d=d.name.size+aZ d.names+(d.faults.map dJ).sum+ax d.term+d.proto.size+ax d.read+ax d.write+d.use.size+1:=rfl
 have hft:∀f∈d.faults,f.aI.length+f.aB.length≤1200000:=fun f h=>by
  have:=rM f
  have:=ft_in_sum h
  omega
 exact⟨by omega,by omega,fun f h=>by have:=hft f h;omega,by omega,by omega,by omega⟩
theorem check25(l:List Dc)(A:Option Addr)(c:Nat)(w:World)(S:Nat→Prop)(hl:aO (dS w S) w S 22 A l)(hS:∀g,S g→g<w.heap.size)(hsz:(l.map aW).sum≤1100000)(hpw:Pow w):
  Calls prog 27 #[.slice A l.length c] w fun e w'=>e=.returned (.tuple #[.int .i64 (bf l).1,.int .i64 (bf l).2])∧Below w.heap.size w w':=
 check_any l A c w S hl hS (by omega) (by have:=few_dc l;omega) (by have:=gY l;omega) (valid_any l A c w S hl hS (by have:=gY l;omega) (fun d hd=>dc_tlim25 (by have:=gZ hd;omega)) (fun h=>by have:=Bq l h;omega) hpw)
theorem bok25{l:List Dc}(hsz:(l.map aW).sum≤1100000)(hks:uF l):BOk l:=by
 have hle:∀d:Dc,d.names.length+1≤aW d:=fun d=>by
  have h3:=dh d.names
  have e1:aW d=d.name.size+aZ d.names+(d.faults.map dJ).sum+ax d.term+d.proto.size+ax d.read+ax d.write+d.use.size+1:=rfl
  omega
 refine⟨fun d hd=>⟨?_,?_,fun x hx=>?_⟩,?_⟩
 ·have:=hks d hd;omega
 ·have h1:=gZ hd
  have e1:aW d=d.name.size+aZ d.names+(d.faults.map dJ).sum+ax d.term+d.proto.size+ax d.read+ax d.write+d.use.size+1:=rfl
  unfold maxLen;omega
 ·have h1:=gZ hd
  have e1:aW d=d.name.size+aZ d.names+(d.faults.map dJ).sum+ax d.term+d.proto.size+ax d.read+ax d.write+d.use.size+1:=rfl
  have:=jB hx
  unfold maxLen;omega
 ·have key:∀m:List Dc,(m.map fun d=>d.names.length+1).sum≤(m.map aW).sum:=by
   intro m
   induction m with
   |nil=>exact aP _
   |cons d r ih=>have:=hle d;rw[List.map_cons,List.sum_cons,List.map_cons,List.sum_cons];omega
  have:=key l
  omega
def ql(l:List Dc)(t:Tm):Ex × Nat:=if (bf l).2≠0 then (ex0,(bf l).2) else if nH l t≠0 then (ex0,nH l t) else bS l t
theorem typed_of{l:List Dc}{t:Tm}(h:nH l t=0):Typed l t:=by
 unfold nH at h
 split at h
 ·rename_i h9;exact absurd h h9
 ·rename_i h9
  refine⟨?_,h⟩
  have h0:=Decidable.not_not.1 h9
  unfold eF at h0
  by_cases ho:lT t=true
  ·exact ho
  ·rw[if_neg ho] at h0;simp at h0
theorem FC(l:List Dc)(A:Option Addr)(c:Nat)(t:Tm)(v:Value)(w:World)(S:Nat→Prop)(hl:aO (dS w S) w S 22 A l)(ht:dX w S t v)(hS:∀g,S g→g<w.heap.size)(hsz:(l.map aW).sum≤1100000)(hst:ax t≤1550000)(hpw:Pow w):
  Calls prog 9 #[.slice A l.length c,v] w (pU (ql l t).1 (ql l t).2 w):=by
 have hbA:∀(W:World)(o:Obj),Below W.heap.size W (W.alloc o):=fun W o=>(jQ _ _).alloc (aP _) o
 have hLS:=fun(W:World)(hW:Below w.heap.size w W)=>(⟨hl.keep (P':=dS W S) (aj hW hS) (fun _ _ h=>h.keep (aj hW hS)),fun g hg=>by have:=hS g hg;have:=hW.size;omega⟩:aO (dS W S) W S 22 A l∧∀g,S g→g<W.heap.size)
 have HLS:=jI hLS
 have HT:=jI (fun(W:World)(hW:Below w.heap.size w W)=>ht.keep (aj hW hS))
 have HCK:=jI (fun(W:World)(hW:Below w.heap.size w W)=>check25 l A c W S (hLS W hW).1 (hLS W hW).2 hsz (hpw.below hW))
 have ht2:=ht
 obtain⟨op,nm,nd,wA,wn,wc,kA,kn,kc,rfl⟩:=ht2.form
 have HTM:=jI (fun(W:World)(hW:Below w.heap.size w W)(hB:BOk l)=>term_any2 l A c t _ W S (hLS W hW).1 (ht.keep (aj hW hS)) (hLS W hW).2 hB (by omega) (hpw.below hW))
 have HBG:=jI (fun(W:World)(hW:Below w.heap.size w W)(hc:(bf l).2=0)=>DX l A c W S (hLS W hW).1 (hLS W hW).2 (by have:=(fw hc).2;omega) ((mQ l).nodup (fw hc).1) (fun x hx=>by
  obtain⟨d,hd,hx⟩:=List.mem_flatMap.1 hx
  split at hx
  ·exact ((wH hc hsz).names d hd).2 x hx
  ·simp at hx) (by have:=gY l;omega))
 have HXP:=jI (fun(b sb mb:Nat)(hc:(bf l).2=0)(hty:Typed l t)=>(Jk (b:=b) (sb:=sb) (mb:=mb) (A:=A) (c:=c) hc hsz hty hst).1)
 have HB:=jI (fun(hc:(bf l).2=0)=>bok25 hsz (dW hc).2)
 obtain⟨r,hr⟩:=kE (ql l t)
 rw[←hr]
 unfold ql at hr
 obtain⟨ck,hck⟩:=kE ((bf l).2)
 obtain⟨cl,hcl⟩:=kE ((bf l).1)
 obtain⟨te,hte⟩:=kE (nH l t)
 rw[←hck,←hte] at hr
 simp only[←hck,←hcl] at HCK
 simp only[←hte] at HTM
 have HR:=jI hr
 have HCE:=jI hck
 have HTE:=jI hte
 obtain⟨W0,hW0⟩:=kE ((w.alloc (.cells #[.int .i64 op,.string nm,.int .i64 nd,.slice wA wn wc,.slice kA kn kc] 26)).alloc (.cells #[.slice none 0 0,.int .i64 0] 38))
 have hb0:Below w.heap.size w W0:=by rw[hW0];exact (hbA _ _).alloc (by simp) _
 have hr0:W0.heap[w.heap.size]?=some (.cells #[.int .i64 op,.string nm,.int .i64 nd,.slice wA wn wc,.slice kA kn kc] 26 (0,0)):=by rw[hW0];exact heap_alloc2_old _ _ _
 have hr1:W0.heap[w.heap.size+1]?=some (.cells #[.slice none 0 0,.int .i64 0] 38 (0,0)):=by rw[hW0];exact heap_alloc2_new _ _ _
 have H0:=jI hW0
 have HR0:=jI hr0
 have HR1:=jI hr1
 have hlt1:=jS hr1
 clear hl ht ht2 hpw hLS hr hck hcl hte hW0 hr0 hr1
 go_enter func9,ntmps9
 go_wp2_with fail
 rw[←H0.out]
 refine (HCK.out W0 hb0).mono ?_
 rintro e w2 ⟨rfl,hb2⟩
 have hbw2:=hb0.trans (hb2.mono hb0.size)
 have r0:=(hb2.block _ (jS HR0.out)).trans HR0.out
 have r1:=(hb2.block _ hlt1).trans HR1.out
 obtain⟨y0,y1⟩:=aG r1
 have f0:=jT _ _ 0 _ _ r1
 have f1:=jT _ _ 1 _ _ r1
 by_cases h0:ck=0
 ·subst h0
  have HC0:=jI HCE.out.symm
  have HTM2:=jI (HTM.out w2 hbw2 (HB.out HC0.out))
  obtain⟨z0,z1,z2,z3,z4⟩:=aV r0
  go_wp2_with fail
  refine HTM2.out.mono ?_
  rintro e w3 ⟨rfl,hb3⟩
  have jC:=hbw2.trans (hb3.mono hbw2.size)
  have r03:=(hb3.block _ (jS r0)).trans r0
  have r13:=(hb3.block _ (jS r1)).trans r1
  have hlt3:=jS r13
  clear y0 y1 f0 f1 z0 z1 z2 z3 z4 r0 r1 hb2 hb3 HTM2
  by_cases h1:te=0
  ·subst h1
   have HR2:=jI (show r=bS l t by rw[HR.out];rfl)
   have HTY:=jI (typed_of HTE.out.symm)
   have HR03:=jI r03
   have HR13:=jI r13
   obtain⟨xr,er⟩:=r
   clear r03 r13
   go_upto_region 7 with fail
   refine av.start (fun W'=>Below w3.heap.size w3 W') [6] [0,2,4,5,7] (by kernel_rfl) (below_drewN (jQ _ _) 1) (fun hHeld=>?_)
   repeat
    refine av.take (v:=?_) rfl (by decide +kernel) (by rfl) (fun _ _ _ h=>h) hHeld ?_ ?_
    rotate_left
    focus
     intro w9 h9
     obtain⟨z0,z1,z2,z3,z4⟩:=aV ((h9.block _ (jS HR03.out)).trans HR03.out)
     go_simp
     (try with_reducible rfl)
     done
    simp only[Act.put,List.getElem_toArray,List.getElem_cons_succ,List.getElem_cons_zero,List.setIfInBounds_toArray,List.set_cons_zero,List.set_cons_succ]
   repeat'
    first
    |refine av.pure (v:=?_) rfl (by decide +kernel) (by rfl) (fun _ _ _ h=>h) (by first|exact fun h=>absurd h (by decide)|exact fun _=>hHeld) ?_ ?_
     rotate_left
     focus
      intro w9
      go_simp
      (try with_reducible rfl)
      done
     simp only[Act.put,List.getElem_toArray,List.getElem_cons_succ,List.getElem_cons_zero,List.setIfInBounds_toArray,List.set_cons_zero,List.set_cons_succ]
    |refine av.one 1 rfl (by decide +kernel) (by rfl) (fun K hK=>?_)
    |refine av.one 3 rfl (by decide +kernel) (by rfl) (fun K hK=>?_)
    |refine av.one 6 rfl (by decide +kernel) (by rfl) (fun K hK=>?_)
    |have r9:=(hHeld.block _ hlt3).trans HR13.out
     obtain⟨y0,y1⟩:=aG r9
     have f0:=jT _ _ 0 _ _ r9
     have f1:=jT _ _ 1 _ _ r9
     go_simp
     first
     |go_at_call 29
      (with_reducible refine (HBG.out _ (jC.trans (hHeld.mono jC.size)) HC0.out).mono ?_)
      rintro e Y1 ⟨b,sb,mb,rfl,hwd,hmb,hb7,-⟩
      have HWD:=jI hwd
      have hHeld:=hHeld.trans (hb7.mono hHeld.size)
      try go_simp
      refine hK.out _ _ (fun _=>hHeld) ?_
      clear hK K y0 y1 f0 f1 r9
     |go_at_call 30
      (refine (HXP.out b sb mb HC0.out HTY.out _ _ S HWD.out (HLS.out _ (jC.trans (hHeld.mono jC.size))).1 (HT.out _ (jC.trans (hHeld.mono jC.size))) (HLS.out _ (jC.trans (hHeld.mono jC.size))).2).mono ?_)
      rw[←HR2.out]
      rintro e Y2 ⟨v8,rfl,hx8,hb8⟩
      have HX8:=jI hx8
      obtain⟨A8,c8,rfl,-,-⟩:=hx8
      have hsz8:=hHeld.size
      have hHeld:=hHeld.trans (hb8.mono hHeld.size)
      try go_simp
      refine hK.out _ _ (fun _=>hHeld) ?_
      clear hK K y0 y1 f0 f1 r9
     |refine hK.out _ _ (fun h=>absurd h (by decide)) ?_
      clear hK K y0 y1 f0 f1 r9
   refine av.done (by decide +kernel) ?_
   go_wp2_with fail
   have r9:=(hHeld.block _ hlt3).trans HR13.out
   have r6f:=jJ (u':=.slice A8 xr.nodes.length c8) (v':=.int .i64 xr.root) r9
   refine qU rfl rfl rfl rfl (aG r6f).1 (aG r6f).2 ?_
   have hk2:Kept (fun g=>Y1.heap.size≤g) Y2 ((Y2.setCell ⟨w.heap.size+1,0,none⟩ (.slice A8 xr.nodes.length c8)).setCell ⟨w.heap.size+1,1,none⟩ (.int .i64 xr.root)):=fun g hg _=>by
    rw[kC _ _ _ g (show g≠w.heap.size+1 by omega),kC _ _ _ g (show g≠w.heap.size+1 by omega)]
   have hbw9:=jC.trans (hHeld.mono jC.size)
   exact⟨_,rfl,(HX8.out.keep hk2).mono (fun g hg _=>by have:=jC.size;omega),(hbw9.setCell (p:=⟨w.heap.size+1,0,none⟩) (by show w.heap.size≤w.heap.size+1;omega) _).setCell (p:=⟨w.heap.size+1,1,none⟩) (by show w.heap.size≤w.heap.size+1;omega) _⟩
  ·have h1b:((te:Int) != 0)=true:=by simp;omega
   have h1c:((te:Int)==0)=false:=by simp;omega
   have HR2:=jI (show r=(ex0,te) by rw[HR.out];simp[h1])
   obtain⟨y0,y1⟩:=aG r13
   have f0:=jT _ _ 0 _ _ r13
   have f1:=jT _ _ 1 _ _ r13
   go_wp2
   have r6f:=jJ (u':=.slice none 0 0) (v':=.int .i64 0) r13
   refine qU rfl rfl rfl rfl (aG r6f).1 (aG r6f).2 ?_
   rw[HR2.out]
   exact⟨_,rfl,nu.zero _ _,(jC.setCell (p:=⟨w.heap.size+1,0,none⟩) (by show w.heap.size≤w.heap.size+1;omega) _).setCell (p:=⟨w.heap.size+1,1,none⟩) (by show w.heap.size≤w.heap.size+1;omega) _⟩
 ·have HR2:=jI (show r=(ex0,ck) by rw[HR.out,if_pos h0])
  have h0b:((ck:Int) != 0)=true:=by simp;omega
  have h0c:((ck:Int)==0)=false:=by simp;omega
  go_wp2
  have r6f:=jJ (u':=.slice none 0 0) (v':=.int .i64 0) r1
  refine qU rfl rfl rfl rfl (aG r6f).1 (aG r6f).2 ?_
  rw[HR2.out]
  exact⟨_,rfl,nu.zero _ _,(hbw2.setCell (p:=⟨w.heap.size+1,0,none⟩) (by show w.heap.size≤w.heap.size+1;omega) _).setCell (p:=⟨w.heap.size+1,1,none⟩) (by show w.heap.size≤w.heap.size+1;omega) _⟩
end
end Go.Proofs.YtmohibkomlhlaaaGreatDoor
