/- The types of a part of declarations: a sublist of declarations with a text has one; a beginning of declarations without an error has none but ErrEmpty. No condition. The types of declarations whose names are mapped: errors stay if kinds stay. No condition. Declarations without an error have none if an unused one is left out. No condition. -/
import Derived.Test.YtmohibkomlhlaaaGreatDoorPkTyp
import Derived.Test.YtmohibkomlhlaaaGreatDoorPkRound
namespace Go.Proofs.YtmohibkomlhlaaaGreatDoor
section
section
variable {ρ:ByteArray→ByteArray} {Y:ByteArray→Prop} {t t':List (ByteArray × Int)}
end
structure Maps(ρ:ByteArray→ByteArray)(Y:ByteArray→Prop)(l l':List Dc):Prop where
 kinds:∀y,Y y→aQ (tab l') (ρ y)=aQ (tab l) y
 servers:aH l'=aH l
 chain:fP l'=fP l
 seen:bV 5 l'=(bV 5 l).map ρ
 byz:∀y,Y y→jr l' (ρ y)=jr l y
end
section
theorem FL(k:Int):dI k=0∨dI k=1∨dI k=3∨dI k=4∨dI k=5∨dI k=6:=by
 unfold dI;split;· simp
 split;· simp
 split;· simp
 split;· simp
 split<;>simp
theorem DK(d:Dc):∀p∈rT d,p.2≠0:=by
 intro p hp
 unfold rT at hp
 rcases List.mem_append.1 hp with h|h
 ·split at h
  ·cases h
  ·rename_i hk
   rw[List.mem_singleton] at h
   rw[h];exact hk
 ·split at h
  ·obtain⟨x,-,rfl⟩:=List.mem_map.1 h
   exact (by decide:(2:Int)≠0)
  ·cases h
theorem gU(l:List Dc):∀p∈tab l,p.2≠0:=by
 intro p hp
 obtain⟨d,-,hd⟩:=List.mem_flatMap.1 hp
 exact DK d p hd
theorem zm{t:List (ByteArray × Int)}(ht:∀p∈t,p.2≠0)(y:ByteArray):aQ t y=0↔∀p∈t,p.1≠y:=by
 induction t with
 |nil=>simp[aQ]
 |cons p r ih=>
  have hi:=ih fun q hq=>ht q (by simp[hq])
  rw[aQ]
  by_cases h:(p.1==y)=true
  ·rw[if_pos h]
   constructor
   ·intro e;exact absurd e (ht p (by simp))
   ·intro e;exact absurd ((eT _ _).1 h) (e p (by simp))
  ·rw[if_neg h,hi]
   have hne:p.1≠y:=fun e=>h ((eT _ _).2 e)
   constructor
   ·intro e q hq
    rcases List.mem_cons.1 hq with rfl|hq
    ·exact hne
    ·exact e q hq
   ·intro e q hq;exact e q (by simp[hq])
theorem Dk{l:List Dc}{y:ByteArray}(h:aQ (tab l) y≠0):(y,aQ (tab l) y)∈tab l:=by
 generalize tab l=t at h
 induction t with
 |nil=>exact absurd rfl h
 |cons p r ih=>
  rw[aQ] at h ⊢
  by_cases hp:(p.1==y)=true
  ·rw[if_pos hp,←(eT _ _).1 hp];exact fO
  ·rw[if_neg hp] at h ⊢;exact List.mem_cons_of_mem _ (ih h)
theorem xC{d:Dc}(h:dI d.kind≠0):(d.name,dI d.kind)∈rT d:=by
 unfold rT;rw[if_neg h];simp
theorem iW{l:List Dc}{d:Dc}(h:iK l d=0):¬(d.kind=1∧dw l=true)∧¬(dI d.kind≠0∧aQ (tab l) d.name≠0):=by
 unfold iK at h
 by_cases h1:d.kind=1∧dw l=true
 ·rw[if_pos h1] at h;cases h
 ·by_cases h2:dI d.kind≠0∧aQ (tab l) d.name≠0
  ·rw[if_neg h1,if_pos h2] at h;cases h
  ·exact⟨h1,h2⟩
theorem zB{l:List Dc}{d:Dc}(h:iK l d=0)(hk:dI d.kind≠0):aQ (tab l) d.name=0:=
 Decidable.not_not.1 fun e=>(iW h).2 ⟨hk,e⟩
theorem Hl{t:List (ByteArray × Int)}{ns:Nat}{nm:ByteArray}:∀{l pre:List ByteArray},qN t ns nm pre l=0→∀y∈l,aQ t y=0:=by
 intro l
 induction l with
 |nil=>intro pre _ y hy;cases hy
 |cons x r ih=>
  intro pre h y hy
  rw[qN] at h
  split at h
  ·cases h
  ·rename_i h1
   split at h
   ·cases h
   ·rcases List.mem_cons.1 hy with rfl|hy
    ·exact Decidable.not_not.1 fun e=>h1 (Or.inl e)
    ·exact ih h y hy
theorem Jy{l:List Dc}{d:Dc}(h:iK l d=0)(hk:d.kind=1):dw l=false∧qN (tab l) (aH l) d.name [] d.names=0:=by
 obtain⟨h1,h2⟩:=iW h
 unfold iK at h
 rw[if_neg h1,if_neg h2,if_pos hk] at h
 refine⟨?_,h⟩
 cases e:dw l
 ·rfl
 ·exact absurd ⟨hk,e⟩ h1
section
variable {x:ByteArray} {m:List Dc}
def without(x:ByteArray)(l:List Dc):List Dc:=l.filter fun d=>!(d.name==x)
end
end
end Go.Proofs.YtmohibkomlhlaaaGreatDoor
