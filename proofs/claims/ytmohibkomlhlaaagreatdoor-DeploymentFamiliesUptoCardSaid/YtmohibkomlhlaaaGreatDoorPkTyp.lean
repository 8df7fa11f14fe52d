/- The plain law of the types of declarations: what Check, Term, Uses, Unused, Servers and Kind return, as functions on declarations. No condition. -/
import Derived.Test.YtmohibkomlhlaaaGreatDoorPkPlain
namespace Go.Proofs.YtmohibkomlhlaaaGreatDoor
theorem rX(a b:ByteArray):(a==b)=decide (a=b):=by rw[Bool.eq_iff_iff,eT,decide_eq_true_iff]
theorem DY(l:List ByteArray)(x:ByteArray):l.contains x=true↔x∈l:=by
 induction l with
 |nil=>simp
 |cons a r ih=>rw[List.contains_cons,Bool.or_eq_true,ih,eT,List.mem_cons]
def dI(k:Int):Int:=if k=1 then 1 else if k=2 then 3 else if k=3 then 4 else if k=4 then 5 else if k=6 then 6 else 0
def rT(d:Dc):List (ByteArray × Int):=(if dI d.kind=0 then [] else [(d.name,dI d.kind)])++(if d.kind=1 then d.names.map (fun x=>(x,2)) else [])
def tab(l:List Dc):List (ByteArray × Int):=l.flatMap rT
def aQ:List (ByteArray × Int)→ByteArray→Int
 |[],_=>0
 |p::r,x=>if p.1==x then p.2 else aQ r x
def aH(l:List Dc):Nat:=(l.map fun d=>if d.kind=1 then d.names.length else 0).sum
def dR(k:Int)(l:List Dc):Nat:=l.countP fun d=>decide (d.kind=k)
def dw(l:List Dc):Bool:=l.any fun d=>!decide (d.kind=1)
def fP(l:List Dc):Bool:=l.any fun d=>decide (d.kind=7)
def bV(k:Int)(l:List Dc):List ByteArray:=l.flatMap fun d=>if d.kind=k then d.names else []
def ai(l:List Dc):List ByteArray:=bV 1 l
def isE(t:List (ByteArray × Int))(x:ByteArray)(ks:List Int):Nat:=if aQ t x=0 then 4 else if ks.contains (aQ t x) then 0 else 11
def JZ(nd:Int)(ws:List Int)(kids:Nat):Nat:=
 if 0<ws.length then (if ws.any (fun w=>decide (w<1) || decide (1000<w)) then 7 else if nd<1∨ws.sum<nd then 7 else 0)
 else if nd<1∨(kids:Int)<nd then 7 else 0
def ownE(t:List (ByteArray × Int))(ns:Nat)(op:Int)(name:ByteArray)(nd:Int)(ws:List Int)(kids:Nat):Nat:=
 if op=1 then isE t name [2,4]
 else if op=2 then JZ nd ws kids
 else if op=6∨op=7∨op=8 then (if name=(⟨#[115,101,114,118,101,114,115]⟩:ByteArray) then (if ns=0 then 9 else 0) else isE t name [1])
 else 0
mutual
def iP(t:List (ByteArray × Int))(ns:Nat):Tm→Nat
 |.mk op name nd ws kids=>if ownE t ns op name nd ws kids.length≠0 then ownE t ns op name nd ws kids.length else ni t ns kids
def ni(t:List (ByteArray × Int))(ns:Nat):List Tm→Nat
 |[]=>0
 |x::r=>if iP t ns x≠0 then iP t ns x else ni t ns r
end
def mF(t:List (ByteArray × Int))(k:Int):List ByteArray→List ByteArray→Nat
 |_,[]=>0
 |seen,x::r=>if isE t x [k]≠0 then isE t x [k] else if seen.contains x then 5 else mF t k (seen++[x]) r
def lC(t:List (ByteArray × Int))(ns:Nat)(f:Ft):Nat:=
 if f.op=2 then (if (ns:Int)<f.byz+f.iw then 7 else 0)
 else if f.op=3 then mF t 2 [] (f.aI++f.aB)
 else if f.op=4∨f.op=5 then isE t f.name [1]
 else if f.op=6 then isE t f.name [3]
 else 0
def jE(t:List (ByteArray × Int))(ns:Nat):List Ft→Nat
 |[]=>0
 |f::r=>if lC t ns f≠0 then lC t ns f else jE t ns r
def qN(t:List (ByteArray × Int))(ns:Nat)(nm:ByteArray):List ByteArray→List ByteArray→Nat
 |_,[]=>0
 |pre,x::r=>if aQ t x≠0∨x=nm∨pre.contains x=true then 5 else if 12≤ns+pre.length then 3 else qN t ns nm (pre++[x]) r
def yx:List (ByteArray × Bool)→ByteArray→Option Bool
 |[],_=>none
 |p::r,x=>if p.1==x then some p.2 else yx r x
def lookB(l:List (ByteArray × Bool))(x:ByteArray):Bool:=(yx l x).getD false
def ftByz(kn:List (ByteArray × Bool))(f:Ft):Bool:=
 if f.op=2 then decide (0<f.byz) else if f.op=3 then decide (0<f.aI.length) else if f.op=4 then true else if f.op=6 then lookB kn f.name else false
def pz(kn:List (ByteArray × Bool)):List Dc→List (ByteArray × Bool)
 |[]=>kn
 |d::r=>pz (if d.kind=2 then kn++[(d.name,d.faults.any (ftByz kn))] else kn) r
def jr(l:List Dc)(x:ByteArray):Bool:=lookB (pz [] l) x
def iK(l:List Dc)(d:Dc):Nat:=
 if d.kind=1∧dw l=true then 10
 else if dI d.kind≠0∧aQ (tab l) d.name≠0 then 5
 else if d.kind=1 then qN (tab l) (aH l) d.name [] d.names
 else if d.kind=2 then jE (tab l) (aH l) d.faults
 else if d.kind=3 then iP (tab l) (aH l) d.term
 else if d.kind=4 then
  (if 6≤dR 4 l then 3
   else if iP (tab l) (aH l) d.read≠0 then iP (tab l) (aH l) d.read
   else if iP (tab l) (aH l) d.write≠0 then iP (tab l) (aH l) d.write
   else if isE (tab l) d.use [3]≠0 then isE (tab l) d.use [3]
   else if d.proto=(⟨#[99,114,97,115,104]⟩:ByteArray)∧jr l d.use=true then 12 else 0)
 else if d.kind=5 then mF (tab l) 2 (bV 5 l) d.names
 else if d.kind=6 then (if 6≤dR 6 l then 3 else if d.use.size=0 then 0 else isE (tab l) d.use [3])
 else if d.kind=7 then (if fP l=true then 5 else mF (tab l) 5 [] d.names)
 else 0
def jG(pre:List Dc):List Dc→Int × Nat
 |[]=>if aH pre=0∨dR 4 pre=0 then (0,9) else (0,0)
 |d::r=>if iK pre d≠0 then (d.line,iK pre d) else jG (pre++[d]) r
def bf(l:List Dc):Int × Nat:=if (eP l).2≠0 then (0,(eP l).2) else jG [] l
theorem JI{l:List Dc}:∀{pre:List Dc},(jG pre l).2=0→(∀i (h:i<l.length),iK (pre++l.take i) l[i]=0)∧0<aH (pre++l)∧0<dR 4 (pre++l):=by
 induction l with
 |nil=>
  intro pre h
  rw[jG] at h
  split at h
  ·cases h
  ·exact⟨fun i hi=>by simp at hi,by rw[List.append_nil];omega,by rw[List.append_nil];omega⟩
 |cons d r ih=>
  intro pre h
  rw[jG] at h
  split at h
  ·rename_i hne
   exact absurd h hne
  ·rename_i h0
   obtain⟨h1,h2,h3⟩:=ih h
   rw[List.append_assoc,List.singleton_append] at h2 h3
   refine⟨fun i hi=>?_,h2,h3⟩
   cases i with
   |zero=>rw[List.take_zero,List.append_nil];exact Decidable.not_not.1 h0
   |succ i=>
    have:=h1 i (by simpa using hi)
    rw[List.append_assoc,List.singleton_append] at this
    exact this
theorem JJ{l:List Dc}:∀{pre:List Dc},(∀i (h:i<l.length),iK (pre++l.take i) l[i]=0)→jG pre l=if aH (pre++l)=0∨dR 4 (pre++l)=0 then (0,9) else (0,0):=by
 induction l with
 |nil=>intro pre _;rw[jG,List.append_nil]
 |cons d r ih=>
  intro pre h
  have h0:=h 0 (by simp)
  rw[List.take_zero,List.append_nil] at h0
  rw[jG,if_neg (by rw[Decidable.not_not];exact h0),ih (fun i hi=>?_)]
  ·rw[List.append_assoc,List.singleton_append]
  ·have:=h (i+1) (by simpa using hi)
   rw[List.take_succ_cons] at this
   rw[List.append_assoc,List.singleton_append]
   exact this
theorem je{l:List Dc}(h:(bf l).2=0):(eP l).2=0∧(∀i (h:i<l.length),iK (l.take i) l[i]=0)∧0<aH l∧0<dR 4 l∧bf l=(0,0):=by
 unfold bf at h ⊢
 by_cases hf:(eP l).2=0
 ·rw[if_neg (by rw[Decidable.not_not];exact hf)] at h ⊢
  obtain⟨h1,h2,h3⟩:=JI h
  simp only[List.nil_append] at h1 h2 h3
  refine⟨hf,h1,h2,h3,?_⟩
  rw[JJ (by simpa using h1)]
  simp only[List.nil_append]
  rw[if_neg (by omega)]
 ·rw[if_pos hf] at h
  exact absurd h hf
end Go.Proofs.YtmohibkomlhlaaaGreatDoor
