/- Small laws of my own for the walks: a slice that is read, one that the call owns, an element appended to it, and what stays as it was. No condition. Terms, faults and declarations as they lie in memory, and what keeps them so. No condition. The state of the program's parser and of the bg reader in memory. No condition. Lists that a call builds by append: strings, numbers, terms, faults, declarations, tokens; what they hold stays. No condition. Maps of the call's own with string keys, by what they hold; as equations on the operations' runs. No condition. Maps of the call's own with keys of type int, by what they hold; as equations on the operations' runs. No condition. The memory of a scope (typing): what is declared, as maps of the call's own. No condition. A region that draws its order, walked by hand: of a list of its operations the unwanted are skipped and those that only read under a condition S are taken first; whatever else is ready is carried out, alone or in both orders. S need not hold once an operation of the list Z (the stores, which wait for what reads) has come up. No condition. -/
import Derived.WalkKit
import Derived.WalkLawsBesides
import Derived.Lib.Hide
import Derived.Maps.AppendAt
import Derived.Deep.Draws
import Derived.Deep.AppendLies
import Derived.OneCell
import Derived.Laws.Rows
import Derived.Test.YtmohibkomlhlaaaGreatDoorProg
import Derived.Maps.OwnSet
import Derived.WideKeyEntry
import Derived.Test.YtmohibkomlhlaaaGreatDoorPkTyp
import Derived.Deep.RegionHeld
namespace Go.Proofs.YtmohibkomlhlaaaGreatDoor
section
open Go.RowKit
theorem jI:∀{p:Prop},p→Hid p:=@Lib.hid
theorem jQ:∀(B:Nat)(w:World),Below B w w:=@Below.refl
theorem jR:∀(w:World)(o:Obj),(w.alloc o).heap[w.heap.size]?=some o:=@heap_alloc_new
theorem jS:∀{w:World}{b:Nat}{o:Obj},w.heap[b]?=some o→b<w.heap.size:=@lt_of_block
theorem jT:∀(w:World)(g j:Nat)(cs:Array Value)(t:TypeId),w.heap[g]?=some (.cells cs t)→w.frozen? ⟨g,j,none⟩=false:=@frozen_of_row
theorem j5:∀(w:World)(g j:Nat)(cs:Array Value)(t:TypeId)(fr:Nat×Nat),w.heap[g]?=some (.cells cs t fr)→w.cell? ⟨g,j,none⟩=cs[j]?:=@cell_of_row
theorem kC:∀(w:World)(a:Addr)(u:Value)(k:Nat),k≠a.block→(w.setCell a u).heap[k]?=w.heap[k]?:=@Below.heap_setCell
theorem kD:∀(w:World)(o:Obj){r:Nat},r<w.heap.size→(w.alloc o).heap[r]?=w.heap[r]?:=@heap_alloc_old
end
section
open Go.RowKit
def xQ(w:World)(B size:Nat)(A:Option Addr)(n:Nat)(xs:List Value):Prop:=
 xs.length=n * size∧(0<n→∃g o,A=some ⟨g,o,none⟩∧g<B∧∀j u,xs[j]?=some u→w.cell? ⟨g,o+j,none⟩=some u)
section
variable {w w':World} {B B' size n:Nat} {A:Option Addr} {xs:List Value}
theorem xQ.empty(w:World)(B size:Nat)(A:Option Addr):xQ w B size A 0 []:=⟨by simp,fun h=>absurd h (by omega)⟩
theorem xQ.cells(h:xQ w B size A n xs)(hn:0<n):∃g o,A=some ⟨g,o,none⟩∧g<B∧∀j u,xs[j]?=some u→w.cell? ⟨g,o+j,none⟩=some u:=h.2 hn
theorem xQ.keep(h:xQ w B size A n xs)(hk:∀g o,g<B→w'.cell? ⟨g,o,none⟩=w.cell? ⟨g,o,none⟩):xQ w' B size A n xs:=
 ⟨h.1,fun hn=>by
  obtain⟨g,o,e,hb,hc⟩:=h.2 hn
  exact⟨g,o,e,hb,fun j u hu=>(hk _ _ hb).trans (hc j u hu)⟩⟩
theorem xQ.below(h:xQ w B size A n xs)(hb:Below B' w w')(hB:B≤B'):xQ w' B size A n xs:=
 h.keep fun g o hg=>hb.cell (p:=⟨g,o,none⟩) (bZ hg hB)
theorem xQ.mono(h:xQ w B size A n xs)(hB:B≤B'):xQ w B' size A n xs:=
 ⟨h.1,fun hn=>by
  obtain⟨g,o,e,hb,hc⟩:=h.2 hn
  exact⟨g,o,e,bZ hb hB,hc⟩⟩
theorem xQ.alloc(h:xQ w B size A n xs)(hB:B≤w.heap.size)(x:Obj):xQ (w.alloc x) B size A n xs:=
 h.below ((jQ B w).alloc hB x) (aP _)
theorem xQ.own{base e c:Nat}(h:w.ownsRow base e size (.slice A n c) n xs):xQ w w.heap.size size A n xs:=by
 refine⟨h.1,fun hn=>?_⟩
 rcases h.2 with ⟨hv,h0⟩|⟨g,cap,cur,hv,hb,hh,r⟩
 ·omega
 ·have hA:A=some ⟨g,0,none⟩:=by injection hv
  subst hA
  refine⟨g,0,rfl,(Array.getElem?_eq_some_iff.1 hh).1,fun j u hu=>?_⟩
  have:=h.cells (g:=g) rfl j u hu
  rw[←this];congr 1
  unfold Addr.add;split<;>simp_all
end
theorem own_below{w w':World}{base e size n B:Nat}{v:Value}{xs:List Value}(h:w.ownsRow base e size v n xs)(hb:Below B w w')(hB:w.heap.size≤B):w'.ownsRow base e size v n xs:=by
 obtain⟨h1,h2⟩:=h
 refine⟨h1,?_⟩
 rcases h2 with h2|⟨g,cap,cur,hv,hg,hh,r⟩
 ·exact Or.inl h2
 ·have:g<w.heap.size:=(Array.getElem?_eq_some_iff.1 hh).1
  exact Or.inr ⟨g,cap,cur,hv,hg,by rw[hb.block g (by omega)];exact hh,r⟩
theorem AJ{w:World}{base base' e size n:Nat}{v:Value}{xs:List Value}(h:w.ownsRow base e size v n xs)(hB:base'≤base):w.ownsRow base' e size v n xs:=by
 obtain⟨h1,h2⟩:=h
 refine⟨h1,?_⟩
 rcases h2 with h2|⟨g,cap,cur,hv,hg,r⟩
 ·exact Or.inl h2
 ·exact Or.inr ⟨g,cap,cur,hv,cK hB hg,r⟩
theorem aD{w:World}{base e size n:Nat}{v:Value}{xs:List Value}(h:w.ownsRow base e size v n xs):∃A c,v=.slice A n c∧n≤c:=by
 rcases h.2 with ⟨rfl,h2⟩|⟨g,cap,cur,hv,hg,hh,hc,r⟩
 ·subst h2;exact⟨_,_,rfl,aP _⟩
 ·exact⟨_,_,hv,hc⟩
theorem AB{w:World}{base e size n:Nat}{v:Value}{xs:List Value}(h:w.ownsRow base e size v n xs)(hn:0<n):∃g c,v=.slice (some ⟨g,0,none⟩) n c:=by
 rcases h.2 with ⟨rfl,h2⟩|⟨g,cap,cur,hv,hg,hh,hc,r⟩
 ·omega
 ·exact⟨_,_,hv⟩
theorem below_drewN{B:Nat}{a w:World}(h:Below B a w)(n:Nat):Below B a (w.drewN n):=⟨h.os,h.tape,h.output,h.size,h.block⟩
theorem own_drewN{w:World}{base e size n:Nat}{v:Value}{xs:List Value}(h:w.ownsRow base e size v n xs)(k:Nat):(w.drewN k).ownsRow base e size v n xs:=h
theorem xQ.drewN{w:World}{B size n:Nat}{A:Option Addr}{xs:List Value}(h:xQ w B size A n xs)(k:Nat):xQ (w.drewN k) B size A n xs:=h
section
variable {P:Program}
end
end
section
open Go.RowKit
def ak(w:World)(S:Nat→Prop)(size:Nat)(A:Option Addr)(n:Nat)(xs:List Value):Prop:=
 xs.length=n * size∧(0<n→∃g o,A=some ⟨g,o,none⟩∧S g∧∀j u,xs[j]?=some u→w.cell? ⟨g,o+j,none⟩=some u)
def Kept(S:Nat→Prop)(w w':World):Prop:=∀g,S g→g<w.heap.size→w'.heap[g]?=w.heap[g]?
theorem Kept.refl(S:Nat→Prop)(w:World):Kept S w w:=fun _ _ _=>rfl
theorem Kept.trans{S:Nat→Prop}{a b c:World}(h:Kept S a b)(k:Kept S b c)(hs:a.heap.size≤b.heap.size):Kept S a c:=
 fun g hS hg=>(k g hS (bZ hg hs)).trans (h g hS hg)
theorem Kept.mono{S S':Nat→Prop}{w w':World}(h:Kept S w w')(hS:∀g,S' g→S g):Kept S' w w':=fun g h1 h2=>h g (hS g h1) h2
theorem IG{B:Nat}{w w':World}(h:Below B w w'):Kept (·<B) w w':=fun g hg _=>h.block g hg
theorem aA{S:Nat→Prop}{w w':World}(h:Below w.heap.size w w'):Kept S w w':=fun g _ hg=>h.block g hg
theorem aR{b:Nat}{w w':World}(h:w.grownBy w' (some b)):Kept (·≠b) w w':=fun g hg h2=>h.block g h2 (fun e=>hg (by injection e))
theorem rF{b:Nat}{w w':World}(h:w.grownBy w' (some b)):Kept (·<b) w w':=(aR h).mono fun _ h=>Nat.ne_of_lt h
theorem aJ(w:World)(row:Option Nat):w.grownBy w row:=⟨rfl,rfl,rfl,aP _,fun _ _ _=>rfl⟩
theorem au{a b c:World}{row:Option Nat}(h:a.grownBy b row)(k:b.grownBy c row):a.grownBy c row:=
 ⟨k.os.trans h.os,k.tape.trans h.tape,k.output.trans h.output,cK h.size k.size,fun g hg hne=>(k.block g (bZ hg h.size) hne).trans (h.block g hg hne)⟩
theorem aM{w w':World}{row:Option Nat}(h:Below w.heap.size w w'):w.grownBy w' row:=⟨h.os,h.tape,h.output,h.size,fun g hg _=>h.block g hg⟩
theorem dL{a w:World}{row:Option Nat}(h:a.grownBy w row)(n:Nat):a.grownBy (w.drewN n) row:=⟨h.os,h.tape,h.output,h.size,h.block⟩
theorem dx{a w:World}{row:Option Nat}(h:a.grownBy w row)(o:Obj):a.grownBy (w.alloc o) row:=
 au h (aM ((jQ _ _).alloc (aP _) o))
theorem aK{a w:World}{b:Nat}(h:a.grownBy w (some b))(o:Nat)(u:Value):a.grownBy (w.setCell ⟨b,o,none⟩ u) (some b):=
 ⟨h.os,h.tape,h.output,by rw[show (w.setCell ⟨b,o,none⟩ u).heap.size=w.heap.size by simp];exact h.size,fun g hg hne=>(kC w _ u g (fun e=>hne (by rw[e]))).trans (h.block g hg hne)⟩
theorem below_grown{a w:World}{b B:Nat}(h:a.grownBy w (some b))(hB:B≤b)(hs:B≤a.heap.size):Below B a w:=
 ⟨h.os,h.tape,h.output,h.size,fun g hg=>h.block g (by omega) (fun e=>by injection e;omega)⟩
theorem ay{a w:World}{b g:Nat}{o:Obj}(h:a.grownBy w (some b))(hg:a.heap[g]?=some o)(hne:g≠b):w.heap[g]?=some o:=
 (h.block g (Array.getElem?_eq_some_iff.1 hg).1 (fun e=>hne (by injection e))).trans hg
theorem gu{a w:World}{b base e size n:Nat}{v:Value}{xs:List Value}(h:a.ownsRow base e size v n xs)(hg:a.grownBy w (some b))(hb:b<base):w.ownsRow base e size v n xs:=by
 refine h.kept hg ?_
 rcases h.2 with ⟨rfl,_⟩|⟨g,cap,cur,rfl,hgb,_⟩
 ·exact Or.inl rfl
 ·exact Or.inr (by simp[Value.ownBlock];omega)
section
variable {w w':World} {S S':Nat→Prop} {size n:Nat} {A:Option Addr} {xs:List Value}
theorem ak.empty(w:World)(S:Nat→Prop)(size:Nat)(A:Option Addr):ak w S size A 0 []:=⟨by simp,fun h=>absurd h (by omega)⟩
theorem ak.keep(h:ak w S size A n xs)(hk:Kept S w w'):ak w' S size A n xs:=
 ⟨h.1,fun hn=>by
  obtain⟨g,o,e,hS,hc⟩:=h.2 hn
  exact⟨g,o,e,hS,fun j u hu=>(World.cell?_of_block (hk g hS (World.block_lt_of_cell? w _ (hc j u hu)))).trans (hc j u hu)⟩⟩
theorem ak.mono(h:ak w S size A n xs)(hS:∀g,S g→g<w.heap.size→S' g)(hz:0<size):ak w S' size A n xs:=
 ⟨h.1,fun hn=>by
  obtain⟨g,o,e,h1,hc⟩:=h.2 hn
  have h0:0<xs.length:=by rw[h.1];exact Nat.mul_pos hn hz
  exact⟨g,o,e,hS g h1 (World.block_lt_of_cell? w ⟨g,o+0,none⟩ (hc 0 _ (dD h0))),hc⟩⟩
theorem ak.cells(h:ak w S size A n xs)(hn:0<n):∃g o,A=some ⟨g,o,none⟩∧S g∧∀j u,xs[j]?=some u→w.cell? ⟨g,o+j,none⟩=some u:=h.2 hn
theorem xQ.within{B:Nat}(h:xQ w B size A n xs):ak w (·<B) size A n xs:=h
theorem ak.own{base e c:Nat}(h:w.ownsRow base e size (.slice A n c) n xs):ak w (base≤·) size A n xs:=by
 refine⟨h.1,fun hn=>?_⟩
 rcases h.2 with ⟨hv,h0⟩|⟨g,cap,cur,hv,hb,hh,r⟩
 ·omega
 ·have hA:A=some ⟨g,0,none⟩:=by injection hv
  subst hA
  refine⟨g,0,rfl,hb,fun j u hu=>?_⟩
  have:=h.cells (g:=g) rfl j u hu
  rw[←this];congr 1
  unfold Addr.add;split<;>simp_all
end
def cellsOf(v:Value):List Value:=v.cells.toList
inductive dX(w:World)(S:Nat→Prop):Tm→Value→Prop
 |mk (op:Int) (name:ByteArray) (need:Int) (ws:List Int) (kids:List Tm) (wA kA:Option Addr) (wc kc:Nat) (vs:List Value)
  (hw:ak w S 1 wA ws.length (ws.map (Value.int .i64))) (hwc:ws.length≤wc)
  (hk:ak w S 5 kA kids.length (vs.flatMap cellsOf)) (hkc:kids.length≤kc) (hl:vs.length=kids.length)
  (h:∀(i:Nat)(t:Tm)(v:Value),kids[i]?=some t→vs[i]?=some v→dX w S t v):
  dX w S (.mk op name need ws kids) (.agg #[.int .i64 op,.string name,.int .i64 need,.slice wA ws.length wc,.slice kA kids.length kc])
theorem dX.keep{w w':World}{S:Nat→Prop}{t:Tm}{v:Value}(h:dX w S t v)(hk:Kept S w w'):dX w' S t v:=by
 induction h with
 |mk op name need ws kids wA kA wc kc vs hw hwc hkk hkc hl h ih=>exact .mk op name need ws kids wA kA wc kc vs (hw.keep hk) hwc (hkk.keep hk) hkc hl ih
theorem dX.mono{w:World}{S S':Nat→Prop}{t:Tm}{v:Value}(h:dX w S t v)(hS:∀g,S g→g<w.heap.size→S' g):dX w S' t v:=by
 induction h with
 |mk op name need ws kids wA kA wc kc vs hw hwc hkk hkc hl h ih=>exact .mk op name need ws kids wA kA wc kc vs (hw.mono hS (by decide)) hwc (hkk.mono hS (by decide)) hkc hl ih
theorem dX.form{w:World}{S:Nat→Prop}{t:Tm}{v:Value}(h:dX w S t v):∃op name need wA wn wc kA kn kc,v=.agg #[.int .i64 op,.string name,.int .i64 need,.slice wA wn wc,.slice kA kn kc]:=by
 cases h with
 |mk op name need ws kids wA kA wc kc vs=>exact⟨_,_,_,_,_,_,_,_,_,rfl⟩
theorem dX.named(w:World)(S:Nat→Prop)(op:Int)(n:ByteArray):dX w S (.mk op n 0 [] []) (.agg #[.int .i64 op,.string n,.int .i64 0,.slice none 0 0,.slice none 0 0]):=
 .mk op n 0 [] [] none none 0 0 [] (.empty _ _ _ _) (aP _) (.empty _ _ _ _) (aP _) rfl (fun i t v h=>by simp at h)
def ng(w:World)(S:Nat→Prop)(f:Ft)(v:Value):Prop:=
 ∃bA bc cA cc,v=.agg #[.int .i64 f.op,.string f.name,.int .i64 f.byz,.int .i64 f.iw,.slice bA f.aI.length bc,.slice cA f.aB.length cc]∧
  ak w S 1 bA f.aI.length (f.aI.map Value.string)∧f.aI.length≤bc∧ak w S 1 cA f.aB.length (f.aB.map Value.string)∧f.aB.length≤cc
theorem ng.keep{w w':World}{S:Nat→Prop}{f:Ft}{v:Value}(h:ng w S f v)(hk:Kept S w w'):ng w' S f v:=by
 obtain⟨bA,bc,cA,cc,e,h1,h2,h3,h4⟩:=h
 exact⟨bA,bc,cA,cc,e,h1.keep hk,h2,h3.keep hk,h4⟩
theorem ng.mono{w:World}{S S':Nat→Prop}{f:Ft}{v:Value}(h:ng w S f v)(hS:∀g,S g→g<w.heap.size→S' g):ng w S' f v:=by
 obtain⟨bA,bc,cA,cc,e,h1,h2,h3,h4⟩:=h
 exact⟨bA,bc,cA,cc,e,h1.mono hS (by decide),h2,h3.mono hS (by decide),h4⟩
def aO{α:Type}(P:α→Value→Prop)(w:World)(S:Nat→Prop)(size:Nat)(A:Option Addr)(l:List α):Prop:=
 ∃vs:List Value,vs.length=l.length∧ak w S size A l.length (vs.flatMap cellsOf)∧∀(i:Nat)(x:α)(v:Value),l[i]?=some x→vs[i]?=some v→P x v
abbrev xX(kd li:Int)(nm:ByteArray)(nA:Option Addr)(nn nc:Nat)(fA:Option Addr)(fn fc:Nat)(o1:Int)(m1:ByteArray)(d1:Int)(wA1:Option Addr)(wn1 wc1:Nat)(kA1:Option Addr)(kn1 kc1:Nat)(pr:ByteArray)(o2:Int)(m2:ByteArray)(d2:Int)(wA2:Option Addr)(wn2 wc2:Nat)(kA2:Option Addr)(kn2 kc2:Nat)(o3:Int)(m3:ByteArray)(d3:Int)(wA3:Option Addr)(wn3 wc3:Nat)(kA3:Option Addr)(kn3 kc3:Nat)(us:ByteArray):Array Value:=
 #[.int .i64 kd,.int .i64 li,.string nm,.slice nA nn nc,.slice fA fn fc,.int .i64 o1,.string m1,.int .i64 d1,.slice wA1 wn1 wc1,.slice kA1 kn1 kc1,.string pr,.int .i64 o2,.string m2,.int .i64 d2,.slice wA2 wn2 wc2,.slice kA2 kn2 kc2,.int .i64 o3,.string m3,.int .i64 d3,.slice wA3 wn3 wc3,.slice kA3 kn3 kc3,.string us]
def dS(w:World)(S:Nat→Prop)(d:Dc)(v:Value):Prop:=
 ∃nA nc fA fc vt vr vw,v=.agg (#[.int .i64 d.kind,.int .i64 d.line,.string d.name,.slice nA d.names.length nc,.slice fA d.faults.length fc]++vt.cells++#[.string d.proto]++vr.cells++vw.cells++#[.string d.use])∧
  ak w S 1 nA d.names.length (d.names.map Value.string)∧d.names.length≤nc∧aO (ng w S) w S 6 fA d.faults∧d.faults.length≤fc∧dX w S d.term vt∧dX w S d.read vr∧dX w S d.write vw
theorem aO.keep{α:Type}{P P':α→Value→Prop}{w w':World}{S:Nat→Prop}{size:Nat}{A:Option Addr}{l:List α}(h:aO P w S size A l)(hk:Kept S w w')(hP:∀x v,P x v→P' x v):aO P' w' S size A l:=by
 obtain⟨vs,h1,h2,h3⟩:=h
 exact⟨vs,h1,h2.keep hk,fun i x v hx hv=>hP x v (h3 i x v hx hv)⟩
theorem aO.mono{α:Type}{P P':α→Value→Prop}{w:World}{S S':Nat→Prop}{size:Nat}{A:Option Addr}{l:List α}(h:aO P w S size A l)(hS:∀g,S g→g<w.heap.size→S' g)(hz:0<size)(hP:∀x v,P x v→P' x v):aO P' w S' size A l:=by
 obtain⟨vs,h1,h2,h3⟩:=h
 exact⟨vs,h1,h2.mono hS hz,fun i x v hx hv=>hP x v (h3 i x v hx hv)⟩
theorem aO.empty{α:Type}(P:α→Value→Prop)(w:World)(S:Nat→Prop)(size:Nat)(A:Option Addr):aO P w S size A []:=⟨[],rfl,.empty _ _ _ _,fun i x v h=>by simp at h⟩
theorem dS.keep{w w':World}{S:Nat→Prop}{d:Dc}{v:Value}(h:dS w S d v)(hk:Kept S w w'):dS w' S d v:=by
 obtain⟨nA,nc,fA,fc,vt,vr,vw,e,h1,h2,h3,h4,h5,h6,h7⟩:=h
 exact⟨nA,nc,fA,fc,vt,vr,vw,e,h1.keep hk,h2,h3.keep hk (fun _ _ h=>h.keep hk),h4,h5.keep hk,h6.keep hk,h7.keep hk⟩
theorem dS.mono{w:World}{S S':Nat→Prop}{d:Dc}{v:Value}(h:dS w S d v)(hS:∀g,S g→g<w.heap.size→S' g):dS w S' d v:=by
 obtain⟨nA,nc,fA,fc,vt,vr,vw,e,h1,h2,h3,h4,h5,h6,h7⟩:=h
 exact⟨nA,nc,fA,fc,vt,vr,vw,e,h1.mono hS (by decide),h2,h3.mono hS (by decide) (fun _ _ h=>h.mono hS),h4,h5.mono hS,h6.mono hS,h7.mono hS⟩
end
section
open Go.RowKit
def fQ(t:Tok × Nat):List Value:=[.int .i64 t.1.kind,.string t.1.text,.int .i64 t.1.int,.string t.1.str,.int .i64 t.2]
def jV(L:cB):List Value:=L.flatMap fQ
theorem BN(L:cB)(t:Tok × Nat):jV (L++[t])=jV L++fQ t:=by simp[jV]
theorem Ei(L:cB)(i j:Nat)(hi:i<L.length)(hj:j<5):(jV L)[i * 5+j]?=(fQ L[i])[j]?:=by
 induction L generalizing i with
 |nil=>simp at hi
 |cons t r ih=>
  have e:jV (t::r)=fQ t++jV r:=by simp[jV]
  rw[e]
  cases i with
  |zero=>rw[gL (by simp[fQ];omega)];simp
  |succ i=>
   rw[gM (by simp[fQ];omega)]
   rw[show (i+1) * 5+j-(fQ t).length=i * 5+j by simp[fQ];omega]
   rw[ih i (by simpa using hi)];simp
theorem aF{w:World}{b i:Nat}{cs:Array Value}{t:TypeId}{fr:Nat × Nat}(h:w.heap[b]?=some (.cells cs t fr))(u:Value):(w.setCell ⟨b,i,none⟩ u).heap[b]?=some (.cells (cs.setIfInBounds i u) t fr):=by
 have hlt:=jS h
 have h':w.heap[b]=.cells cs t fr:=by simpa [Array.getElem?_eq_getElem hlt] using h
 show (w.heap.modify b _)[b]?=_
 rw[Array.getElem?_eq_getElem (by simpa using hlt),Array.getElem_modify_self,h']
 rfl
structure PSt(b:Nat)(A:Option Addr)(n c:Nat)(L:cB)(ln:Nat→Nat)(s:St)(w:World):Prop where
 blk:∃line:Nat,w.heap[b]?=some (.cells #[.slice A n c,.int .i64 s.pos,.int .i64 s.err,.int .i64 line] 155 (0,0))∧(s.err≠0→line=ln s.pos)
 len:n=L.length
 pos:s.pos≤L.length
 err:s.err=0→ln=lS L
 toks:ak w (·<b) 5 A n (jV L)
 few:L.length≤100000
theorem PSt.lt{b:Nat}{A:Option Addr}{n c:Nat}{L:cB}{ln:Nat→Nat}{s:St}{w:World}(h:PSt b A n c L ln s w):b<w.heap.size:=by
 obtain⟨l,hl,_⟩:=h.blk
 exact jS hl
theorem PSt.below{b:Nat}{A:Option Addr}{n c:Nat}{L:cB}{ln:Nat→Nat}{s:St}{w w':World}(h:PSt b A n c L ln s w)(hb:Below w.heap.size w w'):PSt b A n c L ln s w':=by
 obtain⟨l,hl,h2⟩:=h.blk
 exact⟨⟨l,(hb.block b (jS hl)).trans hl,h2⟩,h.len,h.pos,h.err,h.toks.keep (aA hb),h.few⟩
theorem PSt.other{b B:Nat}{A:Option Addr}{n c:Nat}{L:cB}{ln:Nat→Nat}{s:St}{w w':World}(h:PSt b A n c L ln s w)(hb:Below B w w')(hg:b<B):PSt b A n c L ln s w':=by
 obtain⟨l,hl,h2⟩:=h.blk
 exact⟨⟨l,(hb.block b hg).trans hl,h2⟩,h.len,h.pos,h.err,h.toks.keep (fun g h1 _=>hb.block g (Nat.lt_trans h1 hg)),h.few⟩
theorem qH{w:World}{S:Nat→Prop}{A:Option Addr}{n:Nat}{L:cB}{i:Nat}(h:ak w S 5 A n (jV L))(hn:n=L.length)(hi:i<n):
  ∃g o,A=some ⟨g,o,none⟩∧S g∧w.cell? ⟨g,o+i * 5,none⟩=some (.int .i64 (L[i]'(by omega)).1.kind)∧w.cell? ⟨g,o+i * 5+1,none⟩=some (.string (L[i]'(by omega)).1.text)∧
   w.cell? ⟨g,o+i * 5+2,none⟩=some (.int .i64 (L[i]'(by omega)).1.int)∧w.cell? ⟨g,o+i * 5+3,none⟩=some (.string (L[i]'(by omega)).1.str)∧w.cell? ⟨g,o+i * 5+4,none⟩=some (.int .i64 (L[i]'(by omega)).2):=by
 obtain⟨g,o,e,hS,hc⟩:=h.cells (by omega)
 have k:=fun j (hj:j<5)=>hc (i * 5+j) ((fQ (L[i]'(by omega)))[j]'(by simpa [fQ] using hj)) (by rw[Ei L i j (by omega) hj,dD])
 refine⟨g,o,e,hS,?_,?_,?_,?_,?_⟩
 ·simpa [fQ] using k 0 (by decide)
 ·simpa [fQ,Nat.add_assoc] using k 1 (by decide)
 ·simpa [fQ,Nat.add_assoc] using k 2 (by decide)
 ·simpa [fQ,Nat.add_assoc] using k 3 (by decide)
 ·simpa [fQ,Nat.add_assoc] using k 4 (by decide)
end
section
open Go.RowKit
open _root_.Go.Proofs.Tryz
def aC(l:List ByteArray):List Value:=l.map Value.string
theorem iZ(l:List ByteArray)(x:ByteArray):aC (l++[x])=aC l++[.string x]:=by simp[aC]
theorem dV(l:List ByteArray)(i:Nat)(h:i<l.length):(aC l)[i]?=some (.string (l.getD i ByteArray.empty)):=by simp[aC,h]
def bY(l:List Int):List Value:=l.map (Value.int .i64)
theorem nR(l:List Int)(x:Int):bY (l++[x])=bY l++[.int .i64 x]:=by simp[bY]
theorem mV(l:List Int)(i:Nat)(h:i<l.length):(bY l)[i]?=some (.int .i64 (l.getD i 0)):=by simp[bY,h]
theorem AY:(prog.info? 9).map (fun i=>(i.zero,i.size,i.bytes))=some (some (.string ByteArray.empty),1,16):=by kernel_rfl
theorem Gw:(prog.info? 3).map (fun i=>(i.zero,i.size,i.bytes))=some (some (.int .i64 0),1,8):=by kernel_rfl
theorem info_tok:(prog.info? 179).map (fun i=>(i.zero,i.size,i.bytes))=some (some (.agg #[.int .i64 0,.string ByteArray.empty,.int .i64 0,.string ByteArray.empty,.int .i64 0]),5,56):=by kernel_rfl
theorem CV:(prog.info? 35).map (fun i=>(i.zero,i.size,i.bytes))=some (some (.agg #[.int .i64 0,.int .i64 0,.string ByteArray.empty,.slice none 0 0,.slice none 0 0,.int .i64 0,.string ByteArray.empty,.int .i64 0,.slice none 0 0,.slice none 0 0,.string ByteArray.empty,.int .i64 0,.string ByteArray.empty,.int .i64 0,.slice none 0 0,.slice none 0 0,.int .i64 0,.string ByteArray.empty,.int .i64 0,.slice none 0 0,.slice none 0 0,.string ByteArray.empty]),22,352):=by kernel_rfl
theorem eB{P:Program}(w:World){ops:Array Oper}{rest:List Oper}{o:Oper}{a:Act}{Q:Exit→Act→World→Prop}(hgd:o.guard=none)(s x:Operand)(t:TypeId)
  (ho:o.op=.call { callee:=.builtin .append,args:=#[s,x],argTypes:=#[t,t] })
  (base:Nat) (e:TypeId) (i:TypeInfo) (z:Value) (size bytes:Nat) (ht:P.underlying t=some (.slice e)) (hi:P.info? e=some i) (hz:i.zero=some z)
  (hsize:i.size=size) (hby:i.bytes=bytes) (hzs:z.cells.size=size) (hsz:0<size)
  (v:Value) (n:Nat) (xs:List Value) (hown:w.ownsRow base e size v n xs) (hs:a.eval s=v)
  (news:List Value) (hx:a.eval x=.slice (some ⟨w.heap.size,0,none⟩) 1 1) (hl:news.length=size) (h1:∀u∈news,u.oneCell'=true)
  (hlim:(n+1) * bytes≤140737488355328) (CZ:n≤140737488355328) (hbase:base≤w.heap.size)
  (h:∀v' w',w'.ownsRow base e size v' (n+1) (xs++news)→w.grownBy w' v.ownBlock→(v'.ownBlock=v.ownBlock∨v'.ownBlock=some (w.heap.size+1))→wpList P ops Q rest (a.put o.dst v') w'):
  wpList P ops Q (o::rest) a (w.alloc (.cells news.toArray e)):=by
 have hcell:∀j u,news[j]?=some u→(w.alloc (.cells news.toArray e)).cell? ((⟨w.heap.size,0,none⟩:Addr).add j)=some u:=by
  intro j u hu
  have hadd:(⟨w.heap.size,0,none⟩:Addr).add j=⟨w.heap.size,j,none⟩:=by unfold Addr.add;split<;>simp_all
  rw[hadd,j5 _ w.heap.size j news.toArray e (0,0) (jR w _)]
  simpa using hu
 refine wpList_append_own_at _ hgd s x t ho base e i z size bytes ht hi hz hsize hby hzs hsz v n xs hs (hown.alloc _) ⟨w.heap.size,0,none⟩ 1 1 news hx (by omega) hcell h1 (by unfold maxLen;omega) hlim (by simp;omega) ?_
 intro v' w' h2 h3 _ h5
 refine h v' w' h2 (au (aM ((jQ _ _).alloc (aP _) _)) h3) ?_
 simpa using h5
def dZ{α:Type}(P:World→(Nat→Prop)→α→Value→Prop)(w:World)(S:Nat→Prop)(base:Nat)(e:TypeId)(size:Nat)(v:Value)(acc:List α):Prop:=
 ∃vs:List Value,vs.length=acc.length∧w.ownsRow base e size v acc.length (vs.flatMap cellsOf)∧∀(i:Nat)(x:α)(u:Value),acc[i]?=some x→vs[i]?=some u→P w (fun g=>S g∧some g≠v.ownBlock) x u
structure qp{α:Type}(P:World→(Nat→Prop)→α→Value→Prop):Prop where
 keep:∀{w w':World}{S:Nat→Prop}{x:α}{v:Value},P w S x v→Kept S w w'→P w' S x v
 mono:∀{w:World}{S S':Nat→Prop}{x:α}{v:Value},P w S x v→(∀g,S g→g<w.heap.size→S' g)→P w S' x v
theorem oG:qp dX:=⟨fun h k=>h.keep k,fun h k=>h.mono k⟩
theorem Gf:qp ng:=⟨fun h k=>h.keep k,fun h k=>h.mono k⟩
theorem uJ:qp dS:=⟨fun h k=>h.keep k,fun h k=>h.mono k⟩
section
variable {α:Type} {P:World→(Nat→Prop)→α→Value→Prop} {w w':World} {S S':Nat→Prop} {base e size:Nat} {v:Value} {acc:List α}
theorem dZ.nil(w:World)(S:Nat→Prop)(base e size:Nat):dZ P w S base e size (.slice none 0 0) []:=⟨[],rfl,World.ownsRow_nil _ _ _ _,fun i x u h=>by simp at h⟩
theorem jl{n:Nat}{xs:List Value}(h:w.ownsRow base e size v n xs)(hk:∀g,v.ownBlock=some g→w'.heap[g]?=w.heap[g]?):w'.ownsRow base e size v n xs:=by
 obtain⟨a,b⟩:=h
 refine⟨a,?_⟩
 rcases b with b|⟨g,cap,cur,hv,hg,hh,r⟩
 ·exact Or.inl b
 ·exact Or.inr ⟨g,cap,cur,hv,hg,by rw[hk g (by rw[hv];rfl)];exact hh,r⟩
theorem dZ.keep(h:dZ P w S base e size v acc)(hP:qp P)(hk:Kept S w w')(hv:∀g,v.ownBlock=some g→w'.heap[g]?=w.heap[g]?):dZ P w' S base e size v acc:=by
 obtain⟨vs,h1,h2,h3⟩:=h
 exact⟨vs,h1,jl h2 hv,fun i x u hx hu=>hP.keep (h3 i x u hx hu) (hk.mono fun g hg=>hg.1)⟩
theorem dZ.mono(h:dZ P w S base e size v acc)(hP:qp P)(hS:∀g,S g→g<w.heap.size→S' g):dZ P w S' base e size v acc:=by
 obtain⟨vs,h1,h2,h3⟩:=h
 exact⟨vs,h1,h2,fun i x u hx hu=>hP.mono (h3 i x u hx hu) (fun g hg hl=>⟨hS g hg.1 hl,hg.2⟩)⟩
theorem dZ.lt(h:dZ P w S base e size v acc):∀g,v.ownBlock=some g→base≤g∧g<w.heap.size:=by
 obtain⟨vs,h1,h2,h3⟩:=h
 exact h2.lt
theorem dZ.grown{b:Nat}(h:dZ P w S base e size v acc)(hP:qp P)(hg:w.grownBy w' (some b))(hb:b<base)(hS:∀g,S g→g≠b):dZ P w' S base e size v acc:=
 h.keep hP ((aR hg).mono hS) (fun g e=>by have:=h.lt g e;exact hg.block g this.2 (fun e=>by injection e;omega))
theorem dZ.push{vs:List Value}(h1:vs.length=acc.length)(h3:∀(i:Nat)(x:α)(u:Value),acc[i]?=some x→vs[i]?=some u→P w (fun g=>S g∧some g≠v.ownBlock) x u)(hP:qp P){x:α}{u v':Value}{news:List Value}(hn:cellsOf u=news)(hx:P w (fun g=>S g∧some g≠v.ownBlock) x u)
  (hown:w'.ownsRow base e size v' (acc.length+1) (vs.flatMap cellsOf++news)) (hg:w.grownBy w' v.ownBlock) (hv:v'.ownBlock=v.ownBlock∨v'.ownBlock=some (w.heap.size+1)):
  dZ P w' S base e size v' (acc++[x]):=by
 have key:∀y z,P w (fun g=>S g∧some g≠v.ownBlock) y z→P w' (fun g=>S g∧some g≠v'.ownBlock) y z:=by
  intro y z hp
  have hp1:P w (fun g=>S g∧some g≠v'.ownBlock∧some g≠v.ownBlock) y z:=hP.mono hp (fun g hg1 hg2=>by
   refine⟨hg1.1,?_,hg1.2⟩
   rcases hv with hv|hv
   ·rw[hv];exact hg1.2
   ·rw[hv];intro e;injection e;omega)
  exact hP.mono (hP.keep hp1 (fun g hg1 hg2=>hg.block g hg2 hg1.2.2)) (fun g hg1 _=>⟨hg1.1,hg1.2.1⟩)
 refine⟨vs++[u],by simp[h1],?_,?_⟩
 ·rw[bD,List.flatMap_append]
  simpa [hn] using hown
 ·intro i y z hy hz
  by_cases hi:i<acc.length
  ·rw[gL hi] at hy
   rw[gL (by omega)] at hz
   exact key _ _ (h3 i y z hy hz)
  ·have hia:i=acc.length:=by
    have:=(List.getElem?_eq_some_iff.1 hy).1
    simp at this;omega
   subst hia
   rw[gM (aP _)] at hy
   rw[gM (by omega),h1] at hz
   simp at hy hz
   subst hy hz
   exact key _ _ hx
theorem dZ.one(w:World)(hP:qp P){x:α}{u:Value}{cs:Array Value}(hn:cellsOf u=cs.toList)(hs:cs.size=size)(hb:base≤w.heap.size)(hx:P w S x u):
  dZ P (w.alloc (.cells cs e)) S base e size (.slice (some ⟨w.heap.size,0,none⟩) 1 1) [x]:=by
 refine⟨[u],rfl,?_,?_⟩
 ·have:=World.ownsRow_lit (base:=base) (e:=e) (size:=size) w cs 1 hb (by decide) (by omega)
  simpa [hn] using this
 ·intro i y z hy hz
  have hi:i=0:=by
   have:=(List.getElem?_eq_some_iff.1 hy).1
   simp at this;exact this
  subst hi
  simp at hy hz
  subst hy hz
  exact hP.keep (hP.mono hx (fun g h1 h2=>⟨h1,fun e=>by simp[Value.ownBlock] at e;omega⟩)) (aA ((jQ _ _).alloc (aP _) _))
theorem dZ.list(h:dZ P w S base e size v acc)(hP:qp P):∃A c,v=.slice A acc.length c∧acc.length≤c∧aO (P w S) w (base≤·) size A acc:=by
 obtain⟨vs,h1,h2,h3⟩:=h
 obtain⟨A,c,rfl,hc⟩:=aD h2
 exact⟨A,c,rfl,hc,vs,h1,ak.own h2,fun i x u hx hu=>hP.mono (h3 i x u hx hu) (fun g hg _=>hg.1)⟩
end
theorem gK(w:World){ops:Array Oper}{rest:List Oper}{o:Oper}{a:Act}{Q:Exit→Act→World→Prop}(hgd:o.guard=none)(s x:Operand)
  (ho:o.op=.call { callee:=.builtin .append,args:=#[s,x],argTypes:=#[32,32] })
  (base:Nat) (v:Value) (n:Nat) (xs:List Value) (hown:w.ownsRow base 9 1 v n xs) (hs:a.eval s=v)
  (u:ByteArray) (hx:a.eval x=.slice (some ⟨w.heap.size,0,none⟩) 1 1)
  (hlim:n≤100000000000) (hbase:base≤w.heap.size)
  (h:∀v' w',w'.ownsRow base 9 1 v' (n+1) (xs++[.string u])→w.grownBy w' v.ownBlock→(v'.ownBlock=v.ownBlock∨v'.ownBlock=some (w.heap.size+1))→wpList prog ops Q rest (a.put o.dst v') w'):
  wpList prog ops Q (o::rest) a (w.alloc (.cells #[.string u] 9)):=by
 obtain⟨i0,hi,hz0,hz1,hz2⟩:=info_parts AY
 exact eB w hgd s x _ ho base 9 i0 (.string ByteArray.empty) 1 16 underlying32 hi hz0 hz1 hz2 rfl (by decide) v n xs hown hs [.string u] hx rfl (by simp[Value.oneCell']) (by omega) (by omega) hbase h
theorem Ao(w:World){ops:Array Oper}{rest:List Oper}{o:Oper}{a:Act}{Q:Exit→Act→World→Prop}(hgd:o.guard=none)(s x:Operand)
  (ho:o.op=.call { callee:=.builtin .append,args:=#[s,x],argTypes:=#[23,23] })
  (base:Nat) (v:Value) (n:Nat) (xs:List Value) (hown:w.ownsRow base 3 1 v n xs) (hs:a.eval s=v)
  (u:Int) (hx:a.eval x=.slice (some ⟨w.heap.size,0,none⟩) 1 1)
  (hlim:n≤100000000000) (hbase:base≤w.heap.size)
  (h:∀v' w',w'.ownsRow base 3 1 v' (n+1) (xs++[.int .i64 u])→w.grownBy w' v.ownBlock→(v'.ownBlock=v.ownBlock∨v'.ownBlock=some (w.heap.size+1))→wpList prog ops Q rest (a.put o.dst v') w'):
  wpList prog ops Q (o::rest) a (w.alloc (.cells #[.int .i64 u] 3)):=by
 obtain⟨i0,hi,hz0,hz1,hz2⟩:=info_parts Gw
 exact eB w hgd s x _ ho base 3 i0 (.int .i64 0) 1 8 underlying23 hi hz0 hz1 hz2 rfl (by decide) v n xs hown hs [.int .i64 u] hx rfl (by simp[Value.oneCell']) (by omega) (by omega) hbase h
theorem push_tok(w:World){ops:Array Oper}{rest:List Oper}{o:Oper}{a:Act}{Q:Exit→Act→World→Prop}(hgd:o.guard=none)(s x:Operand)
  (ho:o.op=.call { callee:=.builtin .append,args:=#[s,x],argTypes:=#[153,153] })
  (base:Nat) (v:Value) (n:Nat) (xs:List Value) (hown:w.ownsRow base 179 5 v n xs) (hs:a.eval s=v)
  (kd:Int) (tx:ByteArray) (it:Int) (st:ByteArray) (li:Int) (hx:a.eval x=.slice (some ⟨w.heap.size,0,none⟩) 1 1)
  (hlim:n≤100000000000) (hbase:base≤w.heap.size)
  (h:∀v' w',w'.ownsRow base 179 5 v' (n+1) (xs++[.int .i64 kd,.string tx,.int .i64 it,.string st,.int .i64 li])→w.grownBy w' v.ownBlock→(v'.ownBlock=v.ownBlock∨v'.ownBlock=some (w.heap.size+1))→wpList prog ops Q rest (a.put o.dst v') w'):
  wpList prog ops Q (o::rest) a (w.alloc (.cells #[.int .i64 kd,.string tx,.int .i64 it,.string st,.int .i64 li] 179)):=by
 obtain⟨i0,hi,hz0,hz1,hz2⟩:=info_parts info_tok
 exact eB w hgd s x _ ho base 179 i0 _ 5 56 underlying153 hi hz0 hz1 hz2 rfl (by decide) v n xs hown hs [.int .i64 kd,.string tx,.int .i64 it,.string st,.int .i64 li] hx rfl (by simp[Value.oneCell']) (by omega) (by omega) hbase h
theorem Ck(w:World){ops:Array Oper}{rest:List Oper}{o:Oper}{a:Act}{Q:Exit→Act→World→Prop}(hgd:o.guard=none)(s x:Operand)
  (ho:o.op=.call { callee:=.builtin .append,args:=#[s,x],argTypes:=#[22,22] })
  (base:Nat) (v:Value) (n:Nat) (xs:List Value) (hown:w.ownsRow base 35 22 v n xs) (hs:a.eval s=v)
  (kd li:Int) (nm:ByteArray) (nA:Option Addr) (nn nc:Nat) (fA:Option Addr) (fn fc:Nat) (pr us:ByteArray) (o1:Int) (m1:ByteArray) (d1:Int) (wA1:Option Addr) (wn1 wc1:Nat) (kA1:Option Addr) (kn1 kc1:Nat) (o2:Int) (m2:ByteArray) (d2:Int) (wA2:Option Addr) (wn2 wc2:Nat) (kA2:Option Addr) (kn2 kc2:Nat) (o3:Int) (m3:ByteArray) (d3:Int) (wA3:Option Addr) (wn3 wc3:Nat) (kA3:Option Addr) (kn3 kc3:Nat) (hx:a.eval x=.slice (some ⟨w.heap.size,0,none⟩) 1 1)
  (hlim:n≤100000000000) (hbase:base≤w.heap.size)
  (h:∀v' w',w'.ownsRow base 35 22 v' (n+1) (xs++[.int .i64 kd,.int .i64 li,.string nm,.slice nA nn nc,.slice fA fn fc,.int .i64 o1,.string m1,.int .i64 d1,.slice wA1 wn1 wc1,.slice kA1 kn1 kc1,.string pr,.int .i64 o2,.string m2,.int .i64 d2,.slice wA2 wn2 wc2,.slice kA2 kn2 kc2,.int .i64 o3,.string m3,.int .i64 d3,.slice wA3 wn3 wc3,.slice kA3 kn3 kc3,.string us])→w.grownBy w' v.ownBlock→(v'.ownBlock=v.ownBlock∨v'.ownBlock=some (w.heap.size+1))→wpList prog ops Q rest (a.put o.dst v') w'):
  wpList prog ops Q (o::rest) a (w.alloc (.cells #[.int .i64 kd,.int .i64 li,.string nm,.slice nA nn nc,.slice fA fn fc,.int .i64 o1,.string m1,.int .i64 d1,.slice wA1 wn1 wc1,.slice kA1 kn1 kc1,.string pr,.int .i64 o2,.string m2,.int .i64 d2,.slice wA2 wn2 wc2,.slice kA2 kn2 kc2,.int .i64 o3,.string m3,.int .i64 d3,.slice wA3 wn3 wc3,.slice kA3 kn3 kc3,.string us] 35)):=by
 obtain⟨i0,hi,hz0,hz1,hz2⟩:=info_parts CV
 exact eB w hgd s x _ ho base 35 i0 _ 22 352 underlying22 hi hz0 hz1 hz2 rfl (by decide) v n xs hown hs [.int .i64 kd,.int .i64 li,.string nm,.slice nA nn nc,.slice fA fn fc,.int .i64 o1,.string m1,.int .i64 d1,.slice wA1 wn1 wc1,.slice kA1 kn1 kc1,.string pr,.int .i64 o2,.string m2,.int .i64 d2,.slice wA2 wn2 wc2,.slice kA2 kn2 kc2,.int .i64 o3,.string m3,.int .i64 d3,.slice wA3 wn3 wc3,.slice kA3 kn3 kc3,.string us] hx rfl (by simp[Value.oneCell']) (by omega) (by omega) hbase h
end
section
open Go.Maps (Keyed)
open Go.RowKit
def I5(v:Value):Option (DataW Value × List MemPlace):=some (.held v,[])
def bH(P:Program)(w:World)(k:TypeId)(b n:Nat)(f:ByteArray→Option Value):Prop:=
 ∃D:DataW Value,w.ownsMap P k I5 b n D∧∀x:ByteArray,x.size≤maxLen→(∀z,D.atKey (.string x.data.toList) (.held z)=.held ((f x).getD z))∧Maps.has D (.string x.data.toList)=(f x).isSome
section
variable {P:Program} {w w':World} {k t e:TypeId} {b n:Nat} {f:ByteArray→Option Value}
theorem bH.made(P:Program)(w:World)(k:TypeId):bH P (w.alloc (.map #[] 0)) k w.heap.size 0 (fun _=>none):=
 ⟨.map [],World.ownsMap_made _ _ _ _,fun _ _=>⟨fun _=>rfl,rfl⟩⟩
theorem bH.lt(h:bH P w k b n f):b<w.heap.size:=by obtain⟨D,h,-⟩:=h;exact h.lt
theorem bH.mono(h:bH P w k b n f){n':Nat}(hn:n≤n'):bH P w k b n' f:=by obtain⟨D,h,r⟩:=h;exact⟨D,h.mono hn,r⟩
theorem bH.kept{row:Option Nat}(h:bH P w k b n f)(hg:w.grownBy w' row)(hne:some b≠row):bH P w' k b n f:=by
 obtain⟨D,h,r⟩:=h;exact⟨D,h.kept hg hne,r⟩
theorem bH.below{B:Nat}(h:bH P w k b n f)(hb:Below B w w')(hB:b<B):bH P w' k b n f:=by
 obtain⟨D,⟨es,c,h1,h2⟩,r⟩:=h
 exact⟨D,⟨es,c,(hb.block b hB).trans h1,h2⟩,r⟩
theorem bH.cong(h:bH P w k b n f){g:ByteArray→Option Value}(hg:∀x,f x=g x):bH P w k b n g:=by
 obtain rfl:f=g:=funext hg
 exact h
theorem bH.look(h:bH P w k b n f)(hk:P.underlying k=some .string)(ht:P.underlying t=some (.map k e)){z:Value}(hz:(zeroValue e).run P w=.ok z w){x:ByteArray}(hx:x.size≤maxLen):
  (Instr.lookup t (.map (some b)) (.string x) false).run P w=.ok ((f x).getD z) w:=by
 obtain⟨D,h,r⟩:=h
 obtain⟨v,ps,hrun,hv⟩:=h.lookup (Maps.string_keyed hk) ht hz (zd:=.held z) (zp:=[]) rfl (WideMaps.keyOf_string_mk hk hx)
 rw[(r x hx).1 z] at hv
 have:v=(f x).getD z:=by
  have:=congrArg Prod.fst (Option.some.inj hv)
  injection this
 rw[hrun,this]
theorem bH.look_ok(h:bH P w k b n f)(hk:P.underlying k=some .string)(ht:P.underlying t=some (.map k e)){z:Value}(hz:(zeroValue e).run P w=.ok z w){x:ByteArray}(hx:x.size≤maxLen):
  (Instr.lookup t (.map (some b)) (.string x) true).run P w=.ok (.tuple #[(f x).getD z,.bool (f x).isSome]) w:=by
 obtain⟨D,h,r⟩:=h
 obtain⟨v,ps,hrun,hv⟩:=h.look_ok (Maps.string_keyed hk) ht hz (zd:=.held z) (zp:=[]) rfl (WideMaps.keyOf_string_mk hk hx)
 rw[(r x hx).1 z] at hv
 have:v=(f x).getD z:=by
  have:=congrArg Prod.fst (Option.some.inj hv)
  injection this
 rw[hrun,this,(r x hx).2]
theorem bH.store(h:bH P w k b n f)(hk:P.underlying k=some .string)(ht:P.underlying t=some (.map k e))(hn:n<maxLen){x:ByteArray}(hx:x.size≤maxLen)(v:Value):
  ∃w',(Instr.mapUpdate t (.map (some b)) (.string x) v).run P w=.ok () w'∧bH P w' k b (n+1) (fun y=>if y=x then some v else f y)∧w.grownBy w' (some b)∧w'.heap.size=w.heap.size:=by
 obtain⟨D,h,r⟩:=h
 obtain⟨w',hrun,hown,hturn⟩:=h.store (Maps.string_keyed hk) ht hn (WideMaps.keyOf_string_mk hk hx) (show I5 v=some (.held v,[]) from rfl)
 refine⟨w',hrun,⟨_,hown,fun y hy=>?_⟩,hturn.grown,?_⟩
 ·by_cases e:y=x
  ·subst e
   have e1:(fun y'=>if y'=y then some v else f y') y=some v:=if_pos rfl
   rw[e1]
   exact⟨fun z=>Maps.atKey_put_same h.isMap (show WideAt.IsKeyLit (.string y.data.toList) by simp[WideAt.IsKeyLit]) _ _,by rw[Maps.has_put_same h.isMap (show WideAt.IsKeyLit (.string y.data.toList) by simp[WideAt.IsKeyLit])];rfl⟩
  ·have hne:(Lit.string y.data.toList)≠.string x.data.toList:=fun h2=>e (by injection h2 with h3;rw[←gN y,h3,gN])
   have e1:(fun y'=>if y'=x then some v else f y') y=f y:=if_neg e
   rw[e1]
   exact⟨fun z=>by rw[Maps.atKey_put_other hne];exact (r y hy).1 z,by rw[Maps.has_put_other hne];exact (r y hy).2⟩
 ·obtain⟨es,c,es',c',-,rfl⟩:=hturn
  simp[ChangeMaps.setBlock]
theorem bH.at(h:bH P w k b n f)(he:w'.heap[b]?=w.heap[b]?):bH P w' k b n f:=by
 obtain⟨D,⟨es,c,h1,h2⟩,r⟩:=h
 exact⟨D,⟨es,c,he.trans h1,h2⟩,r⟩
theorem bH.entry(h:bH P w k b n f)(hk:P.underlying k=some .string)(ht:P.underlying t=some (.map k e)){z:Value}(hz:∀u:World,(zeroValue e).run P u=.ok z u)(hn:n<maxLen){x:ByteArray}(hx:x.size≤maxLen):
  ∃(v0:Value)(st:Nat)(w1:World),(Instr.mapEntry t (.map (some b)) (.string x)).run P w=.ok (.tuple #[v0,.int .i64 st]) w1∧w.grownBy w1 (some b)∧w1.heap.size=w.heap.size∧
   ∀(w2:World)(val:Value),w2.heap[b]?=w1.heap[b]?→∃w3,(Instr.entryStore t (.map (some b)) (.int .i64 st) val).run P w2=.ok () w3∧bH P w3 k b (n+1) (fun y=>if y=x then some val else f y)∧w2.grownBy w3 (some b)∧w3.heap.size=w2.heap.size:=by
 obtain⟨D,⟨es,clock,hb,F,h3,h4⟩,r⟩:=id h
 obtain⟨v0,st,es1,c1,e1,-,e2⟩:=WideElems.entry_then_store (WideMaps.string_law hk) ht hz hb F (WideMaps.keyOf_string_mk hk hx)
 have hb1:(ChangeMaps.setBlock w b (.map es1 c1)).heap[b]?=some (.map es1 c1):=ChangeMaps.heap_setBlock_same hb _
 refine⟨v0,st,_,e1,(show w.mapTurned _ b from ⟨es,clock,es1,c1,hb,rfl⟩).grown,by simp[ChangeMaps.setBlock],fun w2 val hw2=>?_⟩
 have hb2:w2.heap[b]?=some (.map es1 c1):=hw2.trans hb1
 obtain⟨es',c',e3,e4⟩:=e2 w2 val hb2
 obtain⟨w',hrun,hm,-,-⟩:=h.store hk ht hn hx val
 rw[e4] at hrun
 have hw':ChangeMaps.setBlock w b (.map es' c')=w':=by injection hrun
 refine⟨_,e3,hm.at ?_,(show w2.mapTurned _ b from ⟨es1,c1,es',c',hb2,rfl⟩).grown,by simp[ChangeMaps.setBlock]⟩
 rw[←hw',ChangeMaps.heap_setBlock_same hb,ChangeMaps.heap_setBlock_same hb2]
end
section
variable {P:Program} (w:World) {ops:Array Oper} {rest:List Oper} {o:Oper} {a:Act} {Q:Exit→Act→World→Prop} {K:Act→World→Prop} {E:Prop}
theorem jv(hg:o.guard=none)(m x:Operand)(t:TypeId)(hop:o.op=Op.lookup t m x false)(k e:TypeId)(hk:P.underlying k=some .string)(ht:P.underlying t=some (.map k e))
  {z:Value} (hz:(zeroValue e).run P w=.ok z w) (b n:Nat) (f:ByteArray→Option Value) (hm:a.eval m=.map (some b)) (hM:bH P w k b n f) (s:ByteArray) (hs:s.size≤maxLen) (hx:a.eval x=.string s) (u:Value) (hu:(f s).getD z=u)
  (h:wpList P ops Q rest (a.put o.dst u) w):wpList P ops Q (o::rest) a w:=by
 subst hu
 refine wpList_plain hg fun K' hK'=>?_
 unfold Oper.wp
 simp[execOp,hop,hm,hx,hM.look hk ht hz hs,Result.andThen]
 exact hK' _ _ h
theorem ol(hg:o.guard=none)(m x:Operand)(t:TypeId)(hop:o.op=Op.lookup t m x true)(k e:TypeId)(hk:P.underlying k=some .string)(ht:P.underlying t=some (.map k e))
  {z:Value} (hz:(zeroValue e).run P w=.ok z w) (b n:Nat) (f:ByteArray→Option Value) (hm:a.eval m=.map (some b)) (hM:bH P w k b n f) (s:ByteArray) (hs:s.size≤maxLen) (hx:a.eval x=.string s) (u:Value) (hu:(f s).getD z=u) (c:Bool) (hc:(f s).isSome=c)
  (h:wpList P ops Q rest (a.put o.dst (.tuple #[u,.bool c])) w):wpList P ops Q (o::rest) a w:=by
 subst hu hc
 refine wpList_plain hg fun K' hK'=>?_
 unfold Oper.wp
 simp[execOp,hop,hm,hx,hM.look_ok hk ht hz hs,Result.andThen]
 exact hK' _ _ h
theorem F3(hg:o.guard=none)(m x v:Operand)(t:TypeId)(hop:o.op=Op.mapUpdate t m x v)(k e:TypeId)(hk:P.underlying k=some .string)(ht:P.underlying t=some (.map k e))
  (b n:Nat) (f:ByteArray→Option Value) (hm:a.eval m=.map (some b)) (hM:bH P w k b n f) (hn:n<maxLen) (s:ByteArray) (hs:s.size≤maxLen) (hx:a.eval x=.string s) (u:Value) (hv:a.eval v=u)
  (h:∀w',bH P w' k b (n+1) (fun y=>if y=s then some u else f y)→w.grownBy w' (some b)→w'.heap.size=w.heap.size→wpList P ops Q rest (a.put o.dst undef) w'):wpList P ops Q (o::rest) a w:=by
 refine wpList_plain hg fun K' hK'=>?_
 obtain⟨w',hrun,r1,r2,r3⟩:=hM.store hk ht hn hs u
 unfold Oper.wp
 simp[execOp,hop,hm,hx,hv,hrun,Result.andThen]
 exact hK' _ _ (h w' r1 r2 r3)
end
end
section
open Go.Maps (Keyed)
open Go.RowKit
def InI(x:Int):Prop:=(Lit.int .i64 x).wf=true
def lG(P:Program)(w:World)(k:TypeId)(b n:Nat)(f:Int→Option Value):Prop:=
 ∃D:DataW Value,w.ownsMap P k I5 b n D∧∀x:Int,InI x→(∀z,D.atKey (.int .i64 x) (.held z)=.held ((f x).getD z))∧Maps.has D (.int .i64 x)=(f x).isSome
section
variable {P:Program} {w w':World} {k t e:TypeId} {b n:Nat} {f:Int→Option Value}
theorem lG.made(P:Program)(w:World)(k:TypeId):lG P (w.alloc (.map #[] 0)) k w.heap.size 0 (fun _=>none):=
 ⟨.map [],World.ownsMap_made _ _ _ _,fun _ _=>⟨fun _=>rfl,rfl⟩⟩
theorem lG.look(h:lG P w k b n f)(hk:P.underlying k=some (.int .i64))(ht:P.underlying t=some (.map k e)){z:Value}(hz:(zeroValue e).run P w=.ok z w){x:Int}(hx:InI x):
  (Instr.lookup t (.map (some b)) (.int .i64 x) false).run P w=.ok ((f x).getD z) w:=by
 obtain⟨D,h,r⟩:=h
 obtain⟨v,ps,hrun,hv⟩:=h.lookup (Maps.int_keyed hk) ht hz (zd:=.held z) (zp:=[]) rfl (Maps.keyOf_int_mk hk hx)
 rw[(r x hx).1 z] at hv
 have:v=(f x).getD z:=by
  have:=congrArg Prod.fst (Option.some.inj hv)
  injection this
 rw[hrun,this]
theorem lG.store(h:lG P w k b n f)(hk:P.underlying k=some (.int .i64))(ht:P.underlying t=some (.map k e))(hn:n<maxLen){x:Int}(hx:InI x)(v:Value):
  ∃w',(Instr.mapUpdate t (.map (some b)) (.int .i64 x) v).run P w=.ok () w'∧lG P w' k b (n+1) (fun y=>if y=x then some v else f y)∧w.grownBy w' (some b)∧w'.heap.size=w.heap.size:=by
 obtain⟨D,h,r⟩:=h
 obtain⟨w',hrun,hown,hturn⟩:=h.store (Maps.int_keyed hk) ht hn (Maps.keyOf_int_mk hk hx) (show I5 v=some (.held v,[]) from rfl)
 refine⟨w',hrun,⟨_,hown,fun y hy=>?_⟩,hturn.grown,?_⟩
 ·by_cases e:y=x
  ·subst e
   have e1:(fun y'=>if y'=y then some v else f y') y=some v:=if_pos rfl
   rw[e1]
   exact⟨fun z=>Maps.atKey_put_same h.isMap (show WideAt.IsKeyLit (.int .i64 y) by simp[WideAt.IsKeyLit]) _ _,by rw[Maps.has_put_same h.isMap (show WideAt.IsKeyLit (.int .i64 y) by simp[WideAt.IsKeyLit])];rfl⟩
  ·have hne:(Lit.int .i64 y)≠.int .i64 x:=fun h2=>e (by injection h2)
   have e1:(fun y'=>if y'=x then some v else f y') y=f y:=if_neg e
   rw[e1]
   exact⟨fun z=>by rw[Maps.atKey_put_other hne];exact (r y hy).1 z,by rw[Maps.has_put_other hne];exact (r y hy).2⟩
 ·obtain⟨es,c,es',c',-,rfl⟩:=hturn
  simp[ChangeMaps.setBlock]
end
section
variable {P:Program} (w:World) {ops:Array Oper} {rest:List Oper} {o:Oper} {a:Act} {Q:Exit→Act→World→Prop} {K:Act→World→Prop} {E:Prop}
theorem vD(hg:o.guard=none)(m x:Operand)(t:TypeId)(hop:o.op=Op.lookup t m x false)(k e:TypeId)(hk:P.underlying k=some (.int .i64))(ht:P.underlying t=some (.map k e))
  {z:Value} (hz:(zeroValue e).run P w=.ok z w) (b n:Nat) (f:Int→Option Value) (hm:a.eval m=.map (some b)) (hM:lG P w k b n f) (s:Int) (hs:InI s) (hx:a.eval x=.int .i64 s) (u:Value) (hu:(f s).getD z=u)
  (h:wpList P ops Q rest (a.put o.dst u) w):wpList P ops Q (o::rest) a w:=by
 subst hu
 refine wpList_plain hg fun K' hK'=>?_
 unfold Oper.wp
 simp[execOp,hop,hm,hx,hM.look hk ht hz hs,Result.andThen]
 exact hK' _ _ h
theorem eX(hg:o.guard=none)(m x v:Operand)(t:TypeId)(hop:o.op=Op.insert t m x v)(k e:TypeId)(hk:P.underlying k=some (.int .i64))(ht:P.underlying t=some (.map k e))
  (b n:Nat) (f:Int→Option Value) (hm:a.eval m=.map (some b)) (hM:lG P w k b n f) (hn:n<maxLen) (s:Int) (hs:InI s) (hx:a.eval x=.int .i64 s) (u:Value) (hv:a.eval v=u)
  (h:∀w',lG P w' k b (n+1) (fun y=>if y=s then some u else f y)→w.grownBy w' (some b)→w'.heap.size=w.heap.size→wpList P ops Q rest (a.put o.dst undef) w'):wpList P ops Q (o::rest) a w:=by
 refine wpList_plain hg fun K' hK'=>?_
 obtain⟨w',hrun,r1,r2,r3⟩:=hM.store hk ht hn hs u
 unfold Oper.wp
 simp[execOp,hop,hm,hx,hv,hrun,Result.andThen]
 exact hK' _ _ (h w' r1 r2 r3)
end
end
section
open Go.RowKit
abbrev Tab:=List (ByteArray × Int × Dc)
def dN:Tab→ByteArray→Option (Int × Dc)
 |[],_=>none
 |p::r,x=>if p.1==x then some p.2 else dN r x
def kS(t:Tab)(x:ByteArray):Int:=((dN t x).map (·.1)).getD 0
def kF(t:Tab)(x:ByteArray):Option Value:=(dN t x).map (fun p=>.int .i64 p.1)
theorem oV(t:Tab)(q:ByteArray × Int × Dc)(x:ByteArray):dN (t++[q]) x=if (dN t x).isSome=true then dN t x else if q.1==x then some q.2 else none:=by
 induction t with
 |nil=>rfl
 |cons p r ih=>
  rw[List.cons_append,dN,dN]
  split
  ·rfl
  ·exact ih
def uz(d:Dc):Tab:=(if dI d.kind=0 then [] else [(d.name,dI d.kind,d)])++(if d.kind=1 then d.names.map (fun x=>(x,2,d)) else [])
def kZ(l:List Dc):Tab:=l.flatMap uz
def Nz(t:Tab):Prop:=∀p∈t,p.2.1≠0
theorem nz_snoc{t:Tab}{q:ByteArray × Int × Dc}(h:Nz t)(hq:q.2.1≠0):Nz (t++[q]):=by
 intro p hp
 rcases List.mem_append.1 hp with hp|hp
 ·exact h p hp
 ·rw[List.mem_singleton.1 hp];exact hq
theorem xk{t:Tab}{x:ByteArray}{p:Int × Dc}(h:dN t x=some p):(x,p)∈t:=by
 induction t with
 |nil=>cases h
 |cons q r ih=>
  rw[dN] at h
  split at h
  ·rename_i e
   have:=(eT _ _).1 e
   obtain⟨q1,q2⟩:=q
   simp only at this
   subst this
   injection h with h
   subst h
   exact fO ..
  ·exact List.mem_cons_of_mem _ (ih h)
theorem ze{t:Tab}(h:Nz t)(x:ByteArray):kS t x=0↔dN t x=none:=by
 unfold kS
 cases e:dN t x with
 |none=>simp
 |some p=>
  have:=h _ (xk e)
  simp only[Option.map_some,Option.getD_some]
  exact⟨fun h0=>absurd h0 this,fun h0=>by cases h0⟩
theorem wO(t:Tab)(x:ByteArray):(kF t x).getD (.int .i64 0)=.int .i64 (kS t x):=by
 unfold kF kS
 cases dN t x<;>rfl
theorem Dj(t:Tab)(x:ByteArray):aQ (t.map fun p=>(p.1,p.2.1)) x=kS t x:=by
 unfold kS
 induction t with
 |nil=>rfl
 |cons p r ih=>
  rw[List.map_cons,aQ,dN]
  simp only
  split
  ·rfl
  ·exact ih
theorem Gb(l:List Dc):(kZ l).map (fun p=>(p.1,p.2.1))=tab l:=by
 unfold kZ tab
 rw[List.map_flatMap]
 congr 1
 funext d
 unfold uz rT
 rw[List.map_append]
 congr 1
 ·split<;>rfl
 ·split
  ·rw[List.map_map];rfl
  ·rfl
theorem wM(l:List Dc)(x:ByteArray):kS (kZ l) x=aQ (tab l) x:=by rw[←Gb,Dj]
structure But(T:Nat→Prop)(w w':World):Prop where
 os:w'.os=w.os
 tape:w'.tape=w.tape
 output:w'.output=w.output
 size:w.heap.size≤w'.heap.size
 block:∀g,¬T g→g<w.heap.size→w'.heap[g]?=w.heap[g]?
theorem But.refl(T:Nat→Prop)(w:World):But T w w:=⟨rfl,rfl,rfl,aP _,fun _ _ _=>rfl⟩
theorem But.trans{T:Nat→Prop}{a b c:World}(h:But T a b)(k:But T b c):But T a c:=
 ⟨k.os.trans h.os,k.tape.trans h.tape,k.output.trans h.output,cK h.size k.size,fun g hg hl=>(k.block g hg (bZ hl h.size)).trans (h.block g hg hl)⟩
theorem But.of_below{T:Nat→Prop}{w w':World}(h:Below w.heap.size w w'):But T w w':=⟨h.os,h.tape,h.output,h.size,fun g _ hl=>h.block g hl⟩
theorem But.bE{T:Nat→Prop}{w w':World}{b:Nat}(h:w.grownBy w' (some b))(hb:T b):But T w w':=
 ⟨h.os,h.tape,h.output,h.size,fun g hg hl=>h.block g hl (fun e=>hg (by injection e with e;subst e;exact hb))⟩
theorem But.mono{T T':Nat→Prop}{w w':World}(h:But T w w')(hT:∀g,T g→T' g):But T' w w':=⟨h.os,h.tape,h.output,h.size,fun g hg hl=>h.block g (fun k=>hg (hT g k)) hl⟩
theorem But.below{B:Nat}{T:Nat→Prop}{w w':World}(h:But T w w')(hT:∀g,T g→B≤g)(hB:B≤w.heap.size):Below B w w':=
 ⟨h.os,h.tape,h.output,h.size,fun g hl=>h.block g (fun k=>by have:=hT g k;omega) (by omega)⟩
theorem But.kept{T S:Nat→Prop}{w w':World}(h:But T w w')(hS:∀g,S g→¬T g):Kept S w w':=fun g hg hl=>h.block g (hS g hg) hl
theorem But.setCell{T:Nat→Prop}{a w:World}{b:Nat}(h:But T a w)(hb:T b)(o:Nat)(u:Value):But T a (w.setCell ⟨b,o,none⟩ u):=
 h.trans (.bE (aK (aJ w (some b)) o u) hb)
section
variable {P:Program} {w w':World} {k:TypeId} {b n:Nat} {f:ByteArray→Option Value}
theorem bH.but{T:Nat→Prop}(h:bH P w k b n f)(hb:But T w w')(hT:¬T b):bH P w' k b n f:=by
 have hl:=h.lt
 obtain⟨D,⟨es,c,h1,h2⟩,r⟩:=h
 exact⟨D,⟨es,c,(hb.block b hT hl).trans h1,h2⟩,r⟩
end
def BD(P:Program)(w:World)(S:Nat→Prop)(b n:Nat)(t:Tab):Prop:=
 ∃g,bH P w 9 b n g∧∀x,(dN t x=none∧g x=none)∨∃p v,dN t x=some p∧g x=some v∧dS w S p.2 v
def qP(l:List ByteArray)(x:ByteArray):Option Value:=if l.contains x=true then some (.bool true) else none
theorem yO(l:List ByteArray)(x:ByteArray):(qP l x).getD (.bool false)=.bool (l.contains x):=by
 unfold qP
 cases l.contains x<;>rfl
theorem Hr(l:List ByteArray)(s x:ByteArray):(if x=s then some (Value.bool true) else qP l x)=qP (l++[s]) x:=by
 unfold qP
 by_cases h:x=s
 ·rw[if_pos h,if_pos]
  subst h
  exact (DY _ _).2 (by simp)
 ·rw[if_neg h]
  have:(l++[s]).contains x=l.contains x:=by
   rw[Bool.eq_iff_iff,DY,DY,List.mem_append,List.mem_singleton]
   exact⟨fun k=>k.resolve_right h,Or.inl⟩
  rw[this]
structure Sc(P:Program)(ty:TypeId)(w:World)(S:Nat→Prop)(b kb db wb cb zb n zn:Nat)(t:Tab)(ns nc nl:Nat)(oth chn:Bool)(W C:List ByteArray)(Z:ByteArray→Option Bool):Prop where
 row:w.heap[b]?=some (.cells #[.map (some kb),.map (some db),.int .i64 ns,.int .i64 nc,.int .i64 nl,.bool oth,.bool chn,.map (some wb),.map (some cb),.map (some zb)] ty (0,0))
 kinds:bH P w 9 kb n (kF t)
 decls:BD P w S db n t
 wit:bH P w 9 wb n (qP W)
 con:bH P w 9 cb n (qP C)
 byz:bH P w 9 zb zn (fun x=>(Z x).map Value.bool)
 nz:Nz t
 ne:b≠kb∧b≠db∧b≠wb∧b≠cb∧b≠zb∧kb≠db∧kb≠wb∧kb≠cb∧kb≠zb∧db≠wb∧db≠cb∧db≠zb∧wb≠cb∧wb≠zb∧cb≠zb
 out:∀g,S g→g≠b∧g≠kb∧g≠db∧g≠wb∧g≠cb∧g≠zb
 lt:b<w.heap.size∧∀g,S g→g<w.heap.size
section
variable {P:Program} {ty:TypeId} {w w':World} {S:Nat→Prop} {b kb db wb cb zb n zn:Nat} {t:Tab} {ns nc nl:Nat} {oth chn:Bool} {W C:List ByteArray} {Z:ByteArray→Option Bool}
theorem BD.but{T:Nat→Prop}(h:BD P w S db n t)(hb:But T w w')(hT:¬T db)(hS:∀g,S g→¬T g):BD P w' S db n t:=by
 obtain⟨g,h1,h2⟩:=h
 refine⟨g,h1.but hb hT,fun x=>?_⟩
 rcases h2 x with h3|⟨p,v,h3,h4,h5⟩
 ·exact Or.inl h3
 ·exact Or.inr ⟨p,v,h3,h4,h5.keep (hb.kept hS)⟩
theorem Sc.but{T:Nat→Prop}(h:Sc P ty w S b kb db wb cb zb n zn t ns nc nl oth chn W C Z)(hb:But T w w')(hT:¬T b∧¬T kb∧¬T db∧¬T wb∧¬T cb∧¬T zb)(hS:∀g,S g→¬T g):
  Sc P ty w' S b kb db wb cb zb n zn t ns nc nl oth chn W C Z:=by
 obtain⟨h1,h2,h3,h4,h5,h6⟩:=hT
 exact⟨(hb.block b h1 h.lt.1).trans h.row,h.kinds.but hb h2,h.decls.but hb h3 hS,h.wit.but hb h4,h.con.but hb h5,h.byz.but hb h6,h.nz,h.ne,h.out,⟨bZ h.lt.1 hb.size,fun g hg=>bZ (h.lt.2 g hg) hb.size⟩⟩
theorem Sc.below(h:Sc P ty w S b kb db wb cb zb n zn t ns nc nl oth chn W C Z)(hb:Below w.heap.size w w'):Sc P ty w' S b kb db wb cb zb n zn t ns nc nl oth chn W C Z:=
 h.but (T:=fun _=>False) (.of_below hb) ⟨id,id,id,id,id,id⟩ (fun _ _=>id)
theorem Sc.mono(h:Sc P ty w S b kb db wb cb zb n zn t ns nc nl oth chn W C Z){n':Nat}(hn:n≤n'):Sc P ty w S b kb db wb cb zb n' zn t ns nc nl oth chn W C Z:=by
 obtain⟨g,h1,h2⟩:=h.decls
 exact⟨h.row,h.kinds.mono hn,⟨g,h1.mono hn,h2⟩,h.wit.mono hn,h.con.mono hn,h.byz,h.nz,h.ne,h.out,h.lt⟩
end
theorem findT_old{t:Tab}{q:ByteArray × Int × Dc}(h:(dN t q.1).isSome=true)(x:ByteArray):dN (t++[q]) x=dN t x:=by
 rw[oV]
 split
 ·rfl
 ·rename_i hx
  by_cases e:q.1=x
  ·subst e;exact absurd h hx
  ·rw[if_neg (fun k=>e ((eT _ _).1 k))]
   cases hf:dN t x with
   |none=>rfl
   |some p=>rw[hf] at hx;exact absurd rfl hx
theorem findT_new{t:Tab}{q:ByteArray × Int × Dc}(h:dN t q.1=none)(x:ByteArray):dN (t++[q]) x=if x=q.1 then some q.2 else dN t x:=by
 rw[oV]
 by_cases e:x=q.1
 ·subst e
  rw[h,if_pos rfl,if_neg (by simp),if_pos ((eT _ _).2 rfl)]
 ·rw[if_neg e]
  split
  ·rfl
  ·rename_i hx
   rw[if_neg (fun k=>e ((eT _ _).1 k).symm)]
   cases hf:dN t x with
   |none=>rfl
   |some p=>rw[hf] at hx;exact absurd rfl hx
section
variable {P:Program} {ty:TypeId} {w w1 w2:World} {S:Nat→Prop} {b kb db wb cb zb n zn:Nat} {t:Tab} {ns nc nl:Nat} {oth chn:Bool} {W C:List ByteArray} {Z:ByteArray→Option Bool}
theorem Sc.put_old(h:Sc P ty w S b kb db wb cb zb n zn t ns nc nl oth chn W C Z){name:ByteArray}{k:Int}{d:Dc}(ho:(dN t name).isSome=true)(hk:k≠0):
  Sc P ty w S b kb db wb cb zb (n+1) zn (t++[(name,k,d)]) ns nc nl oth chn W C Z:=by
 have h':=h.mono (gD n 1)
 have e:=findT_old (q:=(name,k,d)) ho
 obtain⟨g,h1,h2⟩:=h'.decls
 refine⟨h'.row,h'.kinds.cong (fun x=>?_),⟨g,h1,fun x=>?_⟩,h'.wit,h'.con,h'.byz,nz_snoc h.nz hk,h.ne,h.out,h.lt⟩
 ·unfold kF;rw[e]
 ·rw[e];exact h2 x
theorem Sc.put_new(h:Sc P ty w S b kb db wb cb zb n zn t ns nc nl oth chn W C Z){name:ByteArray}{k:Int}{d:Dc}{v:Value}{g:ByteArray→Option Value}(ho:dN t name=none)(hk:k≠0)
  (hd:dS w S d v) (hall:∀x,(dN t x=none∧g x=none)∨∃p v,dN t x=some p∧g x=some v∧dS w S p.2 v)
  (k1:bH P w1 9 kb (n+1) (fun y=>if y=name then some (.int .i64 k) else kF t y)) (g1:w.grownBy w1 (some kb)) (k2:bH P w2 9 db (n+1) (fun y=>if y=name then some v else g y)) (g2:w1.grownBy w2 (some db)):
  Sc P ty w2 S b kb db wb cb zb (n+1) zn (t++[(name,k,d)]) ns nc nl oth chn W C Z:=by
 have hne:=h.ne
 have hb:But (fun x=>x=kb∨x=db) w w2:=(But.bE g1 (Or.inl rfl)).trans (.bE g2 (Or.inr rfl))
 have hb2:But (fun x=>x=db) w1 w2:=.bE g2 rfl
 have hS:∀g,S g→¬(g=kb∨g=db):=fun g hg=>by have:=h.out g hg;omega
 have h':=h.mono (gD n 1)
 have e:=findT_new (q:=(name,k,d)) ho
 refine⟨(hb.block b (by omega) h.lt.1).trans h.row,(k1.but hb2 (by omega)).cong (fun x=>?_),⟨_,k2,fun x=>?_⟩,h'.wit.but hb (by omega),h'.con.but hb (by omega),h'.byz.but hb (by omega),nz_snoc h.nz hk,h.ne,h.out,
  ⟨bZ h.lt.1 hb.size,fun g hg=>bZ (h.lt.2 g hg) hb.size⟩⟩
 ·unfold kF
  rw[e]
  by_cases hx:x=name
  ·rw[if_pos hx,if_pos hx];rfl
  ·rw[if_neg hx,if_neg hx]
 ·rw[e]
  by_cases hx:x=name
  ·subst hx
   exact Or.inr ⟨(k,d),v,if_pos rfl,if_pos rfl,hd.keep (hb.kept hS)⟩
  ·have e1:(if x=(name,k,d).1 then some (name,k,d).2 else dN t x)=dN t x:=if_neg hx
   have e2:(if x=name then some v else g x)=g x:=if_neg hx
   rw[e1]
   show (dN t x=none∧(if x=name then some v else g x)=none)∨∃p u,dN t x=some p∧(if x=name then some v else g x)=some u∧dS w2 S p.2 u
   rw[e2]
   rcases hall x with h3|⟨p,u,h3,h4,h5⟩
   ·exact Or.inl h3
   ·exact Or.inr ⟨p,u,h3,h4,h5.keep (hb.kept hS)⟩
theorem Sc.set(h:Sc P ty w S b kb db wb cb zb n zn t ns nc nl oth chn W C Z)(hb:But (fun x=>x=b) w w1){ns' nc' nl':Nat}{oth' chn':Bool}
  (hr:w1.heap[b]?=some (.cells #[.map (some kb),.map (some db),.int .i64 ns',.int .i64 nc',.int .i64 nl',.bool oth',.bool chn',.map (some wb),.map (some cb),.map (some zb)] ty (0,0))):
  Sc P ty w1 S b kb db wb cb zb n zn t ns' nc' nl' oth' chn' W C Z:=by
 have hne:=h.ne
 have hS:∀g,S g→¬g=b:=fun g hg=>(h.out g hg).1
 exact⟨hr,h.kinds.but hb (by omega),h.decls.but hb (by omega) hS,h.wit.but hb (by omega),h.con.but hb (by omega),h.byz.but hb (by omega),h.nz,h.ne,h.out,⟨bZ h.lt.1 hb.size,fun g hg=>bZ (h.lt.2 g hg) hb.size⟩⟩
end
end
section
section
variable {P:Program} {ops:Array Oper} {Q:Exit→Act→World→Prop} {md:Region.Mode} {S S':World→Prop} {Z:List Nat} {i:Nat} {l:List Nat} {oi:Oper} {fuel:Nat} {listed:Array Bool} {a:Act} {w:World}
def ja(Z:List Nat)(listed:Array Bool):Bool:=Z.all fun z=>!listed.getD z false
theorem yY{j:Nat}(h:ja Z listed=true)(hj:Z.contains j=false):ja Z (listed.setIfInBounds j true)=true:=by
 refine List.all_eq_true.2 fun z hz=>?_
 have hzj:j≠z:=fun e=>by rw[e] at hj;simp[hz] at hj
 rw[getD_set_ne false hzj]
 exact List.all_eq_true.1 h z hz
theorem wo(h:ja Z (listed.setIfInBounds i true)=true):ja Z listed=true:=by
 refine List.all_eq_true.2 fun z hz=>?_
 have h1:=List.all_eq_true.1 h z hz
 by_cases e:i=z
 ·subst e
  rcases Nat.lt_or_ge i listed.size with h'|h'
  ·simp[h'] at h1
  ·simp[Array.getElem?_eq_none h']
 ·rw[getD_set_ne false e] at h1;exact h1
theorem Im(h:ja Z listed=true)(hi:Z.contains i=false):ja Z (listed.setIfInBounds i true)=true:=yY h hi
def iD(P:Program)(md:Region.Mode)(ops:Array Oper)(Q:Exit→Act→World→Prop)(S:World→Prop)(Z:List Nat):Nat→Array Bool→Act→World→Prop
 |0,listed,a,w=>Region.ready md ops listed=[]∧Q .normal a w
 |fuel+1,listed,a,w=>(Region.ready md ops listed=[]→Q .normal a w)∧
  ∀i∈Region.ready md ops listed,wpOp P ops Q i (fun a' w'=>(ja Z (listed.setIfInBounds i true)=true→S w')∧iD P md ops Q S Z fuel (listed.setIfInBounds i true) a' w') a w
theorem yD:∀(fuel:Nat)(listed:Array Bool)(a:Act)(w:World),iD P md ops Q S Z fuel listed a w→wpAny P md ops Q fuel listed a w
 |0,_,_,_,h=>h
 |fuel+1,_,_,_,h=>⟨h.1,fun i hi=>wpOp_mono (fun a' w' h'=>yD fuel _ a' w' h'.2) (h.2 i hi)⟩
theorem nE{v:Value}(N:Bool)(hi:ops[i]?=some oi)(hsel:∀(j:Nat)(o:Oper) cs b,ops[j]?=some o→o.op≠.select cs b)(hQ:∀c a w,Q (.panic c) (a.put oi.dst v) w→Q (.panic c) a w)
  (hiZ:Z.contains i=false) (hZ:N=true→∀z oz,ops[z]?=some oz→Z.contains z=true→∃e∈oz.after,Region.binds md e=true∧e.on=i):∀(fuel:Nat)(listed:Array Bool)(a:Act)(w:World),
   (∀j oj,ops[j]?=some oj→j≠i→listed.getD j true=false→(∀e∈oj.after,Region.binds md e=true→e.on≠i)→oi.apart ops oj=true)→(N=true→ja Z listed=true)→
   i∈Region.ready md ops listed→YieldsIf P ops (fun w=>N=true→S w) oi v a→(ja Z listed=true→S w)→iD P md ops Q S Z fuel (listed.setIfInBounds i true) (a.put oi.dst v) w→iD P md ops Q S Z (fuel+1) listed a w:=by
 intro fuel
 induction fuel with
 |zero=>
  intro listed a w _ hN hr hy hS H
  refine⟨fun h=>(by rw[h] at hr;cases hr),fun j hj=>?_⟩
  by_cases hji:j=i
  ·subst hji;exact hy.wpOp hi (fun h=>hS (hN h)) ⟨fun h=>hS (wo h),H⟩
  ·have:=ready_mono hj hji
   rw[H.1] at this
   cases this
 |succ fuel ih=>
  intro listed a w hfree hN hr hy hS H
  refine⟨fun h=>(by rw[h] at hr;cases hr),fun j hj=>?_⟩
  by_cases hji:j=i
  ·subst hji;exact hy.wpOp hi (fun h=>hS (hN h)) ⟨fun h=>hS (wo h),H⟩
  have h1:=H.2 j (ready_mono hj hji)
  obtain⟨hjun,oj,hoj,hall⟩:=mem_ready.1 hj
  have hnot:∀e∈oj.after,Region.binds md e=true→e.on≠i:=fun e he hb heq=>by
   have h1:=hall e he hb
   have h0:=(mem_ready.1 hr).1
   rw[heq] at h1
   rcases Nat.lt_or_ge i listed.size with h'|h'
   ·simp[h'] at h0 h1;rw[h0] at h1;cases h1
   ·simp[Array.getElem?_eq_none h'] at h1
  have hN':N=true→ja Z (listed.setIfInBounds j true)=true:=fun hn=>yY (hN hn) (by
   cases e:Z.contains j with
   |false=>rfl
   |true=>obtain⟨e,h5,h6,h7⟩:=hZ hn j oj hoj e;exact absurd h7 (hnot e h5 h6))
  have h2:=wpOp_putIf hoj (hfree j oj hoj hji hjun hnot) (fun cs b=>hsel i oi cs b hi) (fun cs b=>hsel j oj cs b hoj) hQ hy h1
  have hfree':∀k ok,ops[k]?=some ok→k≠i→(listed.setIfInBounds j true).getD k true=false→(∀e∈ok.after,Region.binds md e=true→e.on≠i)→oi.apart ops ok=true:=fun k ok hk hki hun hno=>by
   refine hfree k ok hk hki ?_ hno
   by_cases hjk:j=k
   ·subst hjk;exact hjun
   ·rw[getD_set_ne true hjk] at hun;exact hun
  have hS':∀w',(ja Z ((listed.setIfInBounds i true).setIfInBounds j true)=true→S w')→ja Z (listed.setIfInBounds j true)=true→S w':=fun w' h h9=>h (by rw[Array.setIfInBounds_comm _ _ (Ne.symm hji)];exact Im h9 hiZ)
  refine wpOp_mono (fun a' w' h3=>⟨hS' w' h3.2.1,ih (listed.setIfInBounds j true) a' w' hfree' hN' (ready_mono hr (Ne.symm hji)) h3.1 (hS' w' h3.2.1) ?_⟩) h2
  rw[Array.setIfInBounds_comm _ _ hji]
  exact h3.2.2
def sO(md:Region.Mode)(ops:Array Oper)(listed:Array Bool)(i:Nat):Bool:=Region.noSelect ops&&Region.free md ops listed i&&(Region.ready md ops listed).contains i
def waitAll(md:Region.Mode)(ops:Array Oper)(Z:List Nat)(i:Nat):Bool:=Z.all fun z=>match ops[z]? with|some oz=>oz.after.any (fun e=>Region.binds md e&&e.on==i)|none=>true
theorem BK(h:waitAll md ops Z i=true)(z:Nat)(oz:Oper)(hz:ops[z]?=some oz)(hc:Z.contains z=true):∃e∈oz.after,Region.binds md e=true∧e.on=i:=by
 have:=List.all_eq_true.1 h z (by simpa using hc)
 rw[hz] at this
 obtain⟨e,h1,h2⟩:=Array.any_eq_true'.1 this
 rw[Bool.and_eq_true,beq_iff_eq] at h2
 exact⟨e,h1,h2.1,h2.2⟩
structure av(l:List Nat)(p:Prop):Prop where
 out:p
theorem av.start{id:Nat}(S:World→Prop)(Z l:List Nat)(hm:P.follows .mixedOrders=true)(hS:S w.drew)(h:S w.drew→av l (iD P .any ops Q S Z ops.size (Array.replicate ops.size false) a w.drew)):(Code.region id ops true).wp P Q a w:=
 wp_region_any hm (yD _ _ _ _ (h hS).out)
theorem av.skip(hi:ops[i]?=some oi)(hc:(sO md ops listed i&&!Z.contains i)=true)(hw:Region.wanted oi (yielded ops a.tmps)=false)
  (hQ:∀c a w,Q (.panic c) (a.put oi.dst undef) w→Q (.panic c) a w) (hS:S w) (h:av l (iD P md ops Q S Z fuel (listed.setIfInBounds i true) (a.put oi.dst undef) w)):av (i::l) (iD P md ops Q S Z (fuel+1) listed a w):=by
 simp only[sO,Bool.and_eq_true,Bool.not_eq_true'] at hc
 exact⟨nE false hi (Region.noSelect_spec hc.1.1.1) hQ hc.2 (fun h=>by cases h) fuel listed a w (Region.free_spec hi hc.1.1.2) (fun h=>by cases h) (by simpa using hc.1.2) (.inr ⟨hw,rfl⟩) (fun _=>hS) h.out⟩
theorem av.take{v:Value}(hi:ops[i]?=some oi)(hc:(sO md ops listed i&&!Z.contains i&&(waitAll md ops Z i&&ja Z listed))=true)(hw:Region.wanted oi (yielded ops a.tmps)=true)
  (hQ:∀c a w,Q (.panic c) (a.put oi.dst v) w→Q (.panic c) a w) (hS:S w) (hy:∀w,S w→(execOp a.eval oi).run P w=.ok (.value v) w) (h:av l (iD P md ops Q S Z fuel (listed.setIfInBounds i true) (a.put oi.dst v) w)):av (i::l) (iD P md ops Q S Z (fuel+1) listed a w):=by
 simp only[sO,Bool.and_eq_true,Bool.not_eq_true'] at hc
 exact⟨nE true hi (Region.noSelect_spec hc.1.1.1.1) hQ hc.1.2 (fun _=>BK hc.2.1) fuel listed a w (Region.free_spec hi hc.1.1.1.2) (fun _=>hc.2.2) (by simpa using hc.1.1.2) (.inl ⟨hw,fun w h=>hy w (h rfl)⟩) (fun _=>hS) h.out⟩
theorem av.pure{v:Value}(hi:ops[i]?=some oi)(hc:(sO md ops listed i&&!Z.contains i)=true)(hw:Region.wanted oi (yielded ops a.tmps)=true)
  (hQ:∀c a w,Q (.panic c) (a.put oi.dst v) w→Q (.panic c) a w) (hS:ja Z listed=true→S w) (hy:∀w,(execOp a.eval oi).run P w=.ok (.value v) w) (h:av l (iD P md ops Q S Z fuel (listed.setIfInBounds i true) (a.put oi.dst v) w)):av (i::l) (iD P md ops Q S Z (fuel+1) listed a w):=by
 simp only[sO,Bool.and_eq_true,Bool.not_eq_true'] at hc
 exact⟨nE false hi (Region.noSelect_spec hc.1.1.1) hQ hc.2 (fun h=>by cases h) fuel listed a w (Region.free_spec hi hc.1.1.2) (fun h=>by cases h) (by simpa using hc.1.2) (.inl ⟨hw,fun w _=>hy w⟩) hS h.out⟩
theorem su{j:Nat}{oj:Oper}(hj:ops[j]?=some oj)(hw:Region.wanted oj (yielded ops a.tmps)=true)
  (h:∀K:Act→World→Prop,Shut (∀a w,(ja Z (listed.setIfInBounds j true)=true→S w)→av l (iD P md ops Q S Z fuel (listed.setIfInBounds j true) a w)→K a w)→Oper.wp P oj a w K Q):wpOp P ops Q j (fun a' w'=>(ja Z (listed.setIfInBounds j true)=true→S w')∧iD P md ops Q S Z fuel (listed.setIfInBounds j true) a' w') a w:=
 wpOp_step hj fun K' hK=>by rw[if_pos hw];exact h K' (fun a w hs hl=>hK a w ⟨hs,hl.out⟩)
theorem av.one(i:Nat){oi:Oper}(hi:ops[i]?=some oi)(hr:Region.ready md ops listed=[i])(hw:Region.wanted oi (yielded ops a.tmps)=true)
  (h:∀K:Act→World→Prop,Shut (∀a w,(ja Z (listed.setIfInBounds i true)=true→S w)→av l (iD P md ops Q S Z fuel (listed.setIfInBounds i true) a w)→K a w)→Oper.wp P oi a w K Q):av l (iD P md ops Q S Z (fuel+1) listed a w):=
 ⟨⟨fun h0=>(by rw[h0] at hr;cases hr),fun j hj=>by
  rw[hr,List.mem_singleton] at hj
  subst hj
  exact su hi hw h⟩⟩
theorem av.call(hi:ops[i]?=some oi)(hr:Region.ready md ops listed=[i])(hw:Region.wanted oi (yielded ops a.tmps)=true)
  (h:∀K:Act→World→Prop,Shut (∀a w,(ja Z (listed.setIfInBounds i true)=true→S w)→av l (iD P md ops Q S Z fuel (listed.setIfInBounds i true) a w)→K a w)→Oper.wp P oi a w K Q):av (i::l) (iD P md ops Q S Z (fuel+1) listed a w):=
 ⟨(av.one i hi hr hw h).out⟩
theorem av.two(i j:Nat){oi oj:Oper}(hi:ops[i]?=some oi)(hj:ops[j]?=some oj)(hr:Region.ready md ops listed=[i,j])(hwi:Region.wanted oi (yielded ops a.tmps)=true)(hwj:Region.wanted oj (yielded ops a.tmps)=true)
  (h1:∀K:Act→World→Prop,Shut (∀a w,(ja Z (listed.setIfInBounds i true)=true→S w)→av l (iD P md ops Q S Z fuel (listed.setIfInBounds i true) a w)→K a w)→Oper.wp P oi a w K Q)
  (h2:∀K:Act→World→Prop,Shut (∀a w,(ja Z (listed.setIfInBounds j true)=true→S w)→av l (iD P md ops Q S Z fuel (listed.setIfInBounds j true) a w)→K a w)→Oper.wp P oj a w K Q):av l (iD P md ops Q S Z (fuel+1) listed a w):=
 ⟨⟨fun h0=>(by rw[h0] at hr;cases hr),fun k hk=>by
  rw[hr,List.mem_cons,List.mem_singleton] at hk
  rcases hk with rfl|rfl
  ·exact su hi hwi h1
  ·exact su hj hwj h2⟩⟩
theorem av.done(hr:Region.ready md ops listed=[])(h:Q .normal a w):av l (iD P md ops Q S Z fuel listed a w):=⟨match fuel with
 |0=>⟨hr,h⟩
 |_+1=>⟨fun _=>h,by rw[hr];simp⟩⟩
end
end
end Go.Proofs.YtmohibkomlhlaaaGreatDoor
