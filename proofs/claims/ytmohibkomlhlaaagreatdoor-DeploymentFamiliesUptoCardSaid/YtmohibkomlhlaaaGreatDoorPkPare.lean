/- The contracts of newParser and Term; and what reading declarations leaves behind each. The contract of the program's function Term. The contract of the program's function Parse. -/
import Derived.Test.YtmohibkomlhlaaaGreatDoorPkLex
import Derived.Test.YtmohibkomlhlaaaGreatDoorPkParb
namespace Go.Proofs.YtmohibkomlhlaaaGreatDoor
open Go.RowKit
def psL(l:List UInt8):cB:=if 65536<l.length then [] else if (lex l 1 []).2.2≠0 then [] else (lex l 1 []).1
def psE(l:List UInt8):Nat:=if 65536<l.length then 3 else if (lex l 1 []).2.2≠0 then (lex l 1 []).2.2 else if 3000<(lex l 1 []).1.length then 3 else 0
def Ic(l:List UInt8):Nat→Nat:=if 65536<l.length then fun _=>0 else if (lex l 1 []).2.2≠0 then fun _=>(lex l 1 []).2.1 else if 3000<(lex l 1 []).1.length then fun _=>0 else lS (lex l 1 []).1
def tC(l:List UInt8)(w:World)(e:Ending)(w':World):Prop:=
 ∃b A n c,e=.returned (.pointer (some ⟨b,0,none⟩))∧w.heap.size≤b∧PSt b A n c (psL l) (Ic l) ⟨0,psE l⟩ w'∧Below w.heap.size w w'
theorem tZ{L:cB}{x:Int}{f:Nat}{acc:List Dc}{s:St}(h:jW L s=false):jZ L x f acc s=(acc,s):=by
 cases f with
 |zero=>rfl
 |succ f=>
  rw[jZ,if_neg]
  unfold jW at h
  intro k
  rw[k.1] at h
  simp at h
  omega
theorem Dx{L:cB}{x:Int}{f:Nat}{acc:List Dc}{s:St}(h:jW L s=true):jZ L x (f+1) acc s=jZ L x f (acc++[(uq L x s).1]) (uq L x s).2:=by
 rw[jZ,if_pos (qg h)]
def vW(x:Int)(L:cB)(ln:Nat→Nat)(s0:St):List Dc × Nat × Nat:=
 let p:=jZ L x L.length [] s0
 if p.2.err≠0 then ([],ln p.2.pos,p.2.err) else (p.1,0,0)
theorem qd{x:Int}{L:cB}{ln:Nat→Nat}{s0:St}(h:s0.err≠0):vW x L ln s0=([],ln s0.pos,s0.err):=by
 unfold vW
 rw[tZ (by unfold jW;simp[h])]
 simp only
 rw[if_pos h]
theorem Ii(x:Int)(l:List UInt8):Aw x l=vW x (psL l) (Ic l) ⟨0,psE l⟩:=by
 unfold Aw
 by_cases h1:65536<l.length
 ·have e:psE l=3:=by unfold psE;rw[if_pos h1]
  rw[qd (by rw[e];simp),e]
  simp only[if_pos h1]
  unfold Ic;rw[if_pos h1]
 ·by_cases h2:(lex l 1 []).2.2≠0
  ·have e:psE l=(lex l 1 []).2.2:=by unfold psE;rw[if_neg h1,if_pos h2]
   rw[qd (by rw[e];exact h2),e]
   simp only[if_neg h1,if_pos h2]
   unfold Ic;rw[if_neg h1,if_pos h2]
  ·by_cases h3:3000<(lex l 1 []).1.length
   ·have e:psE l=3:=by unfold psE;rw[if_neg h1,if_neg h2,if_pos h3]
    rw[qd (by rw[e];simp),e]
    simp only[if_neg h1,if_neg h2,if_pos h3]
    unfold Ic;rw[if_neg h1,if_neg h2,if_pos h3]
   ·have e:psE l=0:=by unfold psE;rw[if_neg h1,if_neg h2,if_neg h3]
    have eL:psL l=(lex l 1 []).1:=by unfold psL;rw[if_neg h1,if_neg h2]
    have eN:Ic l=lS (lex l 1 []).1:=by unfold Ic;rw[if_neg h1,if_neg h2,if_neg h3]
    rw[e,eL,eN]
    simp only[if_neg h1,if_neg h2,if_neg h3]
    rfl
def PfPost(r:List Dc × Nat × Nat)(w:World)(e:Ending)(w':World):Prop:=
 ∃A c,e=.returned (.tuple #[.slice A r.1.length c,.int .i64 r.2.1,.int .i64 r.2.2])∧r.1.length≤c∧aO (dS w' (w.heap.size≤·)) w' (w.heap.size≤·) 22 A r.1∧Below w.heap.size w w'
theorem qo{w:World}{S:Nat→Prop}{d:Dc}{v:Value}(h:dS w S d v):∃(nA:Option Addr)(nc:Nat)(fA:Option Addr)(fc:Nat)(o1:Int)(m1:ByteArray)(d1:Int)(wA1:Option Addr)(wn1 wc1:Nat)(kA1:Option Addr)(kn1 kc1:Nat)(o2:Int)(m2:ByteArray)(d2:Int)(wA2:Option Addr)(wn2 wc2:Nat)(kA2:Option Addr)(kn2 kc2:Nat)(o3:Int)(m3:ByteArray)(d3:Int)(wA3:Option Addr)(wn3 wc3:Nat)(kA3:Option Addr)(kn3 kc3:Nat),
  v=.agg #[.int .i64 d.kind,.int .i64 d.line,.string d.name,.slice nA d.names.length nc,.slice fA d.faults.length fc,.int .i64 o1,.string m1,.int .i64 d1,.slice wA1 wn1 wc1,.slice kA1 kn1 kc1,.string d.proto,.int .i64 o2,.string m2,.int .i64 d2,.slice wA2 wn2 wc2,.slice kA2 kn2 kc2,.int .i64 o3,.string m3,.int .i64 d3,.slice wA3 wn3 wc3,.slice kA3 kn3 kc3,.string d.use]:=by
 obtain⟨nA,nc,fA,fc,vt,vr,vw,e,-,-,-,-,h5,h6,h7⟩:=h
 obtain⟨o1,m1,d1,wA1,wn1,wc1,kA1,kn1,kc1,rfl⟩:=h5.form
 obtain⟨o2,m2,d2,wA2,wn2,wc2,kA2,kn2,kc2,rfl⟩:=h6.form
 obtain⟨o3,m3,d3,wA3,wn3,wc3,kA3,kn3,kc3,rfl⟩:=h7.form
 exact⟨nA,nc,fA,fc,o1,m1,d1,wA1,wn1,wc1,kA1,kn1,kc1,o2,m2,d2,wA2,wn2,wc2,kA2,kn2,kc2,o3,m3,d3,wA3,wn3,wc3,kA3,kn3,kc3,by rw[e];simp[Value.cells]⟩
end Go.Proofs.YtmohibkomlhlaaaGreatDoor
