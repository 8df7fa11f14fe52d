/- The contracts of the program's tests of names, faults and zero terms. -/
import Derived.Test.YtmohibkomlhlaaaGreatDoorPkVala
set_option maxRecDepth 100000
set_option maxHeartbeats 20000000
namespace Go.Proofs.YtmohibkomlhlaaaGreatDoor
open Go.RowKit
open _root_.Go.Proofs.Tryz
theorem row_step{w W W':World}{r:Array Value}{t:TypeId}(hb:Below w.heap.size w W)(hr:Hid (W.heap[w.heap.size]?=some (.cells r t (0,0))))(h:Below W.heap.size W W'):Below w.heap.size w W'∧Hid (W'.heap[w.heap.size]?=some (.cells r t (0,0))):=by
 have hs:w.heap.size<W.heap.size:=(Array.getElem?_eq_some_iff.1 hr.out).1
 exact⟨hb.trans (h.mono (dF hs)),jI ((h.block _ hs).trans hr.out)⟩
theorem alloc_row{w W:World}{o:Obj}(h:W=w.alloc o):W.heap[w.heap.size]?=some o:=by rw[h];exact jR w o
theorem vL{s:ByteArray}(h:s.size=0):s=⟨#[]⟩:=by
 have:s.data.toList=[]:=List.length_eq_zero_iff.1 (by simpa using h)
 rw[←gN s,this];rfl
theorem name_test(w:World)(l:List ByteArray):Tests (fun _ x v=>v=.string x) w 198 l (fun n=>!dP n):=by
 rintro x-v W rfl -
 have HS:=jI (jA x W)
 go_enter func198,ntmps198
 go_wp2_with fail
 refine HS.out.mono ?_
 rintro e w' ⟨rfl,rfl⟩
 go_wp2
 go_ret
 exact⟨rfl,jQ _ _⟩
theorem lH(l:List ByteArray)(S:Nat→Prop)(A:Option Addr)(c:Nat)(w:World)(hl:ak w S 1 A l.length (l.map Value.string))(hS:∀g,S g→g<w.heap.size)(hlim:l.length≤1000000000000):
  Calls prog 155 #[.slice A l.length c] w fun e w'=>e=.returned (.bool (dQ l))∧Below w.heap.size w w':=by
 have HC:=jI (DN l S A c w hl hS hlim 198 (enters_of func198 (by kernel_rfl) rfl) _ (name_test w l))
 have E:=jI (show dQ l=!l.any (fun n=>!dP n) by unfold dQ;rw[List.not_any_eq_all_not];simp)
 clear hl
 go_enter func155,ntmps155
 go_wp2_with fail
 refine HC.out.mono ?_
 rintro e w' ⟨rfl,hb⟩
 go_wp2
 go_ret
 exact⟨congrArg (fun b=>Ending.returned (.bool b)) E.out.symm,hb⟩
theorem lu(a b:Int):(a==b)=false∨a=b:=by cases h:a==b<;>simp_all
theorem FQ(b:Bool):b=true∨b=false:=by cases b<;>simp
theorem beq_dec(a b:Int):(a==b)=decide (a=b):=by cases h:a==b<;>simp_all
theorem GR:(⟨#[]⟩:ByteArray)=ByteArray.empty:=rfl
theorem BQ(s:ByteArray):s=⟨#[]⟩∨(¬s.size=0∧¬s.toList=[]∧s.toList.isEmpty=false):=by
 by_cases h:s.size=0
 ·exact .inl (vL h)
 ·exact .inr ⟨h,gP (by omega),dK (by omega)⟩
theorem Ev(s:ByteArray):decide (s.size=0)=s.toList.isEmpty:=by
 rcases BQ s with rfl|⟨h,_,e⟩
 ·simp[ByteArray.toList_eq,GR]
 ·simp[h,e]
theorem Jf(k:Int)(w:World):Calls prog 154 #[.int .i64 k] w fun e w'=>e=.returned (.int .i64 (aT k))∧w=w':=by
 rcases lu k 1 with q1|rfl
 rcases lu k 2 with q2|rfl
 rcases lu k 3 with q3|rfl
 rcases lu k 4 with q4|rfl
 rcases lu k 5 with q5|rfl
 rcases lu k 7 with q7|rfl
 rcases lu k 6 with q6|rfl
 ·have E:=jI (show aT k=0 by simp at *;simp[aT, *])
  go_enter func154,ntmps154
  go_wp2
  go_ret
  exact⟨by rw[E.out];rfl,rfl⟩
 all_goals
  go_enter func154,ntmps154
  go_wp2
  go_ret
  exact⟨rfl,rfl⟩
theorem zQ(t:Tm)(v:Value)(w:World)(S:Nat→Prop)(ht:dX w S t v)(hsz:ax t≤1000000000000):
  Calls prog 158 #[v] w fun e w'=>e=.returned (.bool (blank t))∧Below w.heap.size w w':=by
 have hkl:=lJ t
 cases ht with
 |mk op nm need ws kids wA kA cw kc vs hw hwc hk hkc hl h=>
  have hkl:kids.length+ws.length<ax (.mk op nm need ws kids):=hkl
  have hbA:∀o,Below w.heap.size w (w.alloc o):=fun o=>(jQ _ _).alloc (aP _) o
  have HB:=jI (fun W=>rW op need nm wA kA ws.length cw kids.length kc W (by omega) (by omega))
  have E:=jI (show blank (.mk op nm need ws kids)=(decide (op=0)&&decide (nm.size=0)&&(decide (need=0)&&decide (ws.length+kids.length=0))) from rfl)
  generalize (decide (need=0)&&decide (ws.length+kids.length=0))=bq at HB E
  clear hw hk hl h
  rcases lu op 0 with q0|rfl
  case' inr=>rcases BQ nm with rfl|⟨hz,_,_⟩
  all_goals
   go_enter func158,ntmps158
   go_wp2_with fail
   try
    refine (HB.out _).mono ?_
    rintro e w' ⟨rfl,hb2⟩
    go_wp2
   go_ret
   refine⟨by rw[E.out];first|rfl|simp_all,?_⟩
   first|exact hbA _|exact (hbA _).trans (hb2.mono (by simp))
theorem x9(f:Ft)(v:Value)(w:World)(S:Nat→Prop)(hf:ng w S f v)(hS:∀g,S g→g<w.heap.size)(hlim:f.aI.length+f.aB.length≤1000000000000):
  Calls prog 157 #[v] w fun e w'=>e=.returned (.bool (pG f))∧Below w.heap.size w w':=by
 obtain⟨op,nm,by_,cr,bl,cl⟩:=f
 obtain⟨bA,bc,cA,cc,rfl,hsb,hlb,hsc,hlc⟩:=hf
 simp only at hsb hlb hsc hlc hlim
 have hbA:∀o,Below w.heap.size w (w.alloc o):=fun o=>(jQ _ _).alloc (aP _) o
 have HN:=jI (fun W=>jA nm W)
 have HS1:=jI (fun W=>qM by_ W)
 have HS2:=jI (fun W=>qM cr W)
 have HV1:=jI (fun o=>show Calls prog 155 #[.slice bA bl.length bc] (w.alloc o) fun e W1=>e=.returned (.bool (dQ bl))∧Below (w.heap.size+1) (w.alloc o) W1 from (lH bl S bA bc (w.alloc o) (hsb.keep (aA (hbA o))) (fun g hg=>by have:=hS g hg;simp;omega) (by omega)).mono fun e W1 h=>⟨h.1,by simpa using h.2⟩)
 have HV2:=jI (fun o (W1:World) (hb1:Below (w.heap.size+1) (w.alloc o) W1)=>lH cl S cA cc W1 ((hsc.keep (aA (hbA _))).keep (aj (w:=w.alloc _) (by simpa using hb1) (fun g hg=>by have:=hS g hg;simp;omega))) (fun g hg=>by have:=hS g hg;have:=hb1.size;simp at this;omega) (by omega))
 have BX:=jI (fun(r:Array Value) T (W1:World) (hb1:Below (w.heap.size+1) (w.alloc (.cells r T)) W1) i v hv=>show W1.cell? ⟨w.heap.size,i,none⟩=some v from (j5 W1 _ i _ _ _ ((hb1.block _ (by omega)).trans (jR w _))).trans hv)
 have D:decide ((0:Int)<wrap64 ((bl.length:Int)+(cl.length:Int)))=decide (0<bl.length+cl.length):=by
  apply decide_eq_decide.2;unfold wrap64;omega
 have E:=jI (show pG ⟨op,nm,by_,cr,bl,cl⟩=(bif op==1 then decide (nm.size=0)&&!(by_ != 0 || cr != 0)&&!decide (0<bl.length+cl.length)
  else bif op==2 then decide (nm.size=0)&&small by_&&small cr&&!decide (0<bl.length+cl.length)
  else bif op==3 then decide (nm.size=0)&&!(by_ != 0 || cr != 0)&&decide (0<bl.length+cl.length)&&dQ bl&&dQ cl
  else bif op==4 || op==5 || op==6 then dP nm&&!(by_ != 0 || cr != 0)&&!decide (0<bl.length+cl.length) else false) by
  unfold pG lN jc
  rcases lu op 1 with q1|rfl
  rcases lu op 2 with q2|rfl
  rcases lu op 3 with q3|rfl
  rcases lu op 4 with q4|rfl
  rcases lu op 5 with q5|rfl
  rcases lu op 6 with q6|rfl
  all_goals simp only[beq_dec] at *<;>simp[bne,beq_dec, *])
 have N:(by_ != 0)=true∨(by_ != 0)=false∧(cr != 0)=true∨(by_ != 0)=false∧(cr != 0)=false:=by cases by_ != 0<;>cases cr != 0<;>simp
 have C:op=1∨(op==1)=false∧(op=2∨(op==2)=false∧(op=3∨(op==3)=false∧(op=4∨(op==4)=false∧(op=5∨(op==5)=false∧(op=6∨(op==6)=false))))):=by simp;omega
 generalize decide (0<bl.length+cl.length)=dn at E D
 generalize small by_=s1 at E HS1
 generalize small cr=s2 at E HS2
 generalize dQ bl=v1 at E HV1
 generalize dQ cl=v2 at E HV2
 generalize dP nm=on at E HN
 clear hsb hlb hsc hlc hlim hS
 rcases C with rfl|⟨q1,rfl|⟨q2,rfl|⟨q3,rfl|⟨q4,rfl|⟨q5,rfl|q6⟩⟩⟩⟩⟩
 case' inr.inr.inl=>rcases BQ nm with rfl|⟨hz,_,_⟩<;>cases v1<;>cases dn
 case' inr.inl=>rcases BQ nm with rfl|⟨hz,_,_⟩<;>cases s1<;>cases s2
 case' inr.inr.inr.inl|inr.inr.inr.inr.inl|inr.inr.inr.inr.inr.inl=>cases on
 case' inl=>rcases BQ nm with rfl|⟨hz,_,_⟩
 all_goals rcases N with n1|⟨n1,n2⟩|⟨n1,n2⟩
 all_goals
  go_enter func157,ntmps157
  go_wp2_with (first
   |((with_reducible refine (HN.out _).mono ?_);rintro e w' ⟨rfl,rfl⟩)
   |((with_reducible refine (HS1.out _).mono ?_);rintro e w' ⟨rfl,rfl⟩)
   |((with_reducible refine (HS2.out _).mono ?_);rintro e w' ⟨rfl,rfl⟩)
   |((with_reducible refine (HV1.out _).mono ?_);rintro e W1 ⟨rfl,hb1⟩;have c5:=BX.out _ _ W1 hb1 5 _ rfl;have HV2:=HV2.out _ W1 hb1)
   |((with_reducible refine HV2.mono ?_);rintro e W2 ⟨rfl,hb2⟩))
  go_ret
  refine⟨by rw[E.out];simp[*,GR],?_⟩
  first|exact hbA _|exact (hbA _).trans (hb1.mono (by simp))|exact ((hbA _).trans (hb1.mono (by simp))).trans (hb2.mono (by have:=hb1.size;simp at this;omega))
end Go.Proofs.YtmohibkomlhlaaaGreatDoor
