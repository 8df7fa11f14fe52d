/- The contracts of math/bits.TrailingZeros16, of the bg Has, and of both functions Members: the members of a set in ascending order, in memory of the call's own. Condition: the table of math/bits lies in the world. The subsets of a set with so many members, in order: plain functions. Sets of twelve servers. The contracts of set.choose, Subsets and Choose: iterators over the subsets of a set, in order. Sets of twelve servers. Condition: the table of math/bits lies in the world. The contracts of set and group of a Dw world: sets of named servers. Twelve servers at most. The contract of Count, at sets of twelve servers. The contracts of the iterators Subsets and Choose. Sets of twelve servers. Condition: the table of math/bits lies in the world. The contracts of Accepts, Support, and of what Subsets and Choose return. Sets of sixteen bits. -/
import Derived.Laws.BitsAllLaws
import Derived.Test.YtmohibkomlhlaaaGreatDoorPda
import Derived.RangeFuncNested
import Derived.RangeFuncBound
import Derived.RangeFuncCalls
import Derived.RangeFuncLeaves
import Derived.OwnWalkIn
import Derived.TacticsInMore
import Derived.LoopNIn
import Derived.LoopIn
set_option maxRecDepth 100000
set_option maxHeartbeats 4000000
namespace Go.Proofs.YtmohibkomlhlaaaGreatDoor
section
open Go.RowKit
open _root_.Go.Proofs.Tryz
def tzTab:List Nat:=[0,1,28,2,29,14,24,3,30,22,20,15,25,17,4,8,31,27,13,23,21,19,16,7,26,12,18,6,11,5,10,9]
def Tz(w:World):Prop:=2<w.heap.size∧∀i:Nat,i<32→w.cell? ⟨2,i,none⟩=some (.int .u8 (tzTab.getD i 0:Nat))
theorem Tz.below{w w':World}{B:Nat}(h:Tz w)(hb:Below B w w')(hB:w.heap.size≤B):Tz w':=
 ⟨bZ h.1 hb.size,fun i hi=>(hb.cell (p:=⟨2,i,none⟩) (bZ h.1 hB)).trans (h.2 i hi)⟩
theorem tz_at(x:Int)(k:Nat)(hk:k<16)(w:World)(hx:(x==0)=false)(h1:bits .and .u16 x (IntKind.u16.wrap (-x))=2^k)(ht:Tz w):
  Calls prog 222 #[.int .u16 x] w fun e w'=>e=.returned (.int .i64 k)∧w=w':=by
 have c0:w.cell? ⟨2,0,none⟩=some (.int .u8 0):=ht.2 0 (by decide)
 have c1:w.cell? ⟨2,1,none⟩=some (.int .u8 1):=ht.2 1 (by decide)
 have c2:w.cell? ⟨2,3,none⟩=some (.int .u8 2):=ht.2 3 (by decide)
 have c3:w.cell? ⟨2,7,none⟩=some (.int .u8 3):=ht.2 7 (by decide)
 have c4:w.cell? ⟨2,14,none⟩=some (.int .u8 4):=ht.2 14 (by decide)
 have c5:w.cell? ⟨2,29,none⟩=some (.int .u8 5):=ht.2 29 (by decide)
 have c6:w.cell? ⟨2,27,none⟩=some (.int .u8 6):=ht.2 27 (by decide)
 have c7:w.cell? ⟨2,23,none⟩=some (.int .u8 7):=ht.2 23 (by decide)
 have c8:w.cell? ⟨2,15,none⟩=some (.int .u8 8):=ht.2 15 (by decide)
 have c9:w.cell? ⟨2,31,none⟩=some (.int .u8 9):=ht.2 31 (by decide)
 have c10:w.cell? ⟨2,30,none⟩=some (.int .u8 10):=ht.2 30 (by decide)
 have c11:w.cell? ⟨2,28,none⟩=some (.int .u8 11):=ht.2 28 (by decide)
 have c12:w.cell? ⟨2,25,none⟩=some (.int .u8 12):=ht.2 25 (by decide)
 have c13:w.cell? ⟨2,18,none⟩=some (.int .u8 13):=ht.2 18 (by decide)
 have c14:w.cell? ⟨2,5,none⟩=some (.int .u8 14):=ht.2 5 (by decide)
 have c15:w.cell? ⟨2,11,none⟩=some (.int .u8 15):=ht.2 11 (by decide)
 clear ht
 have hks:k=0∨k=1∨k=2∨k=3∨k=4∨k=5∨k=6∨k=7∨k=8∨k=9∨k=10∨k=11∨k=12∨k=13∨k=14∨k=15:=by omega
 rcases hks with rfl|rfl|rfl|rfl|rfl|rfl|rfl|rfl|rfl|rfl|rfl|rfl|rfl|rfl|rfl|rfl
 all_goals
  go_enter func222,ntmps222
  go_wp2
  go_ret
  exact⟨rfl,rfl⟩
theorem tz_any(s:Nat)(w:World)(h:s<65536)(h0:s≠0)(ht:Tz w):
  Calls prog 222 #[.int .u16 s] w fun e w'=>e=.returned (.int .i64 (low s))∧w=w':=by
 obtain⟨h1,h2,h3⟩:=Cb s h h0
 refine tz_at s (low s) h1 w (by rw[bP];omega) ?_ ht
 have e:IntKind.u16.wrap (-(s:Int))=((65536-s:Nat):Int):=by rw[IntKind.wrap_u16];omega
 rw[e,u16_and_nat s _ h (by omega),h2]
 simp
def nN(l:List Nat):List Value:=l.map fun i=>Value.int .i64 (i:Nat)
theorem Cx(l:List Nat)(i:Nat):nN (l++[i])=nN l++[.int .i64 (i:Nat)]:=by simp[nN]
theorem EY(s:Nat)(w:World)(h:s<65536)(ht:Tz w):
  Calls prog 203 #[.int .u16 s] w fun e w'=>∃v,e=.returned v∧w'.ownsRow w.heap.size 3 1 v (mem s).length (nN (mem s))∧Below w.heap.size w w':=by
 go_enter func203,ntmps203
 go_wp2
 go_loopw [0,3] (fun x v wr=>∃(t:Nat)(l:List Nat),t<65536∧x=.int .u16 t∧l++mem t=mem s∧wr.ownsRow w.heap.size 3 1 v l.length (nN l)∧Below w.heap.size w wr) (fun x _ _=>(intOf x).toNat)
 case atStart=>exact⟨s,[],h,rfl,rfl,World.ownsRow_nil _ _ _ _,jQ _ _⟩
 case round=>
  obtain⟨t,l,hlt,rfl,hl,hown,hb⟩:=hrel
  have HL:=jI hl
  clear hl
  by_cases h0:t=0
  ·subst h0
   go_wp2
   go_ret
   have hl:=HL.out
   rw[mem_zero,List.append_nil] at hl
   subst hl
   exact⟨_,rfl,hown,hb⟩
  ·obtain⟨f1,f2,f3⟩:=Cb t hlt h0
   have hx:((t:Int)==0)=false:=by rw[bP];omega
   have hne:((t:Int) != 0)=true:=by simp;omega
   have htr:=ht.below hb (aP _)
   go_wp2_with fail
   refine (tz_any t _ hlt h0 htr).mono ?_
   rintro e w' ⟨rfl,rfl⟩
   have hl16:=Iw s
   have hlen:l.length≤16:=by have:=congrArg List.length HL.out;simp only[bD] at this;omega
   have hsz:=hb.size
   go_wp2_with (at_builtin;refine Ao wr rfl (.tmp 10) (.tmp 13) rfl w.heap.size _ _ _ hown rfl (low t) rfl (by omega) hsz ?_;intro v' w1 hown1 hg1 _)
   have hb1:Below w.heap.size wr w1:=aN hown hg1 hsz
   have e1:bits .and .u16 (t:Int) ((t:Int)-1)=((t&&&(t-1):Nat):Int):=by
    rw[show ((t:Int)-1)=((t-1:Nat):Int) by omega]
    exact u16_and_nat t (t-1) hlt (by omega)
   have hlow:t&&&(t-1)<t:=by have:=Nat.and_le_right (n:=t) (m:=t-1);omega
   go_roundw
   case rel=>
    refine⟨t&&&(t-1),l++[low t],clear_lt t hlt,by rw[e1],?_,?_,hb.trans hb1⟩
    ·rw[List.append_assoc,List.singleton_append,←f3];exact HL.out
    ·rw[Cx,bD];exact hown1
   case measure=>rw[e1];simp only[intOf,Int.toNat_natCast];exact hlow
end
section
def wG(n:Nat):Nat:=n&&&(4294967296-n)
def sN(n:Nat):Nat:=(n+wG n)|||((n ^^^ (n+wG n)) / wG n / 4)
def lZ:Nat→Nat→Nat→List Nat
 |0,_,_=>[]
 |f+1,m,n=>if n<2^m then n::(if n=0 then [] else lZ f m (sN n)) else []
def Au(m k:Nat):List Nat:=lZ (2^m+1) m (2^k-1)
def spread(l:List Nat)(n:Nat):Nat:=l.zipIdx.foldl (fun a p=>if n.testBit p.2 then a|||2^p.1 else a) 0
theorem kK(l:List Nat)(x n:Nat):spread (l++[x]) n=if n.testBit l.length then spread l n|||2^x else spread l n:=by
 unfold spread
 rw[List.zipIdx_append,List.foldl_append,List.zipIdx_cons,List.zipIdx_nil,List.foldl_cons,List.foldl_nil,Nat.zero_add]
def fZ(s k:Nat):List Nat:=if (mem s).length<k then [] else (Au (mem s).length k).map (spread (mem s))
def ku(s:Nat):List Nat:=(List.range ((mem s).length+1)).flatMap (fZ s)
theorem next_all:∀a b:Fin 64,64 * a.1+b.1≠0→64 * a.1+b.1<sN (64 * a.1+b.1)∧sN (64 * a.1+b.1)<65536∧0<wG (64 * a.1+b.1):=by decide +kernel
theorem sM(n:Nat)(h:n<4096)(h0:n≠0):n<sN n∧sN n<65536∧0<wG n:=by
 have:=next_all ⟨n / 64,by omega⟩ ⟨n % 64,by omega⟩ (by simp only;omega)
 simp only[show 64 * (n / 64)+n % 64=n by omega] at this
 exact this
theorem vV{m n:Nat}(hm:m≤12):∀f g,2^m-n<f→2^m-n<g→lZ f m n=lZ g m n:=by
 intro f
 induction f generalizing n with
 |zero=>intro g h;omega
 |succ f ih=>
  intro g hf hg
  cases g with
  |zero=>omega
  |succ g=>
   rw[lZ,lZ]
   by_cases h:n<2^m
   ·rw[if_pos h,if_pos h]
    by_cases h0:n=0
    ·rw[if_pos h0,if_pos h0]
    ·rw[if_neg h0,if_neg h0]
     have h12:2^m≤4096:=Nat.pow_le_pow_right (by decide) hm
     have:=(sM n (by omega) h0).1
     rw[ih g (by omega) (by omega)]
   ·rw[if_neg h,if_neg h]
def uo(m n:Nat):List Nat:=lZ (2^m+1-n) m n
theorem Cr{m n:Nat}(h:¬n<2^m):uo m n=[]:=by
 unfold uo
 cases 2^m+1-n with
 |zero=>rfl
 |succ f=>rw[lZ,if_neg h]
theorem Ih{m n:Nat}(hm:m≤12)(h:n<2^m)(h0:n≠0):uo m n=n::uo m (sN n):=by
 have h12:2^m≤4096:=Nat.pow_le_pow_right (by decide) hm
 have hn:=(sM n (by omega) h0).1
 unfold uo
 rw[show 2^m+1-n=(2^m-n)+1 by omega,lZ,if_pos h,if_neg h0]
 by_cases h2:sN n≤2^m
 ·rw[vV hm _ (2^m+1-sN n) (by omega) (by omega)]
 ·rw[show 2^m-n=(2^m-n-1)+1 by omega,lZ,if_neg (by omega),show 2^m+1-sN n=0 by omega,lZ]
theorem Ie{m:Nat}:uo m 0=[0]:=by
 unfold uo
 rw[show 2^m+1-0=2^m+1 from rfl,lZ,if_pos (Nat.pow_pos (by decide)),if_pos rfl]
theorem pickN_R{m k:Nat}(hm:m≤12):Au m k=uo m (2^k-1):=by
 by_cases h:2^k-1<2^m+1
 ·exact vV hm _ _ (by omega) (by omega)
 ·unfold Au
  rw[Cr (by omega),lZ,if_neg (by omega)]
end
section
open Go.RowKit
open _root_.Go.Proofs.Tryz
attribute [local go_sem] Oper.semAt_some
theorem room_none{F:Fence}(hd:F.depth=none)(k:Nat):F.room k:=fun d h=>by rw[hd] at h;cases h
theorem yield_any{F:Fence}(hd:F.depth=none){m:Nat}(m':Nat){P:Program}{l:Nat}{args:Array Value}{W:World}{R:Ending→World→Prop}(h:YieldAt F m P l args W R):YieldAt F m' P l args W R:=by
 obtain⟨fn,tmps,assign,body,hy,hR⟩:=h
 exact⟨fn,tmps,assign,body,hy,⟨hR.1,fun c cs _=>hR.2 c cs (room_none hd _)⟩⟩
def gm(S:Nat→Prop)(W W':World):Prop:=(∀(g:Nat)(o:Obj),S g→W.heap[g]?=some o→W'.heap[g]?=some o)∧∀(g:Nat)(cs:Array Value)(fr:Nat × Nat),W.heap[g]?=some (Obj.cells cs 3 fr)→W'.heap[g]?=some (Obj.cells cs 3 fr)
section
variable {S:Nat→Prop} {A B C:World}
theorem gm.refl:gm S A A:=⟨fun _ _ _ h=>h,fun _ _ _ h=>h⟩
theorem gm.trans(h:gm S A B)(k:gm S B C):gm S A C:=⟨fun g o hS hg=>k.1 g o hS (h.1 g o hS hg),fun g cs fr hg=>k.2 g cs fr (h.2 g cs fr hg)⟩
theorem gm.of_below(h:Below A.heap.size A B):gm S A B:=
 ⟨fun g _ _ hg=>(h.block g (Array.getElem?_eq_some_iff.1 hg).1).trans hg,fun g _ _ hg=>(h.block g (Array.getElem?_eq_some_iff.1 hg).1).trans hg⟩
theorem gm.own{base n:Nat}{v:Value}{xs:List Value}(h:A.ownsRow base 3 1 v n xs)(k:gm S A B):B.ownsRow base 3 1 v n xs:=by
 obtain⟨h1,h2⟩:=h
 refine⟨h1,?_⟩
 rcases h2 with h2|⟨g,cap,cur,hv,hg,hh,r⟩
 ·exact Or.inl h2
 ·exact Or.inr ⟨g,cap,cur,hv,hg,k.2 _ _ _ hh,r⟩
theorem gm.tz(h:Tz A)(k:gm S A B)(hS:S 2):Tz B:=by
 obtain⟨o,ho⟩:∃o,A.heap[2]?=some o:=⟨_,Array.getElem?_eq_getElem h.1⟩
 have hb:=k.1 _ o hS ho
 exact⟨(Array.getElem?_eq_some_iff.1 hb).1,fun i hi=>(World.cell?_of_block (hb.trans ho.symm)).trans (h.2 i hi)⟩
end
theorem DW{s i:Nat}(h:s<4096)(hi:12≤i):s.testBit i=false:=Nat.testBit_lt_two_pow (bZ h (Nat.pow_le_pow_right (n:=2) (by decide) hi))
theorem Gt{s i:Nat}(h:s<4096)(hi:i∈mem s):i<12:=by
 unfold mem at hi
 rw[List.mem_filter] at hi
 by_cases h2:i<12
 ·exact h2
 ·rw[DW h (by omega)] at hi;simp at hi
theorem mem_12{s:Nat}(h:s<4096):(mem s).length≤12:=by
 rw[←memTo_all,oN,oN,oN,oN,DW h (by decide),DW h (by decide),DW h (by decide),DW h (by decide)]
 simpa using Cy s 12
theorem EZ(L:List Nat)(i:Nat)(h:i<L.length):(nN L)[i]?=some (.int .i64 (L[i]:Nat)):=by simp[nN,h]
theorem vI{L:List Nat}(hL:∀x∈L,x<12)(n:Nat):spread L n<65536:=by
 have key:∀(L:List Nat)(a i:Nat),(∀x∈L,x<12)→a<4096→(L.zipIdx i).foldl (fun a p=>if n.testBit p.2 then a|||2^p.1 else a) a<4096:=by
  intro L
  induction L with
  |nil=>intro a i _ h;exact h
  |cons x r ih=>
   intro a i hx ha
   rw[List.zipIdx_cons,List.foldl_cons]
   refine ih _ _ (fun y hy=>hx y (List.mem_cons_of_mem _ hy)) ?_
   split
   ·exact Nat.or_lt_two_pow (n:=12) ha (Nat.pow_lt_pow_right (by decide) (hx x fO))
   ·exact ha
 have:=key L 0 0 hL (by decide)
 unfold spread
 omega
theorem bit32(m i:Nat)(h:m<65536):(bits .and .u32 ((m:Int) / 2^i) 1==1)=m.testBit i:=by
 have hd:m / 2^i<4294967296:=fG (Nat.div_le_self _ _) (by omega)
 have e:((m:Int) / 2^i)=((m / 2^i:Nat):Int):=by simp
 rw[←mK,e,show (1:Int)=((1:Nat):Int) from rfl,u32_and_nat (m / 2^i) 1 hd (by decide)]
 rw[Bool.eq_iff_iff];simp only[beq_iff_eq];omega
theorem or_bit(q x:Nat)(hq:q<65536)(hx:x<16):bits .or .u16 (q:Int) (2^x % 65536)=((q|||2^x:Nat):Int):=by
 have h2:2^x<65536:=Nat.pow_lt_pow_right (by decide) hx
 rw[show ((2:Int)^x % 65536)=((2^x:Nat):Int) by rw[show ((2:Int)^x)=((2^x:Nat):Int) by simp];generalize 2^x=P at h2;omega]
 exact u16_or_nat q (2^x) hq h2
theorem low32(m:Nat)(h0:m≠0)(h:m<65536):bits .and .u32 (m:Int) (-(m:Int) % 4294967296)=((wG m:Nat):Int):=by
 rw[show (-(m:Int) % 4294967296)=((4294967296-m:Nat):Int) by omega]
 exact u32_and_nat m (4294967296-m) (by omega) (by omega)
theorem next32(m:Nat)(_h0:m≠0)(h:m<4096):bits .or .u32 (((m:Int)+((wG m:Nat):Int)) % 4294967296) ((bits .xor .u32 (m:Int) (((m:Int)+((wG m:Nat):Int)) % 4294967296)).tdiv ((wG m:Nat):Int) % 4294967296 / 4)=((sN m:Nat):Int):=by
 have hl:wG m≤m:=Nat.and_le_left
 have hx:m ^^^ (m+wG m)<8192:=Nat.xor_lt_two_pow (n:=13) (by omega) (by omega)
 have hd:(m ^^^ (m+wG m)) / wG m<8192:=fG (Nat.div_le_self _ _) hx
 rw[show (((m:Int)+((wG m:Nat):Int)) % 4294967296)=((m+wG m:Nat):Int) by omega,u32_xor_nat m (m+wG m) (by omega) (by omega),←Int.ofNat_tdiv]
 rw[show ((((m ^^^ (m+wG m)) / wG m:Nat):Int) % 4294967296 / 4)=(((m ^^^ (m+wG m)) / wG m / 4:Nat):Int) by generalize (m ^^^ (m+wG m)) / wG m=D at hd;omega]
 exact u32_or_nat _ _ (by omega) (by omega)
theorem Ig{m n:Nat}(hm:m≤12)(h:n<2^m):uo m n=n::(if n=0 then [] else uo m (sN n)):=by
 by_cases h0:n=0
 ·subst h0;rw[Ie,if_pos rfl]
 ·rw[Ih hm h h0,if_neg h0]
theorem DT(l N:Nat)(S:Nat→Prop)(_hSz:S 2)(J Jx:List Nat→World→Prop)(hJ:∀pre A B,J pre A→Below A.heap.size A B→J pre B)
  (hY:∀m pre (x:Nat) W,x<65536→J pre W→pre.length<N→YieldAt Fence.wide m prog l #[.int .u16 (x:Nat)] W fun e W'=>(e=.returned (.bool true)∧J (pre++[x]) W'∧gm S W W')∨(e=.returned (.bool false)∧Jx (pre++[x]) W'))
  (s k:Nat) (hs:s<4096) (hk:k≤100) (n:Nat) (pre:List Nat) (w:World) (hz:Tz w) (h0:J pre w) (hN:pre.length+(fZ s k).length≤N):
  CallsIn Fence.wide n prog 173 #[.int .u16 s,.int .i64 k,.func (.yield l) #[] #[]] w fun e W'=>(e=.returned (.bool true)∧J (pre++fZ s k) W'∧gm S w W')∨(e=.returned (.bool false)∧∃q,q <+: fZ s k∧Jx (pre++q) W'):=by
 obtain⟨L,hL⟩:=kE (mem s)
 have hL12:L.length≤12:=by rw[hL];exact mem_12 hs
 have HM:=jI (EY s w (by omega) hz)
 rw[←hL] at HM
 have hmb:∀x∈L,x<12:=fun x hx=>Gt hs (by rw[←hL];exact hx)
 have HCL:=jI (show fZ s k=if L.length<k then [] else (Au L.length k).map (spread L) by rw[hL];rfl)
 have HMB:=jI hmb
 have HL:=jI hL
 clear hmb hL
 refine callsIn_of_wp func173 rfl trivial ?_ rfl
 simp only[ntmps173,List.size_toArray,fM,List.length_nil,Nat.reduceAdd,Nat.reduceSub,Array.replicate_succ,Array.replicate_zero,List.push_toArray,List.append_toArray,List.nil_append,List.cons_append]
 gi_wp2_with fail
 refine⟨trivial,(fun h=>by cases h),(callsIn_wide.2 HM.out).mono ?_⟩
 rintro e w1 ⟨v,rfl,hown,hb1⟩
 have hown0:=hown
 obtain⟨A,c,rfl,hc⟩:=aD hown0
 clear hown0
 by_cases hlk:L.length<k
 ·have hlkI:(L.length:Int)<(k:Int):=by omega
  have hk0:¬(k:Int)<0:=by omega
  gi_wp2
  all_goals first|(exfalso;omega)|skip
  go_ret
  rw[HCL.out,if_pos hlk,List.append_nil]
  exact Or.inl ⟨rfl,hJ _ _ _ h0 hb1,gm.of_below hb1⟩
 have hlkI:¬(L.length:Int)<(k:Int):=by omega
 have hk0:¬(k:Int)<0:=by omega
 gi_wp2
 all_goals first|(exfalso;omega)|skip
 have hk12:k≤12:=by omega
 have e8:((2:Int)^k % 4294967296-1) % 4294967296=((2^k-1:Nat):Int):=by
  have h1:1≤2^k:=Nat.one_le_two_pow
  have h2:2^k≤4096:=Nat.pow_le_pow_right (by decide) hk12
  have h3:((2:Int)^k)=((2^k:Nat):Int):=by simp
  rw[h3];omega
 rw[e8]
 have hp12:2^L.length≤4096:=Nat.pow_le_pow_right (by decide) hL12
 have h1k:2^k≤2^L.length:=Nat.pow_le_pow_right (by decide) (by omega)
 have HCL2:=jI (show fZ s k=(Au L.length k).map (spread L) by rw[HCL.out,if_neg hlk])
 gi_loopw [8] (fun x wr=>∃(m:Nat)(done:List Nat),x=.int .u32 (m:Nat)∧m<65536∧Hid (Au L.length k=done++uo L.length m)∧J (pre++done.map (spread L)) wr∧gm S w wr∧wr.ownsRow w.heap.size 3 1 (.slice A L.length c) L.length (nN L)) (fun x _=>2^L.length-(intOf x).toNat)
 case atStart=>exact⟨2^k-1,[],rfl,by omega,jI (pickN_R hL12),by simpa using hJ _ _ _ h0 hb1,gm.of_below hb1,hown⟩
 case round=>
  obtain⟨m,done,rfl,hm,hdone,hJ1,hkeep,hown1⟩:=hrel
  have hpI:((2:Int)^L.length) % 4294967296=((2^L.length:Nat):Int):=by
   rw[show ((2:Int)^L.length)=((2^L.length:Nat):Int) by simp]
   generalize 2^L.length=P at hp12
   omega
  have hL0:(0:Int)≤(L.length:Int):=by omega
  by_cases hlt:m<2^L.length
  ·have hmI:(m:Int)<(2:Int)^L.length % 4294967296:=by rw[hpI];exact Int.ofNat_lt.2 hlt
   clear hpI
   have hpc:=Ig hL12 hlt
   have hspan:∀i,i≤L.length→spread (L.take i) m<65536:=fun i _=>vI (fun x hx=>HMB.out x (fF hx)) m
   have HSP:=jI hspan
   obtain⟨fn,tmps,assign,body,hy,hR⟩:=hY (n-1) (pre++done.map (spread L)) (spread L m) wr (vI HMB.out m) hJ1 (by
    have h1:=congrArg List.length hdone.out
    rw[bD,hpc] at h1
    rw[HCL2.out,List.length_map,h1] at hN
    simp only[bD,List.length_map,fM] at hN ⊢
    omega)
   have HPC:=jI hpc
   obtain⟨sx,hsx⟩:=kE (spread L m)
   rw[←hsx] at hy hR
   have HSX:=jI hsx
   have HDN:=jI hdone.out
   clear hpc hspan hdone hsx
   gi_wp2
   gi_loop [9,34] (fun y x=>∃i:Nat,i≤L.length∧x=.int .i64 i∧y=.int .u16 (spread (L.take i) m:Nat)) (fun _ x=>L.length-(intOf x).toNat)
   case atStart=>exact⟨0,cu _,rfl,rfl⟩
   case round=>
    obtain⟨i,hi,rfl,rfl⟩:=hrel
    by_cases hil:i<L.length
    ·have hiI:(i:Int)<(L.length:Int):=by omega
     have hi0:(0:Int)≤(i:Int):=by omega
     have hoc:=(ak.own hown1).2 (by omega)
     obtain⟨g,o,rfl,hgb,hcell⟩:=hoc
     have hck:=hcell i _ (EZ L i hil)
     clear hcell
     obtain⟨x,hx⟩:=kE (L[i])
     have hx12:x<12:=HMB.out x (by rw[hx];exact bQ hil)
     have hsn:spread (L.take (i+1)) m=if m.testBit i then spread (L.take i) m|||2^x else spread (L.take i) m:=by
      rw[cO hil,←hx,kK,fH,Nat.min_eq_left (by omega)]
     rw[←hx] at hck
     have hbit:=bit32 m i hm
     have hx0:(0:Int)≤(x:Int):=by omega
     have hsp:=HSP.out i (by omega)
     obtain⟨q,hq⟩:=kE (spread (L.take i) m)
     rw[←hq] at hsn hsp ⊢
     have HSN:=jI hsn
     clear hsn hx hq
     cases hmb:m.testBit i
     ·rw[hmb] at hbit
      have HMQ:=jI hmb
      clear hmb
      gi_wp2
      go_round
      case rel=>exact⟨i+1,by omega,by go_num,by rw[HSN.out,HMQ.out];rfl⟩
      case measure=>simp[intOf];omega
     ·rw[hmb] at hbit
      have HMQ:=jI hmb
      clear hmb
      have hor:=or_bit q x hsp (by omega)
      have HOR:=jI hor
      clear hor
      gi_wp2
      go_round
      case rel=>exact⟨i+1,by omega,by go_num,by rw[HSN.out,HMQ.out];exact congrArg _ HOR.out⟩
      case measure=>simp[intOf];omega
    ·obtain rfl:i=L.length:=by omega
     rw[List.take_length,←HSX.out]
     have hiI:¬(L.length:Int)<(L.length:Int):=by omega
     gi_wp2
     refine⟨(fun h=>by cases h),hR.mono ?_⟩
     rintro e W3 (⟨rfl,hJ3,hk3⟩|⟨rfl,hJx3⟩)
     ·by_cases hm0:m=0
      ·subst hm0
       have hz0:(((0:Nat):Int)==0)=true:=rfl
       gi_wp2
       go_ret
       refine Or.inl ⟨rfl,?_,hkeep.trans hk3⟩
       rw[HCL2.out,HDN.out,HPC.out,if_pos trivial,List.map_append,List.map_cons,List.map_nil,←HSX.out,←List.append_assoc]
       exact hJ3
      ·have hm0I:((m:Int)==0)=false:=by rw[bP];omega
       obtain⟨n1,n2,n3⟩:=sM m (by omega) hm0
       have hlow:=low32 m hm0 hm
       have hl0:¬((wG m:Nat):Int)=0:=by omega
       have HNX:=jI (next32 m hm0 (by omega))
       gi_wp2
       go_roundw
       case rel=>
        refine⟨sN m,done++[m],congrArg _ HNX.out,n2,jI ?_,?_,hkeep.trans hk3,hk3.own hown1⟩
        ·rw[HDN.out,HPC.out,if_neg hm0,List.append_assoc];rfl
        ·rw[List.map_append,List.map_cons,List.map_nil,←HSX.out,←List.append_assoc]
         exact hJ3
       case measure=>
        rw[HNX.out]
        simp only[intOf,Int.toNat_natCast]
        omega
     ·gi_wp2
      go_ret
      refine Or.inr ⟨rfl,done.map (spread L)++[sx],?_,by rw[←List.append_assoc];exact hJx3⟩
      rw[HCL2.out,HDN.out,HPC.out,List.map_append,List.map_cons,←HSX.out]
      exact⟨List.map (spread L) (if m=0 then [] else uo L.length (sN m)),by simp⟩
  ·have hmI:¬(m:Int)<(2:Int)^L.length % 4294967296:=by rw[hpI];exact fun h=>hlt (Int.ofNat_lt.1 h)
   clear hpI
   gi_wp2
   go_ret
   have h1:=hdone.out
   rw[Cr hlt,List.append_nil] at h1
   rw[HCL2.out,h1]
   exact Or.inl ⟨rfl,hJ1,hkeep⟩
end
section
open Go.RowKit
open _root_.Go.Proofs.Tryz
theorem Ac{sv:List ByteArray}{x:ByteArray}{i:Nat}(h:iQ sv x=some i):i<sv.length:=by
 have key:∀(l:List (ByteArray × Nat))(N:Nat),(∀p∈l,p.2<N)→∀a:Option Nat,(∀j,a=some j→j<N)→∀j,l.foldl (fun a p=>if p.1=x then some p.2 else a) a=some j→j<N:=by
  intro l N
  induction l with
  |nil=>intro _ a ha j hj;exact ha j hj
  |cons p r ih=>
   intro hl a ha j hj
   rw[List.foldl_cons] at hj
   refine ih (fun q hq=>hl q (List.mem_cons_of_mem _ hq)) _ ?_ j hj
   intro j' hj'
   split at hj'
   ·rw[←Option.some.inj hj'];exact hl p fO
   ·exact ha j' hj'
 refine key _ _ ?_ none (fun j hj=>by cases hj) i h
 intro p hp
 have:=List.snd_lt_of_mem_zipIdx hp
 simpa using this
theorem lq{sv:List ByteArray}(h:sv.length≤12)(l:List ByteArray):iA sv l<4096:=by
 have key:∀(l:List ByteArray)(a:Nat),a<4096→l.foldl (fun a n=>match iQ sv n with|some i=>(a|||2^i)|none=>a) a<4096:=by
  intro l
  induction l with
  |nil=>intro a h;exact h
  |cons x r ih=>
   intro a ha
   rw[List.foldl_cons]
   refine ih _ ?_
   cases hx:iQ sv x with
   |none=>exact ha
   |some i=>exact Nat.or_lt_two_pow (n:=12) ha (Nat.pow_lt_pow_right (by decide) (bZ (Ac hx) h))
 exact key l 0 (by decide)
theorem qD{b sb mb c:Nat}{A:Option Addr}{l:List Dc}(w:World)(hw:Wd w b sb mb A c l)(names:List ByteArray)(nA:Option Addr)(nc:Nat)(S:Nat→Prop)(hn:ak w S 1 nA names.length (aC names))(hsv:(ai l).length≤12)(hnm:∀x∈names,x.size≤maxLen)(hll:names.length≤1000000000):
  Calls prog 39 #[.pointer (some ⟨b,0,none⟩),.slice nA names.length nc] w fun e w'=>e=.returned (.int .u16 (iA (ai l) names:Nat))∧w=w':=by
 obtain⟨d0,d1,d2⟩:=hw.cells
 have hM:=hw.map.is
 obtain⟨sv,hsvv⟩:=kE (ai l)
 rw[←hsvv] at hM hsv ⊢
 have HM:=jI hM
 have HN:=jI hnm
 have HSE:=jI hn
 have HLT:=jI (fun l=>lq hsv l)
 have HIX:=jI (fun(x:ByteArray)(i:Nat)(h:iQ sv x=some i)=>Ac h)
 clear hM hnm hn hsvv
 go_enter func39,ntmps39
 go_wp2
 go_loop [5,12] (fun y x=>∃k:Nat,k≤names.length∧x=.int .i64 k∧y=.int .u16 (iA sv (names.take k):Nat)) (fun _ x=>names.length-(intOf x).toNat)
 case atStart=>exact⟨0,cu _,rfl,rfl⟩
 case round=>
  obtain⟨k,hk,rfl,rfl⟩:=hrel
  by_cases hlt:k<names.length
  ·obtain⟨g,o,rfl,hSg,hcell⟩:=HSE.out.cells (by omega)
   have hck:=hcell k _ (dV names k hlt)
   have hsn:names.take (k+1)=names.take k++[names.getD k ByteArray.empty]:=by rw[cO hlt];simp[hlt]
   have hxs:(names.getD k ByteArray.empty).size≤maxLen:=HN.out _ (by rw[List.getD_eq_getElem?_getD,dD hlt];exact bQ hlt)
   obtain⟨x,hx⟩:=kE (names.getD k ByteArray.empty)
   rw[←hx] at hck hsn hxs
   have hss:iA sv (names.take (k+1))=match iQ sv x with|some i=>iA sv (names.take k)|||2^i|none=>iA sv (names.take k):=by rw[hsn,lX];cases iQ sv x<;>rfl
   have hq:=HLT.out (names.take k)
   obtain⟨q,hqq⟩:=kE (iA sv (names.take k))
   rw[←hqq] at hss hq ⊢
   have hkI:(k:Int)<(names.length:Int):=by omega
   have hk0:(0:Int)≤(k:Int):=by omega
   clear hcell hsn hx hqq
   cases hix:iQ sv x with
   |none=>
    have hu:(svF sv x).getD (.int .i64 0)=.int .i64 0:=by unfold svF;rw[hix];rfl
    have hc0:(svF sv x).isSome=false:=by unfold svF;rw[hix];rfl
    rw[hix] at hss
    have HSS:=jI hss
    clear hss hix
    go_wp2_with (at_lookup;refine ol _ rfl _ _ 117 rfl 9 3 bB underlying117 (eU _) sb _ _ rfl HM.out x hxs rfl _ hu _ hc0 ?_)
    go_round
    case rel=>exact⟨k+1,by omega,by go_num,by rw[HSS.out]⟩
    case measure=>simp[intOf];omega
   |some i=>
    have hi:=HIX.out x i hix
    have hu:(svF sv x).getD (.int .i64 0)=.int .i64 (i:Nat):=by unfold svF;rw[hix];rfl
    have hc0:(svF sv x).isSome=true:=by unfold svF;rw[hix];rfl
    rw[hix] at hss
    have HSS:=jI hss
    have HOR:=jI (or_bit q i (by omega) (by omega))
    have hi0:(0:Int)≤(i:Int):=by omega
    clear hss hix
    go_wp2_with (at_lookup;refine ol _ rfl _ _ 117 rfl 9 3 bB underlying117 (eU _) sb _ _ rfl HM.out x hxs rfl _ hu _ hc0 ?_)
    go_round
    case rel=>exact⟨k+1,by omega,by go_num,by rw[HSS.out];exact congrArg _ HOR.out⟩
    case measure=>simp[intOf];omega
  ·obtain rfl:k=names.length:=by omega
   have hkI:¬(names.length:Int)<(names.length:Int):=by omega
   rw[List.take_length]
   go_wp2
   go_ret
   exact⟨rfl,rfl⟩
theorem one_shl{n:Nat}(h:n≤12):(2:Int)^n % 65536-1=((2^n-1:Nat):Int)∧2^n-1<4096:=by
 have h1:1≤2^n:=Nat.one_le_two_pow
 have h2:2^n≤4096:=Nat.pow_le_pow_right (by decide) h
 have h3:((2:Int)^n)=((2^n:Nat):Int):=by simp
 rw[h3]
 generalize 2^n=P at h1 h2
 omega
theorem wrap_shl{n:Nat}(h:(2:Int)^n % 65536-1=((2^n-1:Nat):Int))(h2:2^n-1<4096):IntKind.u16.wrap (IntKind.u16.wrap (2^n)-1)=((2^n-1:Nat):Int):=by
 have e1:IntKind.u16.wrap (2^n)=(2:Int)^n % 65536:=rfl
 have e2:∀z:Int,IntKind.u16.wrap z=z % 65536:=fun _=>rfl
 rw[e1,h,e2]
 generalize 2^n-1=P at h2
 omega
theorem sS{l:List Dc}(h:(ai l).length≤12)(x:ByteArray):gH l x<4096:=by
 unfold gH
 split
 ·exact (one_shl h).2
 ·split
  ·exact lq h _
  ·decide
theorem sw{b sb mb c:Nat}{A:Option Addr}{l:List Dc}(w:World)(S:Nat→Prop)(hw:Wd w b sb mb A c l)(hl:aO (dS w S) w S 22 A l)(hS:∀g,S g→g<w.heap.size)(hll:l.length≤1000000000)(hsv:(ai l).length≤12)(x:ByteArray)(hx:x≠(⟨#[115,101,114,118,101,114,115]⟩:ByteArray)→∃d,nY l 1 x=some d)
  (hnm:∀d∈l,d.names.length≤1000000000∧∀y∈d.names,y.size≤maxLen):
  Calls prog 70 #[.pointer (some ⟨b,0,none⟩),.string x] w fun e w'=>e=.returned (.int .u16 (gH l x:Nat))∧Below w.heap.size w w':=by
 obtain⟨d0,d1,d2⟩:=hw.cells
 by_cases hxs:x=(⟨#[115,101,114,118,101,114,115]⟩:ByteArray)
 ·have hlen:=hw.map.len underlying117 3
  have hg:gH l x=2^(ai l).length-1:=by unfold gH;rw[if_pos hxs]
  rw[hg]
  obtain⟨N,hN⟩:=kE ((ai l).length)
  rw[←hN] at hlen hsv ⊢
  have HSH:=jI (one_shl hsv)
  have hN0:(0:Int)≤(N:Int):=by omega
  subst hxs
  clear hN hg hl hnm hx
  go_enter func70,ntmps70
  go_wp2
  go_ret
  exact⟨congrArg (fun z:Int=>Ending.returned (.int .u16 z)) (wrap_shl HSH.out.1 HSH.out.2),jQ _ _⟩
 ·obtain⟨d,hd⟩:=hx hxs
  have hg:gH l x=iA (ai l) d.names:=by unfold gH;rw[if_neg hxs,hd]
  have hmem:=List.mem_of_find?_eq_some hd
  obtain⟨n1,n2⟩:=hnm d hmem
  have HF:=jI (vF w S hw hl hS hll 1 x d hd)
  have HW:=jI hw
  have HN:=jI n2
  have HG:=jI hg
  have hs3:¬x.toList=[115,101,114,118,101,114,115]:=fun e9=>hxs (by rw[ByteArray.toList_eq] at e9;rw[←gN x,e9];rfl)
  have hs4:(x.toList==[115,101,114,118,101,114,115])=false:=by rw[bP];exact hs3
  clear hl hnm hx hd hg hmem n2 hxs hs3
  go_enter func70,ntmps70
  go_wp2_with fail
  refine HF.out.mono ?_
  rintro e w1 ⟨v,rfl,hp,hb1⟩
  have hw1:=jI (HW.out.below hb1)
  obtain⟨cs,nA,nc,hcl,hone,rfl,-,-,-,c3,-,hsn,hnc⟩:=j4 hp
  have hcs2:cs.toArray.size=22:=by simpa using hcl
  have nD:=jI hone
  have HCS:=jI hcs2
  have C3:=jI c3
  have HSN:=jI hsn
  have hbA:∀o,Below w1.heap.size w1 (w1.alloc o):=fun o=>(jQ _ _).alloc (aP _) o
  have hbl:=hw1.out.lt
  clear hp hone hcs2 c3 hsn hcl
  go_wp2_with (with_reducible refine bO _ rfl rfl (.tmp 5) (.tmp 20) rfl w1.heap.size cs.toArray rfl rfl _ (jR w1 _) rfl HCS.out nD.out ?_;intro W5 hr5 hg5;have e3:=aY hr5 C3.out;have hb5:Below w1.heap.size w1 W5:=(hbA _).trans (below_grown hg5 (aP _) (by simp));clear hr5 hg5)
  refine (qD W5 (hw1.out.below hb5) d.names nA nc S (HSN.out.keep (aj hb5 (fun g hg=>by have:=hS g hg;have:=hb1.size;omega))) hsv HN.out n1).mono ?_
  rintro e w2 ⟨rfl,rfl⟩
  go_wp2
  go_ret
  exact⟨by rw[HG.out];rfl,hb1.trans (hb5.mono hb1.size)⟩
end
section
open Go.RowKit
open _root_.Go.Proofs.Tryz
attribute [local go_sem] Oper.semAt_some
theorem Ar(b:ByteArray)(i:Nat)(h:i<b.size):b[i]=b.data.toList.getD i 0:=by
 have h2:i<b.data.size:=h
 have e:b[i]=b.data[i]:=rfl
 rw[e,List.getD_eq_getElem?_getD,Array.getElem?_toList,Array.getElem?_eq_getElem h2];rfl
theorem ones_two:∀a b:Fin 64,((Lib.pop8tab.data.toList.getD ((64 * a.1+b.1) / 256) 0).toNat+(Lib.pop8tab.data.toList.getD ((64 * a.1+b.1)&&&255) 0).toNat) % 256=(mem (64 * a.1+b.1)).length:=by decide +kernel
theorem Gp(s:Nat)(h:s<4096):((((Lib.pop8tab.data.toList.getD (s / 256) 0).toNat:Nat):Int)+(((Lib.pop8tab.data.toList.getD (s&&&255) 0).toNat:Nat):Int)) % 256=(((mem s).length:Nat):Int):=by
 have:=ones_two ⟨s / 64,by omega⟩ ⟨s % 64,by omega⟩
 simp only[show 64 * (s / 64)+s % 64=s by omega] at this
 omega
theorem ones_any(s:Nat)(hs:s<4096)(w:World):Calls prog 202 #[.int .u16 (s:Nat)] w fun e w'=>e=.returned (.int .i64 ((mem s).length:Nat))∧Below w.heap.size w w':=by
 have hsz:Lib.pop8tab.size=256:=by decide +kernel
 have h8:(0:Int)≤(s:Int) / 256:=by omega
 have h9:(s:Int) / 256<(Lib.pop8tab.size:Int):=by rw[hsz];omega
 have h10:bits .and .u16 (s:Int) 255=((s&&&255:Nat):Int):=u16_and_nat s 255 (by omega) (by decide)
 have h12:s&&&255≤255:=Nat.and_le_right
 have h11:((s&&&255:Nat):Int)<(Lib.pop8tab.size:Int):=by rw[hsz];omega
 have HK:=jI (Gp s hs)
 clear hsz h12
 go_enter func202,ntmps202
 go_wp2_with fail
 go_quiet (fail)
 go_wp2
 go_ret
 have h9':s / 256<Lib.pop8tab.size:=by omega
 have h11':s&&&255<Lib.pop8tab.size:=by omega
 refine⟨?_,below_drewN (jQ _ _) _⟩
 have key:=HK.out
 rw[Ar _ _ h9',Ar _ _ h11',←key]
 rfl
theorem count_any(s:Nat)(hs:s<4096)(w:World):Calls prog 172 #[.int .u16 (s:Nat)] w fun e w'=>e=.returned (.int .i64 ((mem s).length:Nat))∧Below w.heap.size w w':=by
 have HC:=jI (ones_any s hs w)
 go_enter func172,ntmps172
 go_wp2_with fail
 refine HC.out.mono ?_
 rintro e w' ⟨rfl,hb⟩
 go_wp2
 go_ret
 exact⟨rfl,hb⟩
end
section
open Go.RowKit
open _root_.Go.Proofs.Tryz
attribute [local go_sem] Oper.semAt_some
def yg(s k:Nat):List Nat:=(List.range k).flatMap (fZ s)
theorem oD(s k:Nat):yg s (k+1)=yg s k++fZ s k:=by
 unfold yg
 rw[List.range_succ,List.flatMap_append,List.flatMap_cons,List.flatMap_nil,List.append_nil]
theorem subTo_pre(s k j:Nat):yg s k <+: yg s (k+j):=by
 induction j with
 |zero=>exact List.prefix_rfl
 |succ j ih=>exact ih.trans (by rw[←Nat.add_assoc,oD];exact List.prefix_append _ _)
theorem Gc{s k m:Nat}(h:k≤m):yg s k <+: yg s m:=by
 obtain⟨j,rfl⟩:=Nat.exists_eq_add_of_le h
 exact subTo_pre s k j
abbrev U16:={ x:Nat // x<65536 }
def OnU(J:List U16→World→Prop)(pre:List Nat)(W:World):Prop:=∃p:List U16,p.map Subtype.val=pre∧J p W
theorem OnU.yield{J Jx:List U16→World→Prop}{S:Nat→Prop}{l n N:Nat}(hY:∀(pre:List U16)(x:U16) W1,J pre W1→pre.length<N→YieldAt Fence.wide (n-1) prog l #[.int .u16 (x.1:Nat)] W1 fun e W'=>(e=.returned (.bool true)∧J (pre++[x]) W'∧gm S W1 W')∨(e=.returned (.bool false)∧Jx (pre++[x]) W')):
  ∀m pre (x:Nat) W,x<65536→OnU J pre W→pre.length<N→YieldAt Fence.wide m prog l #[.int .u16 (x:Nat)] W fun e W'=>(e=.returned (.bool true)∧OnU J (pre++[x]) W'∧gm S W W')∨(e=.returned (.bool false)∧OnU Jx (pre++[x]) W'):=by
 rintro m pre x W hx ⟨p,rfl,hp⟩ hN
 refine (yield_any rfl m (hY p ⟨x,hx⟩ W hp (by simpa using hN))).mono ?_
 rintro e W' (⟨he,h1,h2⟩|⟨he,h1⟩)
 ·exact Or.inl ⟨he,⟨p++[⟨x,hx⟩],by simp,h1⟩,h2⟩
 ·exact Or.inr ⟨he,p++[⟨x,hx⟩],by simp,h1⟩
theorem Ad(n B:Nat)(T:TypeId)(S:Nat→Prop)(hSz:S 2)(hSB:S B)(s:Nat)(hs:s<4096)(w:World)(hz:Tz w)(hB:w.heap[B]?=some (.cells #[.int .u16 s] T (0,0))):
  SeqStopsK Fence.wide n prog 171 #[.pointer (some ⟨B,0,none⟩)] (fun x:U16=>#[Value.int .u16 (x.1:Nat)]) (gm S) (fun ys=>ys.map Subtype.val=ku s) (fun pre=>pre.map Subtype.val <+: ku s) (ku s).length w:=by
 intro l J0 Jx0 W hW hJ hJx hY0 h00
 have h0:OnU J0 [] W:=⟨[],rfl,h00⟩
 have hWB:W.heap[B]?=some (.cells #[.int .u16 s] T (0,0)):=(hW.block B (jS hB)).trans hB
 have hWz:Tz W:=hz.below hW (aP _)
 have hJ2:∀pre A B,OnU J0 pre A→Below A.heap.size A B→OnU J0 pre B:=fun pre A B h hb=>by
  obtain⟨p,hp,h⟩:=h
  exact⟨p,hp,hJ p A B none h (aM hb) (fun r e=>by cases e)⟩
 have hY:=OnU.yield hY0
 obtain⟨J,hJd⟩:=kE (OnU J0)
 obtain⟨Jx,hJxd⟩:=kE (OnU Jx0)
 rw[←hJd] at h0 hJ2 hY
 rw[←hJxd] at hY
 have HJD:=jI hJd
 have HJXD:=jI hJxd
 clear hJd hJxd hY0 h00
 have HCH:=jI (fun k hk m pre W1 hz1 h1 hN=>DT l (ku s).length S hSz J Jx hJ2 hY s k hs hk m pre W1 hz1 h1 hN)
 have HCO:=jI (fun(W:World)=>count_any s hs W)
 obtain⟨M,hM⟩:=kE ((mem s).length)
 have hM12:M≤12:=by rw[hM];exact mem_12 hs
 rw[←hM] at HCO
 have HSL:=jI (show ku s=yg s (M+1) by rw[hM];rfl)
 clear hJ hJx hY hM
 refine callsIn_of_wp func171 rfl trivial ?_ rfl
 simp only[ntmps171,List.size_toArray,fM,List.length_nil,Nat.reduceAdd,Nat.reduceSub,Array.replicate_succ,Array.replicate_zero,List.push_toArray,List.append_toArray,List.nil_append,List.cons_append]
 gi_wp2
 gi_loopw [3] (fun x wr=>∃k:Nat,k≤M+1∧x=.int .i64 k∧J (yg s k) wr∧gm S W wr) (fun x _=>M+1-(intOf x).toNat)
 case atStart=>exact⟨0,cu _,rfl,h0,gm.refl⟩
 case round=>
  obtain⟨k,hk,rfl,hJ1,hkeep⟩:=hrel
  have c0:wr.cell? ⟨B,0,none⟩=some (.int .u16 s):=j5 wr B 0 _ _ _ (hkeep.1 B _ hSB hWB)
  have hz1:Tz wr:=hkeep.tz hWz hSz
  by_cases hlt:k≤M
  ·have hkI:(k:Int)≤(M:Int):=by omega
   have HR:=jI (fun m W1 (hb:Below wr.heap.size wr W1)=>HCH.out k (by omega) m (yg s k) W1 (hz1.below hb (aP _)) (hJ2 _ _ _ hJ1 hb) (by
    have:=(Gc (s:=s) (show k+1≤M+1 by omega)).length_le
    rw[oD,bD] at this
    rw[HSL.out];exact this))
   gi_wp2_with fail
   refine⟨trivial,(fun h=>by cases h),(callsIn_wide.2 (HCO.out wr)).mono ?_⟩
   rintro e w2 ⟨rfl,hb2⟩
   have c2:w2.cell? ⟨B,0,none⟩=some (.int .u16 s):=(hb2.cell (p:=⟨B,0,none⟩) (World.block_lt_of_cell? wr _ c0)).trans c0
   gi_wp2_with fail
   refine⟨trivial,(fun h=>by cases h),(HR.out _ w2 hb2).mono ?_⟩
   rintro e w3 (⟨rfl,hJ3,hk3⟩|⟨rfl,q,hq,hJx3⟩)
   ·gi_wp2
    go_roundw
    case rel=>exact⟨k+1,by omega,by go_num,by rw[oD];exact hJ3,hkeep.trans ((gm.of_below hb2).trans hk3)⟩
    case measure=>simp[intOf];omega
   ·gi_wp2
    go_end0
    rw[HJXD.out] at hJx3
    obtain⟨p,hp,hJx4⟩:=hJx3
    refine⟨⟨_,rfl⟩,Or.inr ⟨p,?_,hJx4⟩⟩
    rw[hp]
    have h9:=Gc (s:=s) (show k+1≤M+1 by omega)
    rw[oD] at h9
    rw[HSL.out]
    exact ((List.prefix_append_right_inj _).2 hq).trans h9
  ·have hkI:¬(k:Int)≤(M:Int):=by omega
   gi_wp2_with fail
   refine⟨trivial,(fun h=>by cases h),(callsIn_wide.2 (HCO.out wr)).mono ?_⟩
   rintro e w2 ⟨rfl,hb2⟩
   gi_wp2
   refine⟨trivial,?_⟩
   gi_wp2
   go_end0
   obtain rfl:k=M+1:=by omega
   have h9:=hJ2 _ _ _ hJ1 hb2
   rw[HJD.out] at h9
   obtain⟨p,hp,h9⟩:=h9
   exact⟨⟨_,rfl⟩,Or.inl ⟨p,by rw[hp,HSL.out],h9⟩⟩
theorem uh(n B C:Nat)(T U:TypeId)(S:Nat→Prop)(hSz:S 2)(s k:Nat)(hs:s<4096)(hk:k≤100)(w:World)(hz:Tz w)(hB:w.heap[B]?=some (.cells #[.int .u16 s] T (0,0)))(hC:w.heap[C]?=some (.cells #[.int .i64 k] U (0,0))):
  SeqStopsK Fence.wide n prog 177 #[.pointer (some ⟨B,0,none⟩),.pointer (some ⟨C,0,none⟩)] (fun x:U16=>#[Value.int .u16 (x.1:Nat)]) (gm S) (fun ys=>ys.map Subtype.val=fZ s k) (fun pre=>pre.map Subtype.val <+: fZ s k) (fZ s k).length w:=by
 intro l J0 Jx0 W hW hJ hJx hY0 h00
 have h0:OnU J0 [] W:=⟨[],rfl,h00⟩
 have hWB:W.heap[B]?=some (.cells #[.int .u16 s] T (0,0)):=(hW.block B (jS hB)).trans hB
 have hWC:W.heap[C]?=some (.cells #[.int .i64 k] U (0,0)):=(hW.block C (jS hC)).trans hC
 have hWz:Tz W:=hz.below hW (aP _)
 have hJ2:∀pre A B,OnU J0 pre A→Below A.heap.size A B→OnU J0 pre B:=fun pre A B h hb=>by
  obtain⟨p,hp,h⟩:=h
  exact⟨p,hp,hJ p A B none h (aM hb) (fun r e=>by cases e)⟩
 have hY:=OnU.yield hY0
 obtain⟨J,hJd⟩:=kE (OnU J0)
 obtain⟨Jx,hJxd⟩:=kE (OnU Jx0)
 rw[←hJd] at h0 hJ2 hY
 rw[←hJxd] at hY
 have HJD:=jI hJd
 have HJXD:=jI hJxd
 clear hJd hJxd hY0 h00
 have HCH:=jI (fun m=>DT l (fZ s k).length S hSz J Jx hJ2 hY s k hs hk m [] W hWz h0 (by simp))
 have c0:W.cell? ⟨B,0,none⟩=some (.int .u16 s):=j5 W B 0 _ _ _ hWB
 have c1:W.cell? ⟨C,0,none⟩=some (.int .i64 k):=j5 W C 0 _ _ _ hWC
 clear hJ hJx hY
 refine callsIn_of_wp func177 rfl trivial ?_ rfl
 simp only[ntmps177,List.size_toArray,fM,List.length_nil,Nat.reduceAdd,Nat.reduceSub,Array.replicate_succ,Array.replicate_zero,List.push_toArray,List.append_toArray,List.nil_append,List.cons_append]
 gi_wp2_with fail
 refine⟨trivial,(fun h=>by cases h),(HCH.out _).mono ?_⟩
 rintro e w3 (⟨rfl,hJ3,hk3⟩|⟨rfl,q,hq,hJx3⟩)
 ·gi_wp2
  go_end0
  rw[HJD.out] at hJ3
  obtain⟨p,hp,h9⟩:=hJ3
  exact⟨⟨_,rfl⟩,Or.inl ⟨p,by simpa using hp,h9⟩⟩
 ·gi_wp2
  go_end0
  rw[HJXD.out] at hJx3
  obtain⟨p,hp,h9⟩:=hJx3
  exact⟨⟨_,rfl⟩,Or.inr ⟨p,by rw[hp];simpa using hq,h9⟩⟩
end
section
open Go.RowKit
open _root_.Go.Proofs.Tryz
theorem nI{α:Type}(l:List α)(i:Nat)(h:i<l.length):l.take (i+1)=l.take i++[l[i]]:=by
 rw[cO h]
def uw(a b:Nat):Nat:=a&&&(65535-b)
theorem oP(a b:Nat)(ha:a<65536)(hb:b<65536):bits .andNot .u16 (a:Int) (b:Int)=((uw a b:Nat):Int):=by
 have e1:(BitVec.ofInt 16 (a:Int)).toNat=a:=by rw[BitVec.toNat_ofInt];omega
 have e2:(BitVec.ofInt 16 (b:Int)).toNat=b:=by rw[BitVec.toNat_ofInt];omega
 show IntKind.u16.wrap _=_
 have e3:(BitVec.ofInt 16 (a:Int)&&&~~~ BitVec.ofInt 16 (b:Int)).toNat=uw a b:=by
  rw[BitVec.toNat_and,BitVec.toNat_not,e1,e2];rfl
 have e4:uw a b<65536:=fG Nat.and_le_left ha
 show ((BitVec.ofInt 16 (a:Int)&&&~~~ BitVec.ofInt 16 (b:Int)).toNat:Int) % 65536=_
 rw[e3]
 omega
theorem CF(a b i:Nat)(ha:a<65536)(hb:b<65536):(uw a b).testBit i=(a.testBit i&&!b.testBit i):=by
 unfold uw
 rw[Nat.testBit_and]
 by_cases h:i<16
 ·rw[show 65535-b=2^16-(b+1) by omega,Nat.testBit_two_pow_sub_succ (by omega:b<2^16)]
  simp[h]
 ·have:a.testBit i=false:=Nat.testBit_lt_two_pow (bZ ha (Nat.pow_le_pow_right (n:=2) (i:=16) (by decide) (by omega)))
  rw[this];simp
theorem mo(a b:Nat)(ha:a<65536)(hb:b<65536):(uw a b=0)↔a&&&b=a:=by
 constructor
 ·intro h
  apply Nat.eq_of_testBit_eq
  intro i
  have h1:=CF a b i ha hb
  rw[h,Nat.zero_testBit] at h1
  rw[Nat.testBit_and]
  revert h1
  cases a.testBit i<;>cases b.testBit i<;>simp
 ·intro h
  apply Nat.eq_of_testBit_eq
  intro i
  rw[CF a b i ha hb,Nat.zero_testBit]
  have h1:(a&&&b).testBit i=a.testBit i:=by rw[h]
  rw[Nat.testBit_and] at h1
  revert h1
  cases a.testBit i<;>cases b.testBit i<;>simp
theorem GZ(a b:Nat)(ha:a<65536)(hb:b<65536)(w:World):
  Calls prog 176 #[.int .u16 a,.int .u16 b] w fun e w'=>e=.returned (.bool (decide (b&&&a=b)))∧w'=w:=by
 go_enter func176,ntmps176
 go_wp2
 go_ret
 refine⟨?_,rfl⟩
 show Ending.returned (.bool (bits .andNot .u16 (b:Int) (a:Int)==0))=_
 rw[oP b a hb ha]
 congr 2
 rw[Bool.eq_iff_iff,decide_eq_true_iff,←mo b a hb ha]
 simp only[beq_iff_eq]
 omega
theorem acc1_any(a b:Nat)(ha:a<65536)(hb:b<65536)(B:Nat)(w:World)(hB:w.cell? ⟨B,0,none⟩=some (.int .u16 a)):
  Calls prog 175 #[.int .u16 b,.pointer (some ⟨B,0,none⟩)] w fun e w'=>e=.returned (.bool (decide (b&&&a=b)))∧Below w.heap.size w w':=by
 have HC:=jI (GZ a b ha hb w)
 go_enter func175,ntmps175
 go_wp2_with fail
 refine HC.out.mono ?_
 rintro e w' ⟨rfl,rfl⟩
 go_wp2
 go_ret
 exact⟨rfl,jQ _ _⟩
theorem acc_any(f:List Nat)(s:Nat)(hf:∀x∈f,x<65536)(hs:s<65536)(A:Option Addr)(c:Nat)(w:World)(S:Nat→Prop)(hl:ak w S 1 A f.length (dH f))(hS:∀g,S g→g<w.heap.size)(hlim:f.length≤100000000000):
  Calls prog 139 #[.slice A f.length c,.int .u16 s] w fun e w'=>e=.returned (.bool (accepts f s))∧Below w.heap.size w w':=by
 obtain⟨W0,hW0⟩:=kE (w.alloc (.cells #[.int .u16 s] 28))
 have hb0:Below w.heap.size w W0:=by rw[hW0];exact (jQ _ _).alloc (aP _) _
 have hB0:W0.heap[w.heap.size]?=some (.cells #[.int .u16 s] 28 (0,0)):=by rw[hW0];exact jR _ _
 have HC:=jI (cx_set f S A c W0 (hl.keep (aj hb0 hS)) (fun g hg=>by have:=hS g hg;have:=hb0.size;omega) (by omega) 175 (enters_of func175 (by kernel_rfl) rfl) (.pointer (some ⟨w.heap.size,0,none⟩)) (fun x=>decide (x&&&s=x))
  (fun x hx v W hv hb=>by
   subst hv
   exact acc1_any s x hs (hf x hx) w.heap.size W (j5 W _ 0 _ _ _ ((hb.block _ (jS hB0)).trans hB0))))
 have H0:=jI hW0
 clear hW0 hl hB0
 go_enter func139,ntmps139
 go_wp2_with fail
 rw[←H0.out]
 refine HC.out.mono ?_
 rintro e w' ⟨rfl,hb⟩
 go_wp2
 go_ret
 exact⟨rfl,hb0.trans (hb.mono hb0.size)⟩
theorem tH(l:List Nat)(x:Nat):dY (l++[x])=dY l|||x:=by
 unfold dY
 rw[List.foldl_append,List.foldl_cons,List.foldl_nil]
theorem iY{l:List Nat}{k:Nat}(h:∀x∈l,x<2^k):dY l<2^k:=by
 have key:∀(l:List Nat)(a:Nat),(∀x∈l,x<2^k)→a<2^k→l.foldl (·|||·) a<2^k:=by
  intro l
  induction l with
  |nil=>intro a _ h;exact h
  |cons x r ih=>intro a hx ha;exact ih _ (fun y hy=>hx y (List.mem_cons_of_mem _ hy)) (Nat.or_lt_two_pow ha (hx x fO))
 exact key l 0 h (Nat.pow_pos (by decide))
theorem qc(l:List Nat)(j:Nat)(h:j<l.length):(dH l)[j]?=some (.int .u16 (l[j]:Nat)):=by
 unfold dH
 rw[List.getElem?_map,dD h];rfl
theorem mM(f:List Nat)(hf:∀x∈f,x<65536)(A:Option Addr)(c:Nat)(w:World)(S:Nat→Prop)(hl:ak w S 1 A f.length (dH f))(hS:∀g,S g→g<w.heap.size)(hlim:f.length≤100000000000):
  Calls prog 76 #[.slice A f.length c] w fun e w'=>e=.returned (.int .u16 (dY f:Nat))∧w'=w:=by
 have HL:=jI hl
 obtain⟨r,hr⟩:=kE (dY f)
 rw[←hr]
 have HR:=jI hr
 obtain⟨N,hN⟩:=kE f.length
 have HN:=jI hN
 rw[←hN] at hlim ⊢
 clear hl hr hN
 go_enter func76,ntmps76
 go_wp2
 go_loopw [3,8] (fun y x wr=>∃k:Nat,k≤N∧x=.int .i64 k∧y=.int .u16 (dY (f.take k):Nat)∧wr=w) (fun _ x _=>N-(intOf x).toNat)
 case atStart=>exact⟨0,cu _,rfl,rfl,rfl⟩
 case round=>
  obtain⟨k,hk,rfl,rfl,rfl⟩:=hrel
  obtain⟨q,hq⟩:=kE (dY (f.take k))
  have hqlt:q<65536:=by rw[hq];exact iY (k:=16) (fun x hx=>hf x (fF hx))
  rw[←hq]
  by_cases hlt:k<N
  ·have hlt2:k<f.length:=by rw[←HN.out];exact hlt
   obtain⟨g,o,rfl,hSg,hc⟩:=HL.out.cells (by omega)
   have c0:=hc k _ (qc f k hlt2)
   have hgs:=hS g hSg
   have hx:=hf f[k] (bQ hlt2)
   have hsn:=tH (f.take k) f[k]
   rw[←nI f k hlt2,←hq] at hsn
   obtain⟨x,hx9⟩:=kE (f[k])
   rw[←hx9] at c0 hx hsn
   have HS9:=jI hsn
   have hob:=u16_or_nat q x hqlt hx
   have hkI:(k:Int)<(N:Int):=by omega
   have hk0:(0:Int)≤(k:Int):=by omega
   clear hq hx9 hsn hlt2 hc
   go_wp2
   go_roundw
   case rel=>exact⟨k+1,by omega,by go_num,by rw[HS9.out],trivial⟩
   case measure=>simp[intOf];omega
  ·obtain rfl:k=N:=by omega
   have hkI:¬(k:Int)<(k:Int):=by omega
   have HE:=jI (show q=r by rw[hq,HR.out,HN.out,List.take_length])
   clear hq
   go_wp2
   go_ret
   exact⟨by rw[←HE.out];rfl,rfl⟩
theorem subsF_any(s:Nat)(w:World):
  Calls prog 136 #[.int .u16 s] w fun e w'=>e=.returned (.func (.func 171) #[] #[.pointer (some ⟨w.heap.size,0,none⟩)])∧w'=w.alloc (.cells #[.int .u16 s] 28):=by
 go_enter func136,ntmps136
 go_wp2
 go_ret
 exact⟨rfl,rfl⟩
theorem xH(s:Nat)(k:Int)(w:World):
  Calls prog 140 #[.int .u16 s,.int .i64 k] w fun e w'=>e=.returned (.func (.func 177) #[] #[.pointer (some ⟨w.heap.size,0,none⟩),.pointer (some ⟨w.heap.size+1,0,none⟩)])∧w'=(w.alloc (.cells #[.int .u16 s] 28)).alloc (.cells #[.int .i64 k] 3):=by
 go_enter func140,ntmps140
 go_wp2
 go_ret
 refine⟨?_,?_⟩<;>first|rfl|simp
end
end Go.Proofs.YtmohibkomlhlaaaGreatDoor
