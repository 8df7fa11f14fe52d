/- Plain facts about sets of up to 16 members, as numbers below 65536: the members in ascending order, the lowest member, and the set without it. No condition. -/
namespace Go.Proofs.YtmohibkomlhlaaaGreatDoor
section
theorem aP:∀n:Nat,n≤n:=@Nat.le_refl
theorem bD:∀{α:Type _}{as bs:List α},(as++bs).length=as.length+bs.length:=@List.length_append
theorem bP:∀{α:Type _}[BEq α][LawfulBEq α]{a b:α},(a==b)=false↔a≠b:=@beq_eq_false_iff_ne
theorem bQ:∀{α:Type _}{l:List α}{n:Nat}(h:n<l.length),l[n]∈l:=@List.getElem_mem
theorem bZ:∀{n m k:Nat},n<m→m≤k→n<k:=@Nat.lt_of_lt_of_le
theorem cu:∀n:Nat,0≤n:=@Nat.zero_le
theorem cK:∀{n m k:Nat},n≤m→m≤k→n≤k:=@Nat.le_trans
theorem cO:∀{α:Type _}{i:Nat}{l:List α}(h:i<l.length),List.take (i+1) l=List.take i l++[l[i]]:=@List.take_succ_eq_append_getElem
theorem dD:∀{α:Type _}{l:List α}{i:Nat}(h:i<l.length),l[i]?=some l[i]:=@List.getElem?_eq_getElem
theorem dF:∀{n m:Nat},n<m→n≤m:=@Nat.le_of_lt
theorem dO:∀{α:Type _}{a:α}{as:List α}(bs:List α),a∈as→a∈as++bs:=@List.mem_append_left
theorem fE:∀{α:Type _}{i:Nat}{l:List α}(h:i<l.length),List.drop i l=l[i]::List.drop (i+1) l:=@List.drop_eq_getElem_cons
theorem fF:∀{α:Type _}{i:Nat}{a:α}{l:List α},a∈List.take i l→a∈l:=@List.mem_of_mem_take
theorem fG:∀{n m k:Nat},n≤m→m<k→n<k:=@Nat.lt_of_le_of_lt
theorem fH:∀{α:Type _}{i:Nat}{l:List α},(List.take i l).length=min i l.length:=@List.length_take
theorem fM:∀{α:Type _}{a:α}{as:List α},(a::as).length=as.length+1:=@List.length_cons
theorem fO:∀{α:Type _}{a:α}{l:List α},a∈a::l:=@List.mem_cons_self
theorem gD:∀n k:Nat,n≤n+k:=@Nat.le_add_right
theorem gL:∀{α:Type _}{l₁ l₂:List α}{i:Nat},i<l₁.length→(l₁++l₂)[i]?=l₁[i]?:=@List.getElem?_append_left
theorem gM:∀{α:Type _}{l₁ l₂:List α}{i:Nat},l₁.length≤i→(l₁++l₂)[i]?=l₂[i-l₁.length]?:=@List.getElem?_append_right
theorem kE{α:Sort _}(a:α):∃x,x=a:=⟨a,rfl⟩
end
section
def mem(s:Nat):List Nat:=(List.range 16).filter (fun i=>s.testBit i)
theorem odd_part(n:Nat):∀s,s≤n→s≠0→∃k m,s=2^k * (2 * m+1):=by
 induction n with
 |zero=>intro s h h0;omega
 |succ n ih=>
  intro s h h0
  by_cases e:s % 2=0
  ·obtain⟨k,m,hk⟩:=ih (s / 2) (by omega) (by omega)
   exact⟨k+1,m,by rw[Nat.pow_succ,Nat.mul_comm (2^k) 2,Nat.mul_assoc,←hk];omega⟩
  ·exact⟨0,s / 2,by simp;omega⟩
theorem wh(m i:Nat):(2 * m+1).testBit i=if i=0 then true else m.testBit (i-1):=by
 cases i with
 |zero=>simp[Nat.testBit_zero]
 |succ i=>simp[Nat.testBit_succ];congr 1;omega
theorem GI(m i:Nat):(2 * m).testBit i=if i=0 then false else m.testBit (i-1):=by
 cases i with
 |zero=>simp[Nat.testBit_zero]
 |succ i=>simp[Nat.testBit_succ]
theorem and_pred(k m:Nat):(2^k * (2 * m+1))&&&(2^k * (2 * m+1)-1)=2^k * (2 * m):=by
 have hp:0<2^k:=Nat.two_pow_pos k
 have e:2^k * (2 * m+1)-1=2^k * (2 * m)+(2^k-1):=by rw[Nat.mul_add];omega
 apply Nat.eq_of_testBit_eq
 intro i
 rw[Nat.testBit_and,e,Nat.testBit_two_pow_mul_add _ (by omega),Nat.testBit_two_pow_mul,Nat.testBit_two_pow_mul,wh,GI]
 by_cases h:i<k
 ·have:¬i≥k:=by omega
  simp[h,this]
 ·by_cases h2:i-k=0
  ·simp[h,h2]
  ·simp[h,h2]
theorem and_neg(k m:Nat)(h:2^k * (2 * m+1)<65536):(2^k * (2 * m+1))&&&(65536-2^k * (2 * m+1))=2^k:=by
 have hk:k<16:=by
  rcases Nat.lt_or_ge k 16 with h'|h'
  ·exact h'
  ·exfalso
   have h1:2^16≤2^k:=Nat.pow_le_pow_right (by decide) h'
   have h2:2^k * 1≤2^k * (2 * m+1):=Nat.mul_le_mul_left _ (by omega)
   omega
 have hp:0<2^k:=Nat.two_pow_pos k
 have e16:(65536:Nat)=2^k * (2 * 2^(15-k)):=by
  have h1:2 * 2^(15-k)=2^(15-k+1):=by rw[Nat.pow_succ];omega
  rw[h1,←Nat.pow_add,show k+(15-k+1)=16 by omega]
 have hm:m<2^(15-k):=by
  rw[e16] at h
  have:=Nat.lt_of_mul_lt_mul_left h
  omega
 have e:65536-2^k * (2 * m+1)=2^k * (2 * (2^(15-k)-(m+1))+1):=by
  rw[e16,←Nat.mul_sub];congr 1;omega
 rw[e]
 apply Nat.eq_of_testBit_eq
 intro i
 rw[Nat.testBit_and,Nat.testBit_two_pow_mul,Nat.testBit_two_pow_mul,wh,wh,Nat.testBit_two_pow,Nat.testBit_two_pow_sub_succ hm]
 by_cases h1:i≥k
 ·by_cases h2:i-k=0
  ·have:k=i:=by omega
   simp[this]
  ·have:¬k=i:=by omega
   simp[h2,this]
   intro _ hb _ _
   exact hb
 ·have:¬k=i:=by omega
  simp[h1,this]
theorem Dl(p q:Nat→Bool)(k:Nat)(hp:∀i,i<k→p i=false)(hk:p k=true)(hq:∀i,q i=(p i&&!(i==k))):
  ∀n,k<n→(List.range n).filter p=k::(List.range n).filter q:=by
 have hlow:∀n,n≤k→(List.range n).filter p=[]∧(List.range n).filter q=[]:=by
  intro n hn
  refine⟨List.filter_eq_nil_iff.2 ?_,List.filter_eq_nil_iff.2 ?_⟩
  ·intro i hi;rw[List.mem_range] at hi;simp[hp i (by omega)]
  ·intro i hi;rw[List.mem_range] at hi;simp[hq,hp i (by omega)]
 intro n
 induction n with
 |zero=>intro h;omega
 |succ n ih=>
  intro h
  rw[List.range_succ,List.filter_append,List.filter_append]
  by_cases e:n=k
  ·subst e
   rw[(hlow n (aP _)).1,(hlow n (aP _)).2]
   simp[hk,hq]
  ·rw[ih (by omega)]
   have:q n=p n:=by rw[hq];simp[e]
   simp[List.filter_cons,this]
def low(s:Nat):Nat:=(mem s).headD 0
theorem Cb(s:Nat)(h:s<65536)(h0:s≠0):low s<16∧s&&&(65536-s)=2^low s∧mem s=low s::mem (s&&&(s-1)):=by
 obtain⟨k,m,rfl⟩:=odd_part s s (aP _) h0
 have hk:k<16:=by
  rcases Nat.lt_or_ge k 16 with h'|h'
  ·exact h'
  ·exfalso
   have h1:2^16≤2^k:=Nat.pow_le_pow_right (by decide) h'
   have h2:2^k * 1≤2^k * (2 * m+1):=Nat.mul_le_mul_left _ (by omega)
   omega
 have hm:mem (2^k * (2 * m+1))=k::mem ((2^k * (2 * m+1))&&&(2^k * (2 * m+1)-1)):=by
  unfold mem
  refine Dl _ _ k ?_ ?_ ?_ 16 hk
  ·intro i hi
   have:¬i≥k:=by omega
   simp[Nat.testBit_two_pow_mul,this]
  ·simp[Nat.testBit_two_pow_mul,wh]
  ·intro i
   rw[and_pred,Nat.testBit_two_pow_mul,Nat.testBit_two_pow_mul,wh,GI]
   by_cases h1:i≥k
   ·by_cases h2:i-k=0
    ·have:i=k:=by omega
     simp[this]
    ·have:¬i=k:=by omega
     simp[h2,this]
   ·simp[h1]
 have hl:low (2^k * (2 * m+1))=k:=by unfold low;rw[hm];rfl
 rw[hl]
 exact⟨hk,and_neg k m h,hm⟩
theorem mem_zero:mem 0=[]:=by decide
theorem Iw(s:Nat):(mem s).length≤16:=by
 have:=List.length_filter_le (fun i=>s.testBit i) (List.range 16)
 simpa [mem] using this
theorem clear_lt(s:Nat)(h:s<65536):s&&&(s-1)<65536:=fG Nat.and_le_left h
def Iy(s k:Nat):List Nat:=(List.range k).filter (fun i=>s.testBit i)
theorem memTo_all(s:Nat):Iy s 16=mem s:=rfl
theorem oN(s k:Nat):Iy s (k+1)=Iy s k++(if s.testBit k then [k] else []):=by
 unfold Iy
 rw[List.range_succ,List.filter_append]
 by_cases h:s.testBit k<;>simp[h]
theorem Cy(s k:Nat):(Iy s k).length≤k:=by
 have:=List.length_filter_le (fun i=>s.testBit i) (List.range k)
 simpa [Iy] using this
theorem mK(s k:Nat):((s / 2^k)&&&1==1)=s.testBit k:=by
 rw[Nat.testBit_eq_decide_div_mod_eq,Nat.and_one_is_mod]
 rw[Bool.eq_iff_iff];simp
end
end Go.Proofs.YtmohibkomlhlaaaGreatDoor
