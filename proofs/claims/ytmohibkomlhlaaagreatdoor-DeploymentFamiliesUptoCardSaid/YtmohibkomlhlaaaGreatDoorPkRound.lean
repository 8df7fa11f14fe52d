/- Texts as lists of pieces (words, numbers, symbols, gaps): well-separated pieces are read as their tokens. No condition. The texts of valid terms, faults and declarations as well-separated pieces. No condition. The plain parser reads the tokens of a valid term's text as the term. No condition. The plain parser reads the tokens of valid Bp texts as the declarations, apart from the lines. No condition. The plain parser reads the tokens of valid Bp texts as the declarations, apart from the lines: names, faults, declarations. No condition. The plain parser reads the text of valid declarations as the declarations, apart from the lines. No condition. -/
import Derived.Test.YtmohibkomlhlaaaGreatDoorPkPlain
namespace Go.Proofs.YtmohibkomlhlaaaGreatDoor
section
inductive Pc where
 |word (b:List UInt8)
 |int (n:Int)
 |sym (c:UInt8)
 |gap (g:List UInt8)
def Pc.bytes:Pc→List UInt8
 |.word b=>b
 |.int n=>Lib.itoa n
 |.sym c=>[c]
 |.gap g=>g
def wordTok(b:List UInt8):Tok:=⟨1,bs b,0,bs []⟩
def intTok(n:Int):Tok:=⟨2,bs [],n.toNat,bs []⟩
def symTok(c:UInt8):Tok:=⟨4,bs [c],0,bs []⟩
def Pc.toks:Pc→List Tok
 |.word b=>[wordTok b]
 |.int n=>[intTok n]
 |.sym c=>[symTok c]
 |.gap _=>[]
def Pc.solid:Pc→Bool
 |.word _=>true
 |.int _=>true
 |.sym _=>false
 |.gap _=>false
def toksOf(l:List Pc):List Tok:=l.flatMap Pc.toks
def GapOk(g:List UInt8):Prop:=(∃c r,g=c::r∧iJ c.toNat=false)∧∀rest line acc,∃line',lex (g++rest) line acc=lex rest line' acc
def Pc.ok:Pc→Prop
 |.word b=>kR b=true
 |.int n=>small n=true
 |.sym c=>c∈syms∧c≠47
 |.gap g=>GapOk g
def sepd:Bool→List Pc→Bool
 |_,[]=>true
 |b,x::r=>!(b&&x.solid)&&sepd x.solid r
def ends:Bool→List Pc→Bool
 |b,[]=>b
 |_,x::r=>ends x.solid r
theorem vR(l m:List Pc):∀b,sepd b (l++m)=(sepd b l&&sepd (ends b l) m):=by
 induction l with
 |nil=>intro b;simp[sepd,ends]
 |cons x r ih=>intro b;simp[sepd,ends,ih,Bool.and_assoc]
theorem gap_white(l:List UInt8)(h:∀c∈l,gG c.toNat=true)(rest:List UInt8):∀(line:Nat)(acc:List (Tok × Nat)),∃line',lex (l++rest) line acc=lex rest line' acc:=by
 induction l with
 |nil=>intro line acc;exact⟨line,rfl⟩
 |cons c r ih=>
  intro line acc
  obtain⟨l',e⟩:=ih (fun d hd=>h d (by simp[hd])) (if c=10 then line+1 else line) acc
  exact⟨l',by rw[List.cons_append,CB c _ _ _ (h c (by simp)),e]⟩
theorem gap_space:GapOk [32]:=⟨⟨_,_,rfl,by decide⟩,gap_white [32] (by decide)⟩
end
section
def parP(ops:List Int)(t:Tm)(x:List Pc):List Pc:=if ops.contains t.op then [.sym 40]++x++[.sym 41] else x
def joinP(l:List (List Pc))(sep:List Pc):List Pc:=match l with
 |[]=>[]
 |x::r=>x++r.flatMap (sep++·)
def weighedP(ws:List Int)(l:List (List Pc)):List (List Pc):=if ws.length=0 then l else List.zipWith (fun x w=>x++[.sym 42,.int w]) l ws
def andSep:List Pc:=[.gap [32],.sym 38,.gap [32]]
def orSep:List Pc:=[.gap [32],.sym 124,.gap [32]]
def comSep:List Pc:=[.sym 44,.gap [32]]
def headP(t:Tm)(l:List (List Pc)):List Pc:=
 if t.op=3 then joinP (List.zipWith (parP [3,4]) t.kids l) andSep
 else if t.op=4 then joinP (List.zipWith (parP [4]) t.kids l) orSep
 else if t.op=5 then [.word [100,117,97,108],.sym 40]++l.headD []++[.sym 41]
 else if t.op=6 then [.word [109,97,106,111,114,105,116,121],.sym 40,.word t.name.data.toList,.sym 41]
 else if t.op=7 then [.word [97,108,108],.sym 40,.word t.name.data.toList,.sym 41]
 else if t.op=8 then [.word [97,110,121],.sym 40,.word t.name.data.toList,.sym 41]
 else if t.op=2 then [.int t.need,.sym 40]++joinP (weighedP t.ws l) comSep++[.sym 41]
 else [.word t.name.data.toList]
mutual
def tmPcs:Tm→List Pc
 |.mk op name need ws kids=>headP (.mk op name need ws kids) (tmsPcs kids)
def tmsPcs:List Tm→List (List Pc)
 |[]=>[]
 |t::r=>tmPcs t::tmsPcs r
end
def zP(l:List Pc):Prop:=sepd false l=true∧∀x∈l,x.ok
theorem zP.nil:zP []:=⟨rfl,fun x h=>by simp at h⟩
theorem yV{a b:List Pc}(ha:∀x∈a,x.ok)(hb:∀x∈b,x.ok):∀x∈a++b,x.ok:=fun x hx=>by
 rcases List.mem_append.1 hx with h|h
 ·exact ha x h
 ·exact hb x h
theorem zP.behind{a b:List Pc}(ha:zP a)(hb:zP b)(he:ends false a=false):zP (a++b):=
 ⟨by rw[vR,ha.1,he,hb.1];rfl,yV ha.2 hb.2⟩
theorem zP.ahead{a b:List Pc}(ha:zP a)(hb:zP b)(hs:∀c,sepd c b=true):zP (a++b):=
 ⟨by rw[vR,ha.1,hs];rfl,yV ha.2 hb.2⟩
theorem neat_sym{c:UInt8}(h:c∈syms∧c≠47:=by decide):zP [.sym c]:=⟨rfl,fun x hx=>by simp at hx;subst hx;exact h⟩
theorem Iq:zP [.gap [32]]:=⟨rfl,fun x hx=>by simp at hx;subst hx;exact gap_space⟩
theorem zP.sym{c:UInt8}{b:List Pc}(hb:zP b)(h:c∈syms∧c≠47:=by decide):zP (.sym c::b):=zP.behind (a:=[.sym c]) (neat_sym h) hb rfl
theorem zP.gap{b:List Pc}(hb:zP b):zP (.gap [32]::b):=zP.behind (a:=[.gap [32]]) Iq hb rfl
end
section
def here(L:cB)(p:Nat):List Tok:=(L.drop p).map (·.1)
def RdT(L:cB)(part:St→Tm × St)(ts:List Tok)(fol:List Tok→Prop)(t:Tm):Prop:=∀p r,here L p=ts++r→fol r→part ⟨p,0⟩=(t,⟨p+ts.length,0⟩)
def tt(t:Tm):List Tok:=toksOf (tmPcs t)
theorem RdT.mono{L:cB}{part:St→Tm × St}{ts:List Tok}{fol fol':List Tok→Prop}{t:Tm}(h:RdT L part ts fol t)(hf:∀r,fol' r→fol r):RdT L part ts fol' t:=fun p r hh hr=>h p r hh (hf r hr)
def lb:Tok:=symTok 123
def rb:Tok:=symTok 125
end
end Go.Proofs.YtmohibkomlhlaaaGreatDoor
