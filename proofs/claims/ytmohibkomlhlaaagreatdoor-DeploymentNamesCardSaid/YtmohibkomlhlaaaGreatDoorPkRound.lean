/- Texts as lists of pieces (words, numbers, symbols, gaps): well-separated pieces are read as their tokens. No condition. The texts of valid terms, faults and declarations as well-separated pieces. No condition. The plain parser reads the tokens of a valid term's text as the term. No condition. The plain parser reads the tokens of valid zw texts as the declarations, apart from the lines. No condition. The plain parser reads the tokens of valid zw texts as the declarations, apart from the lines: names, faults, declarations. No condition. The plain parser reads the text of valid declarations as the declarations, apart from the lines. No condition. -/
import Derived.Test.YtmohibkomlhlaaaGreatDoorPkPlain
namespace Go.Proofs.YtmohibkomlhlaaaGreatDoor
inductive Pc where
 |word (b : List UInt8)
 |int (n : Int)
 |sym (c : UInt8)
 |gap (g : List UInt8)
def Pc.bytes : Pc → List UInt8
 |.word b => b
 |.int n => Lib.itoa n
 |.sym c => [c]
 |.gap g => g
def wordTok (b : List UInt8) : Tok := ⟨1, bs b, 0, bs []⟩
def intTok (n : Int) : Tok := ⟨2, bs [], n.toNat, bs []⟩
def symTok (c : UInt8) : Tok := ⟨4, bs [c], 0, bs []⟩
def Pc.toks : Pc → List Tok
 |.word b => [wordTok b]
 |.int n => [intTok n]
 |.sym c => [symTok c]
 |.gap _ => []
def Pc.solid : Pc → Bool
 |.word _ => true
 |.int _ => true
 |.sym _ => false
 |.gap _ => false
def GapOk (g : List UInt8) : Prop := (∃ c r, g = c :: r ∧ gV c.toNat = false) ∧ ∀ rest line acc, ∃ line', lex (g ++ rest) line acc = lex rest line' acc
def Pc.ok : Pc → Prop
 |.word b => jW b = true
 |.int n => small n = true
 |.sym c => c ∈ syms ∧ c ≠ 47
 |.gap g => GapOk g
def sepd : Bool → List Pc → Bool
 |_, [] => true
 |b, x :: r => !(b && x.solid) && sepd x.solid r
def ends : Bool → List Pc → Bool
 |b, [] => b
 |_, x :: r => ends x.solid r
theorem Cy (l m : List Pc) : ∀ b, sepd b (l ++ m) = (sepd b l && sepd (ends b l) m) := by
 induction l with
 |nil => intro b; simp [sepd, ends]
 |cons x r ih => intro b; simp [sepd, ends, ih, Bool.and_assoc]
theorem gap_white (l : List UInt8) (h : ∀ c ∈ l, fP c.toNat = true) (rest : List UInt8) : ∀ (line : Nat) (acc : List (Tok × Nat)), ∃ line', lex (l ++ rest) line acc = lex rest line' acc := by
 induction l with
 |nil => intro line acc; exact ⟨line, rfl⟩
 |cons c r ih =>
  intro line acc
  obtain ⟨l', e⟩ := ih (fun d hd => h d (by simp [hd])) (if c = 10 then line + 1 else line) acc
  exact ⟨l', by rw [List.cons_append, AJ c _ _ _ (h c (by simp)), e]⟩
theorem gap_space : GapOk [32] := ⟨⟨_, _, rfl, by decide⟩, gap_white [32] (by decide)⟩
def Cc (l : List Pc) : Prop := sepd false l = true ∧ ∀ x ∈ l, x.ok
theorem Cc.nil : Cc [] := ⟨rfl, fun x h => by simp at h⟩
theorem FN {a b : List Pc} (ha : ∀ x ∈ a, x.ok) (hb : ∀ x ∈ b, x.ok) : ∀ x ∈ a ++ b, x.ok := fun x hx => by
 rcases List.mem_append.1 hx with h | h
 ·exact ha x h
 ·exact hb x h
theorem Cc.behind {a b : List Pc} (ha : Cc a) (hb : Cc b) (he : ends false a = false) : Cc (a ++ b) :=
 ⟨by rw [Cy, ha.1, he, hb.1]; rfl, FN ha.2 hb.2⟩
theorem neat_sym {c : UInt8} (h : c ∈ syms ∧ c ≠ 47 := by decide) : Cc [.sym c] := ⟨rfl, fun x hx => by simp at hx; subst hx; exact h⟩
theorem FV : Cc [.gap [32]] := ⟨rfl, fun x hx => by simp at hx; subst hx; exact gap_space⟩
theorem Cc.sym {c : UInt8} {b : List Pc} (hb : Cc b) (h : c ∈ syms ∧ c ≠ 47 := by decide) : Cc (.sym c :: b) := Cc.behind (a := [.sym c]) (neat_sym h) hb rfl
theorem Cc.gap {b : List Pc} (hb : Cc b) : Cc (.gap [32] :: b) := Cc.behind (a := [.gap [32]]) FV hb rfl
def here (L : bV) (p : Nat) : List Tok := (L.drop p).map (·.1)
def RdT (L : bV) (part : St → Tm × St) (ts : List Tok) (fol : List Tok → Prop) (t : Tm) : Prop := ∀ p r, here L p = ts ++ r → fol r → part ⟨p, 0⟩ = (t, ⟨p + ts.length, 0⟩)
theorem RdT.mono {L : bV} {part : St → Tm × St} {ts : List Tok} {fol fol' : List Tok → Prop} {t : Tm} (h : RdT L part ts fol t) (hf : ∀ r, fol' r → fol r) : RdT L part ts fol' t := fun p r hh hr => h p r hh (hf r hr)
def lb : Tok := symTok 123
end Go.Proofs.YtmohibkomlhlaaaGreatDoor
