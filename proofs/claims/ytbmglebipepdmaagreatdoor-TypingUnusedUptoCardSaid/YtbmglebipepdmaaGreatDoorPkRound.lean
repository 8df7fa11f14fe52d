/- Texts as lists of pieces (words, numbers, symbols, gaps): well-separated pieces are read as their tokens. No condition. The texts of valid terms, faults and declarations as well-separated pieces. No condition. The plain parser reads the tokens of a valid term's text as the term. No condition. The plain parser reads the tokens of valid vQ texts as the declarations, apart from the lines. No condition. The plain parser reads the tokens of valid vQ texts as the declarations, apart from the lines: names, faults, declarations. No condition. The plain parser reads the text of valid declarations as the declarations, apart from the lines. No condition. -/
import Derived.Test.YtbmglebipepdmaaGreatDoorPkPlain
namespace Go.Proofs.YtbmglebipepdmaaGreatDoor

inductive Pc where
  | word (b : List UInt8)
  | int (n : Int)
  | sym (c : UInt8)
  | gap (g : List UInt8)
def Pc.bytes : Pc → List UInt8
  | .word b => b
  | .int n => Lib.itoa n
  | .sym c => [c]
  | .gap g => g
def aC (b : List UInt8) : Tok := ⟨1, bs b, 0, bs []⟩
def iY (n : Int) : Tok := ⟨2, bs [], n.toNat, bs []⟩
def iU (c : UInt8) : Tok := ⟨4, bs [c], 0, bs []⟩
def Pc.toks : Pc → List Tok
  | .word b => [aC b]
  | .int n => [iY n]
  | .sym c => [iU c]
  | .gap _ => []
def Pc.yI : Pc → Bool
  | .word _ => true
  | .int _ => true
  | .sym _ => false
  | .gap _ => false
def aJ (l : List Pc) : List Tok := l.flatMap Pc.toks
/-- A gap: it begins with a byte that ends a word, and is passed over. -/
def GapOk (g : List UInt8) : Prop := (∃ c r, g = c :: r ∧ bZ c.toNat = false) ∧ ∀ rest line acc, ∃ line', lex (g ++ rest) line acc = lex rest line' acc
def Pc.ok : Pc → Prop
  | .word b => dZ b = true
  | .int n => small n = true
  | .sym c => c ∈ En ∧ c ≠ 47
  | .gap g => GapOk g
/-- No two words or numbers stand side by side. -/
def qQ : Bool → List Pc → Bool
  | _, [] => true
  | b, x :: r => !(b && x.yI) && qQ x.yI r
def ends : Bool → List Pc → Bool
  | b, [] => b
  | _, x :: r => ends x.yI r
theorem pY (l m : List Pc) : ∀ b, qQ b (l ++ m) = (qQ b l && qQ (ends b l) m) := by
  induction l with
  | nil => intro b; simp [qQ, ends]
  | cons x r ih => intro b; simp [qQ, ends, ih, Bool.and_assoc]
theorem Fj (l : List UInt8) (h : ∀ c ∈ l, fI c.toNat = true) (rest : List UInt8) : ∀ (line : Nat) (acc : List (Tok × Nat)), ∃ line', lex (l ++ rest) line acc = lex rest line' acc := by
  induction l with
  | nil => intro line acc; exact ⟨line, rfl⟩
  | cons c r ih =>
    intro line acc
    obtain ⟨l', e⟩ := ih (fun d hd => h d (by simp [hd])) (if c = 10 then line + 1 else line) acc
    exact ⟨l', by rw [List.cons_append, qX c _ _ _ (h c (by simp)), e]⟩
theorem Fp : GapOk [32] := ⟨⟨_, _, rfl, by decide⟩, Fj [32] (by decide)⟩
end Go.Proofs.YtbmglebipepdmaaGreatDoor
namespace Go.Proofs.YtbmglebipepdmaaGreatDoor

def mM (ops : List Int) (t : Tm) (x : List Pc) : List Pc := if ops.contains t.op then [.sym 40] ++ x ++ [.sym 41] else x
def kJ (l : List (List Pc)) (sep : List Pc) : List Pc := match l with
  | [] => []
  | x :: r => x ++ r.flatMap (sep ++ ·)
def iq (ws : List Int) (l : List (List Pc)) : List (List Pc) := if ws.length = 0 then l else List.zipWith (fun x w => x ++ [.sym 42, .int w]) l ws
def xH : List Pc := [.gap [32], .sym 38, .gap [32]]
def qR : List Pc := [.gap [32], .sym 124, .gap [32]]
def qD : List Pc := [.sym 44, .gap [32]]
def Lc (t : Tm) (l : List (List Pc)) : List Pc :=
  if t.op = 3 then kJ (List.zipWith (mM [3, 4]) t.kids l) xH
  else if t.op = 4 then kJ (List.zipWith (mM [4]) t.kids l) qR
  else if t.op = 5 then [.word [100, 117, 97, 108], .sym 40] ++ l.headD [] ++ [.sym 41]
  else if t.op = 6 then [.word [109, 97, 106, 111, 114, 105, 116, 121], .sym 40, .word t.name.data.toList, .sym 41]
  else if t.op = 7 then [.word [97, 108, 108], .sym 40, .word t.name.data.toList, .sym 41]
  else if t.op = 8 then [.word [97, 110, 121], .sym 40, .word t.name.data.toList, .sym 41]
  else if t.op = 2 then [.int t.need, .sym 40] ++ kJ (iq t.ws l) qD ++ [.sym 41]
  else [.word t.name.data.toList]
mutual
def dz : Tm → List Pc
  | .mk op name need ws kids => Lc (.mk op name need ws kids) (Jj kids)
def Jj : List Tm → List (List Pc)
  | [] => []
  | t :: r => dz t :: Jj r
end
/-- Pieces of which each is in order, well separated. -/
def dJ (l : List Pc) : Prop := qQ false l = true ∧ ∀ x ∈ l, x.ok
theorem dJ.nil : dJ [] := ⟨rfl, fun x h => by simp at h⟩
theorem Bj {a b : List Pc} (ha : ∀ x ∈ a, x.ok) (hb : ∀ x ∈ b, x.ok) : ∀ x ∈ a ++ b, x.ok := fun x hx => by
  rcases List.mem_append.1 hx with h | h
  · exact ha x h
  · exact hb x h
/-- Behind a symbol or a gap. -/
theorem dJ.behind {a b : List Pc} (ha : dJ a) (hb : dJ b) (he : ends false a = false) : dJ (a ++ b) :=
  ⟨by rw [pY, ha.1, he, hb.1]; rfl, Bj ha.2 hb.2⟩
/-- Ahead of a symbol or a gap. -/
theorem dJ.ahead {a b : List Pc} (ha : dJ a) (hb : dJ b) (hs : ∀ c, qQ c b = true) : dJ (a ++ b) :=
  ⟨by rw [pY, ha.1, hs]; rfl, Bj ha.2 hb.2⟩
theorem iL {c : UInt8} (h : c ∈ En ∧ c ≠ 47 := by decide) : dJ [.sym c] := ⟨rfl, fun x hx => by simp at hx; subst hx; exact h⟩
theorem rW : dJ [.gap [32]] := ⟨rfl, fun x hx => by simp at hx; subst hx; exact Fp⟩
/-- A symbol ahead. -/
theorem dJ.sym {c : UInt8} {b : List Pc} (hb : dJ b) (h : c ∈ En ∧ c ≠ 47 := by decide) : dJ (.sym c :: b) := dJ.behind (a := [.sym c]) (iL h) hb rfl
theorem dJ.gap {b : List Pc} (hb : dJ b) : dJ (.gap [32] :: b) := dJ.behind (a := [.gap [32]]) rW hb rfl
end Go.Proofs.YtbmglebipepdmaaGreatDoor
namespace Go.Proofs.YtbmglebipepdmaaGreatDoor

def here (L : aU) (p : Nat) : List Tok := (L.drop p).map (·.1)
/-- A part reads some tokens as a term, if what follows allows it. -/
def RdT (L : aU) (part : St → Tm × St) (ts : List Tok) (fol : List Tok → Prop) (t : Tm) : Prop := ∀ p r, here L p = ts ++ r → fol r → part ⟨p, 0⟩ = (t, ⟨p + ts.length, 0⟩)

def tt (t : Tm) : List Tok := aJ (dz t)
theorem RdT.mono {L : aU} {part : St → Tm × St} {ts : List Tok} {fol fol' : List Tok → Prop} {t : Tm} (h : RdT L part ts fol t) (hf : ∀ r, fol' r → fol r) : RdT L part ts fol' t := fun p r hh hr => h p r hh (hf r hr)
end Go.Proofs.YtbmglebipepdmaaGreatDoor
namespace Go.Proofs.YtbmglebipepdmaaGreatDoor

end Go.Proofs.YtbmglebipepdmaaGreatDoor
namespace Go.Proofs.YtbmglebipepdmaaGreatDoor

end Go.Proofs.YtbmglebipepdmaaGreatDoor
namespace Go.Proofs.YtbmglebipepdmaaGreatDoor

end Go.Proofs.YtbmglebipepdmaaGreatDoor
