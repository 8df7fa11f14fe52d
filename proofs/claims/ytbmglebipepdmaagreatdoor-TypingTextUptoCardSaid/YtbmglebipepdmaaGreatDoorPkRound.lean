/- Texts as lists of pieces (words, numbers, symbols, gaps): well-separated pieces are read as their tokens. No condition. The texts of valid terms, faults and declarations as well-separated pieces. No condition. The plain parser reads the tokens of a valid term's text as the term. No condition. The plain parser reads the tokens of valid Cz texts as the declarations, apart from the lines. No condition. The plain parser reads the tokens of valid Cz texts as the declarations, apart from the lines: names, faults, declarations. No condition. The plain parser reads the text of valid declarations as the declarations, apart from the lines. No condition. -/
import Derived.Test.YtbmglebipepdmaaGreatDoorPkPlain
namespace Go.Proofs.YtbmglebipepdmaaGreatDoor

inductive Pc where
 |word (b : List UInt8)
 |int (n : Int)
 |sym (c : UInt8)
 |gap (g : List UInt8)
def Pc.bytes : Pc → List UInt8
 |.word b => b
 |.int n => Lib.itoa n
 |.sym c => [c]
 |.gap g => g
def aF (b : List UInt8) : Tok := ⟨1, bs b, 0, bs []⟩
def iE (n : Int) : Tok := ⟨2, bs [], n.toNat, bs []⟩
def iB (c : UInt8) : Tok := ⟨4, bs [c], 0, bs []⟩
def Pc.toks : Pc → List Tok
 |.word b => [aF b]
 |.int n => [iE n]
 |.sym c => [iB c]
 |.gap _ => []
def Pc.xD : Pc → Bool
 |.word _ => true
 |.int _ => true
 |.sym _ => false
 |.gap _ => false
def aK (l : List Pc) : List Tok := l.flatMap Pc.toks
def GapOk (g : List UInt8) : Prop := (∃ c r, g = c :: r ∧ bY c.toNat = false) ∧ ∀ rest line acc, ∃ line', lex (g ++ rest) line acc = lex rest line' acc
def Pc.ok : Pc → Prop
 |.word b => dN b = true
 |.int n => small n = true
 |.sym c => c ∈ Dr ∧ c ≠ 47
 |.gap g => GapOk g
def pY : Bool → List Pc → Bool
 |_, [] => true
 |b, x :: r => !(b && x.xD) && pY x.xD r
def ends : Bool → List Pc → Bool
 |b, [] => b
 |_, x :: r => ends x.xD r
theorem oU (l m : List Pc) : ∀ b, pY b (l ++ m) = (pY b l && pY (ends b l) m) := by
 induction l with
 |nil => intro b; simp [pY, ends]
 |cons x r ih => intro b; simp [pY, ends, ih, Bool.and_assoc]
theorem Ed (l : List UInt8) (h : ∀ c ∈ l, eT c.toNat = true) (rest : List UInt8) : ∀ (line : Nat) (acc : List (Tok × Nat)), ∃ line', lex (l ++ rest) line acc = lex rest line' acc := by
 induction l with
 |nil => intro line acc; exact ⟨line, rfl⟩
 |cons c r ih =>
  intro line acc
  obtain ⟨l', e⟩ := ih (fun d hd => h d (by simp [hd])) (if c = 10 then line + 1 else line) acc
  exact ⟨l', by rw [List.cons_append, qm c _ _ _ (h c (by simp)), e]⟩
theorem Ee : GapOk [32] := ⟨⟨_, _, rfl, by decide⟩, Ed [32] (by decide)⟩
end Go.Proofs.YtbmglebipepdmaaGreatDoor
namespace Go.Proofs.YtbmglebipepdmaaGreatDoor

def og (ops : List Int) (t : Tm) (x : List Pc) : List Pc := if ops.contains t.op then [.sym 40] ++ x ++ [.sym 41] else x
def nQ (l : List (List Pc)) (sep : List Pc) : List Pc := match l with
 |[] => []
 |x :: r => x ++ r.flatMap (sep ++ ·)
def jw (ws : List Int) (l : List (List Pc)) : List (List Pc) := if ws.length = 0 then l else List.zipWith (fun x w => x ++ [.sym 42, .int w]) l ws
def yX : List Pc := [.gap [32], .sym 38, .gap [32]]
def um : List Pc := [.gap [32], .sym 124, .gap [32]]
def rW : List Pc := [.sym 44, .gap [32]]
def headP (t : Tm) (l : List (List Pc)) : List Pc :=
 if t.op = 3 then nQ (List.zipWith (og [3, 4]) t.kids l) yX
 else if t.op = 4 then nQ (List.zipWith (og [4]) t.kids l) um
 else if t.op = 5 then [.word [100, 117, 97, 108], .sym 40] ++ l.headD [] ++ [.sym 41]
 else if t.op = 6 then [.word [109, 97, 106, 111, 114, 105, 116, 121], .sym 40, .word t.name.data.toList, .sym 41]
 else if t.op = 7 then [.word [97, 108, 108], .sym 40, .word t.name.data.toList, .sym 41]
 else if t.op = 8 then [.word [97, 110, 121], .sym 40, .word t.name.data.toList, .sym 41]
 else if t.op = 2 then [.int t.need, .sym 40] ++ nQ (jw t.ws l) rW ++ [.sym 41]
 else [.word t.name.data.toList]
mutual
def dB : Tm → List Pc
 |.mk op name need ws kids => headP (.mk op name need ws kids) (He kids)
def He : List Tm → List (List Pc)
 |[] => []
 |t :: r => dB t :: He r
end
def dw (l : List Pc) : Prop := pY false l = true ∧ ∀ x ∈ l, x.ok
theorem dw.nil : dw [] := ⟨rfl, fun x h => by simp at h⟩
theorem Ab {a b : List Pc} (ha : ∀ x ∈ a, x.ok) (hb : ∀ x ∈ b, x.ok) : ∀ x ∈ a ++ b, x.ok := fun x hx => by
 rcases List.mem_append.1 hx with h | h
 ·exact ha x h
 ·exact hb x h
theorem dw.behind {a b : List Pc} (ha : dw a) (hb : dw b) (he : ends false a = false) : dw (a ++ b) :=
 ⟨by rw [oU, ha.1, he, hb.1]; rfl, Ab ha.2 hb.2⟩
theorem dw.ahead {a b : List Pc} (ha : dw a) (hb : dw b) (hs : ∀ c, pY c b = true) : dw (a ++ b) :=
 ⟨by rw [oU, ha.1, hs]; rfl, Ab ha.2 hb.2⟩
theorem gV {c : UInt8} (h : c ∈ Dr ∧ c ≠ 47 := by decide) : dw [.sym c] := ⟨rfl, fun x hx => by simp at hx; subst hx; exact h⟩
theorem qR : dw [.gap [32]] := ⟨rfl, fun x hx => by simp at hx; subst hx; exact Ee⟩
theorem dw.sym {c : UInt8} {b : List Pc} (hb : dw b) (h : c ∈ Dr ∧ c ≠ 47 := by decide) : dw (.sym c :: b) := dw.behind (a := [.sym c]) (gV h) hb rfl
theorem dw.gap {b : List Pc} (hb : dw b) : dw (.gap [32] :: b) := dw.behind (a := [.gap [32]]) qR hb rfl
end Go.Proofs.YtbmglebipepdmaaGreatDoor
namespace Go.Proofs.YtbmglebipepdmaaGreatDoor

def here (L : aW) (p : Nat) : List Tok := (L.drop p).map (·.1)
def RdT (L : aW) (part : St → Tm × St) (ts : List Tok) (fol : List Tok → Prop) (t : Tm) : Prop := ∀ p r, here L p = ts ++ r → fol r → part ⟨p, 0⟩ = (t, ⟨p + ts.length, 0⟩)

def tt (t : Tm) : List Tok := aK (dB t)
theorem RdT.mono {L : aW} {part : St → Tm × St} {ts : List Tok} {fol fol' : List Tok → Prop} {t : Tm} (h : RdT L part ts fol t) (hf : ∀ r, fol' r → fol r) : RdT L part ts fol' t := fun p r hh hr => h p r hh (hf r hr)
end Go.Proofs.YtbmglebipepdmaaGreatDoor
namespace Go.Proofs.YtbmglebipepdmaaGreatDoor

end Go.Proofs.YtbmglebipepdmaaGreatDoor
namespace Go.Proofs.YtbmglebipepdmaaGreatDoor

end Go.Proofs.YtbmglebipepdmaaGreatDoor
namespace Go.Proofs.YtbmglebipepdmaaGreatDoor

end Go.Proofs.YtbmglebipepdmaaGreatDoor
