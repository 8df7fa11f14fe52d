/- Texts as lists of pieces (words, numbers, symbols, gaps): well-separated pieces are read as their tokens. No condition. The texts of valid terms, faults and declarations as well-separated pieces. No condition. The plain parser reads the tokens of a valid term's text as the term. No condition. The plain parser reads the tokens of valid Em texts as the declarations, apart from the lines. No condition. The plain parser reads the tokens of valid Em texts as the declarations, apart from the lines: names, faults, declarations. No condition. The plain parser reads the text of valid declarations as the declarations, apart from the lines. No condition. -/
import Derived.Test.YtbmglebipepdmaaGreatDoorPkPlain
namespace Go.Proofs.YtbmglebipepdmaaGreatDoor

inductive Pc where
 |word (b : List UInt8)
 |int (n : Int)
 |sym (c : UInt8)
 |gap (g : List UInt8)
def Pc.bytes : Pc → List UInt8
 |.word b => b
 |.int n => Lib.itoa n
 |.sym c => [c]
 |.gap g => g
def aG (b : List UInt8) : Tok := ⟨1, bs b, 0, bs []⟩
def iV (n : Int) : Tok := ⟨2, bs [], n.toNat, bs []⟩
def iR (c : UInt8) : Tok := ⟨4, bs [c], 0, bs []⟩
def Pc.toks : Pc → List Tok
 |.word b => [aG b]
 |.int n => [iV n]
 |.sym c => [iR c]
 |.gap _ => []
def Pc.zk : Pc → Bool
 |.word _ => true
 |.int _ => true
 |.sym _ => false
 |.gap _ => false
def aK (l : List Pc) : List Tok := l.flatMap Pc.toks
def GapOk (g : List UInt8) : Prop := (∃ c r, g = c :: r ∧ cu c.toNat = false) ∧ ∀ rest line acc, ∃ line', lex (g ++ rest) line acc = lex rest line' acc
def Pc.ok : Pc → Prop
 |.word b => dR b = true
 |.int n => small n = true
 |.sym c => c ∈ Fe ∧ c ≠ 47
 |.gap g => GapOk g
def rJ : Bool → List Pc → Bool
 |_, [] => true
 |b, x :: r => !(b && x.zk) && rJ x.zk r
def ends : Bool → List Pc → Bool
 |b, [] => b
 |_, x :: r => ends x.zk r
theorem qF (l m : List Pc) : ∀ b, rJ b (l ++ m) = (rJ b l && rJ (ends b l) m) := by
 induction l with
 |nil => intro b; simp [rJ, ends]
 |cons x r ih => intro b; simp [rJ, ends, ih, Bool.and_assoc]
theorem FX (l : List UInt8) (h : ∀ c ∈ l, fG c.toNat = true) (rest : List UInt8) : ∀ (line : Nat) (acc : List (Tok × Nat)), ∃ line', lex (l ++ rest) line acc = lex rest line' acc := by
 induction l with
 |nil => intro line acc; exact ⟨line, rfl⟩
 |cons c r ih =>
  intro line acc
  obtain ⟨l', e⟩ := ih (fun d hd => h d (by simp [hd])) (if c = 10 then line + 1 else line) acc
  exact ⟨l', by rw [List.cons_append, rU c _ _ _ (h c (by simp)), e]⟩
theorem FY : GapOk [32] := ⟨⟨_, _, rfl, by decide⟩, FX [32] (by decide)⟩
end Go.Proofs.YtbmglebipepdmaaGreatDoor
namespace Go.Proofs.YtbmglebipepdmaaGreatDoor

def mR (ops : List Int) (t : Tm) (x : List Pc) : List Pc := if ops.contains t.op then [.sym 40] ++ x ++ [.sym 41] else x
def kL (l : List (List Pc)) (sep : List Pc) : List Pc := match l with
 |[] => []
 |x :: r => x ++ r.flatMap (sep ++ ·)
def iw (ws : List Int) (l : List (List Pc)) : List (List Pc) := if ws.length = 0 then l else List.zipWith (fun x w => x ++ [.sym 42, .int w]) l ws
def yt : List Pc := [.gap [32], .sym 38, .gap [32]]
def rM : List Pc := [.gap [32], .sym 124, .gap [32]]
def qV : List Pc := [.sym 44, .gap [32]]
def LV (t : Tm) (l : List (List Pc)) : List Pc :=
 if t.op = 3 then kL (List.zipWith (mR [3, 4]) t.kids l) yt
 else if t.op = 4 then kL (List.zipWith (mR [4]) t.kids l) rM
 else if t.op = 5 then [.word [100, 117, 97, 108], .sym 40] ++ l.headD [] ++ [.sym 41]
 else if t.op = 6 then [.word [109, 97, 106, 111, 114, 105, 116, 121], .sym 40, .word t.name.data.toList, .sym 41]
 else if t.op = 7 then [.word [97, 108, 108], .sym 40, .word t.name.data.toList, .sym 41]
 else if t.op = 8 then [.word [97, 110, 121], .sym 40, .word t.name.data.toList, .sym 41]
 else if t.op = 2 then [.int t.need, .sym 40] ++ kL (iw t.ws l) qV ++ [.sym 41]
 else [.word t.name.data.toList]
mutual
def dx : Tm → List Pc
 |.mk op name need ws kids => LV (.mk op name need ws kids) (JI kids)
def JI : List Tm → List (List Pc)
 |[] => []
 |t :: r => dx t :: JI r
end
def dG (l : List Pc) : Prop := rJ false l = true ∧ ∀ x ∈ l, x.ok
theorem dG.nil : dG [] := ⟨rfl, fun x h => by simp at h⟩
theorem BP {a b : List Pc} (ha : ∀ x ∈ a, x.ok) (hb : ∀ x ∈ b, x.ok) : ∀ x ∈ a ++ b, x.ok := fun x hx => by
 rcases List.mem_append.1 hx with h | h
 ·exact ha x h
 ·exact hb x h
theorem dG.behind {a b : List Pc} (ha : dG a) (hb : dG b) (he : ends false a = false) : dG (a ++ b) :=
 ⟨by rw [qF, ha.1, he, hb.1]; rfl, BP ha.2 hb.2⟩
theorem dG.ahead {a b : List Pc} (ha : dG a) (hb : dG b) (hs : ∀ c, rJ c b = true) : dG (a ++ b) :=
 ⟨by rw [qF, ha.1, hs]; rfl, BP ha.2 hb.2⟩
theorem iI {c : UInt8} (h : c ∈ Fe ∧ c ≠ 47 := by decide) : dG [.sym c] := ⟨rfl, fun x hx => by simp at hx; subst hx; exact h⟩
theorem sO : dG [.gap [32]] := ⟨rfl, fun x hx => by simp at hx; subst hx; exact FY⟩
theorem dG.sym {c : UInt8} {b : List Pc} (hb : dG b) (h : c ∈ Fe ∧ c ≠ 47 := by decide) : dG (.sym c :: b) := dG.behind (a := [.sym c]) (iI h) hb rfl
theorem dG.gap {b : List Pc} (hb : dG b) : dG (.gap [32] :: b) := dG.behind (a := [.gap [32]]) sO hb rfl
end Go.Proofs.YtbmglebipepdmaaGreatDoor
namespace Go.Proofs.YtbmglebipepdmaaGreatDoor

def here (L : aW) (p : Nat) : List Tok := (L.drop p).map (·.1)
def RdT (L : aW) (part : St → Tm × St) (ts : List Tok) (fol : List Tok → Prop) (t : Tm) : Prop := ∀ p r, here L p = ts ++ r → fol r → part ⟨p, 0⟩ = (t, ⟨p + ts.length, 0⟩)

def tt (t : Tm) : List Tok := aK (dx t)
theorem RdT.mono {L : aW} {part : St → Tm × St} {ts : List Tok} {fol fol' : List Tok → Prop} {t : Tm} (h : RdT L part ts fol t) (hf : ∀ r, fol' r → fol r) : RdT L part ts fol' t := fun p r hh hr => h p r hh (hf r hr)
end Go.Proofs.YtbmglebipepdmaaGreatDoor
namespace Go.Proofs.YtbmglebipepdmaaGreatDoor

end Go.Proofs.YtbmglebipepdmaaGreatDoor
namespace Go.Proofs.YtbmglebipepdmaaGreatDoor

end Go.Proofs.YtbmglebipepdmaaGreatDoor
namespace Go.Proofs.YtbmglebipepdmaaGreatDoor

end Go.Proofs.YtbmglebipepdmaaGreatDoor
