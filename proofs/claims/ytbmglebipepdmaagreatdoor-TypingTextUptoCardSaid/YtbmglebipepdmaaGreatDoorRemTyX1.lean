/- What this closing text needs beyond the base: parts of the texts on typing and on the syntax; the conditions stand at each theorem. -/
import Derived.Lib.Join
import Derived.Laws.Concat
import Derived.Lib.ItoaNum
import Derived.Lib.ItoaLen
import Derived.KernelRfl
import Derived.Deep.MidRow
import Derived.WalkSpells
import Derived.Test.YtbmglebipepdmaaGreatDoorPkPlain
import Derived.Test.YtbmglebipepdmaaGreatDoorPkRound
import Derived.Test.YtbmglebipepdmaaGreatDoorPkTyp
import Derived.Test.YtbmglebipepdmaaGreatDoorPkMem
import Derived.Test.YtbmglebipepdmaaGreatDoorPkPara
import Derived.Test.YtbmglebipepdmaaGreatDoorPkParb
import Derived.Test.YtbmglebipepdmaaGreatDoorPkLex
import Derived.Test.YtbmglebipepdmaaGreatDoorPkPare
import Derived.Test.YtbmglebipepdmaaGreatDoorPkVala
import Derived.Test.YtbmglebipepdmaaGreatDoorPkValb
import Derived.Test.YtbmglebipepdmaaGreatDoorPkValc
import Derived.Test.YtbmglebipepdmaaGreatDoorPkFmta
import Derived.Test.YtbmglebipepdmaaGreatDoorPkFmtb
import Derived.Test.YtbmglebipepdmaaGreatDoorPkNms
import Derived.Test.YtbmglebipepdmaaGreatDoorPkTya
import Derived.Test.YtbmglebipepdmaaGreatDoorPkTyb
import Derived.Test.YtbmglebipepdmaaGreatDoorPkOpen
import Derived.Test.YtbmglebipepdmaaGreatDoorPkCheck
import Derived.Test.YtbmglebipepdmaaGreatDoorPkRefl
import Derived.Test.YtbmglebipepdmaaGreatDoorPkRefa
import Derived.Test.YtbmglebipepdmaaGreatDoorPkRefb
import Derived.Test.YtbmglebipepdmaaGreatDoorPkRefc
import Derived.Test.YtbmglebipepdmaaGreatDoorPkRefd
import Derived.Test.YtbmglebipepdmaaGreatDoorPkEq
import Derived.Test.YtbmglebipepdmaaGreatDoorPkHead
import Derived.Test.YtbmglebipepdmaaGreatDoorPkUses
import Derived.Test.YtbmglebipepdmaaGreatDoorPkAwt
namespace Go.Proofs.YtbmglebipepdmaaGreatDoor
end Go.Proofs.YtbmglebipepdmaaGreatDoor
namespace Go.Proofs.YtbmglebipepdmaaGreatDoor
theorem bs_inj {a b : List UInt8} : bs a = bs b ↔ a = b := ⟨fun h => by rw [← gm a, h, gm], fun h => by rw [h]⟩

theorem IB (ss : List ByteArray) (i : Nat) : (ss.getD i ByteArray.empty).data.toList.length ≤ tot ss := by
 induction ss generalizing i with
 |nil => simp [tot]
 |cons x r ih =>
  cases i with
  |zero => simp [tot]
  |succ i => have := ih i; simp [tot] at this ⊢; omega
end Go.Proofs.YtbmglebipepdmaaGreatDoor
namespace Go.Proofs.YtbmglebipepdmaaGreatDoor
theorem lex_nil (line : Nat) (acc : List (Tok × Nat)) : lex [] line acc = (acc, 0, 0) := rfl
end Go.Proofs.YtbmglebipepdmaaGreatDoor
namespace Go.Proofs.YtbmglebipepdmaaGreatDoor
end Go.Proofs.YtbmglebipepdmaaGreatDoor
namespace Go.Proofs.YtbmglebipepdmaaGreatDoor
end Go.Proofs.YtbmglebipepdmaaGreatDoor
namespace Go.Proofs.YtbmglebipepdmaaGreatDoor
mutual
def dz : Tm → Nat
 |.mk _ _ _ _ kids => eX kids + 1
def eX : List Tm → Nat
 |[] => 0
 |t :: r => max (dz t) (eX r)
end
end Go.Proofs.YtbmglebipepdmaaGreatDoor
namespace Go.Proofs.YtbmglebipepdmaaGreatDoor
end Go.Proofs.YtbmglebipepdmaaGreatDoor
namespace Go.Proofs.YtbmglebipepdmaaGreatDoor
end Go.Proofs.YtbmglebipepdmaaGreatDoor
namespace Go.Proofs.YtbmglebipepdmaaGreatDoor
theorem IY {a b : ByteArray} (h : a ≠ b) : (a == b) = false := by
 cases e : (a == b)
 ·rfl
 ·exact absurd ((fo a b).1 e) h

def bytesOf (l : List Pc) : List UInt8 := l.flatMap Pc.bytes
theorem aX (a b : List Pc) : bytesOf (a ++ b) = bytesOf a ++ bytesOf b := by simp [bytesOf]
theorem aM (a b : List Pc) : aK (a ++ b) = aK a ++ aK b := by simp [aK]
theorem lG (x : Pc) (r : List Pc) : bytesOf (x :: r) = x.bytes ++ bytesOf r := rfl
theorem dS (x : Pc) (r : List Pc) : aK (x :: r) = x.toks ++ aK r := rfl
theorem tq : bytesOf [] = [] := rfl
theorem ja : aK [] = [] := rfl

theorem lW (b : Bool) (c : UInt8) (r : List Pc) : pY b (.sym c :: r) = pY false r := by simp [pY, Pc.xD]
theorem lX (b : Bool) (g : List UInt8) (r : List Pc) : pY b (.gap g :: r) = pY false r := by simp [pY, Pc.xD]
theorem BA (b : Bool) : pY b [] = true := rfl

def brk (l : List UInt8) : Prop := ∀ c r, l = c :: r → bY c.toNat = false
theorem xB : ∀ c ∈ Dr, eT c.toNat = false ∧ dQ c.toNat = false ∧ isDigit c.toNat = false ∧ c ≠ 34 := by decide
theorem IX {r : List Pc} (h : pY true r = true) (hok : ∀ x ∈ r, x.ok) : brk (bytesOf r) := by
 cases r with
 |nil => intro c r e; simp [bytesOf] at e
 |cons x r =>
  have hx := hok x (by simp)
  intro c s e
  rw [lG] at e
  cases x with
  |word b => simp [pY, Pc.xD] at h
  |int n => simp [pY, Pc.xD] at h
  |sym d =>
   have e1 : d = c := by simp [Pc.bytes] at e; exact e.1
   subst e1
   have := xB d hx.1
   unfold bY; rw [this.2.1, this.2.2.1]; rfl
  |gap g =>
   obtain ⟨⟨d, q, rfl, hd⟩, -⟩ := hx
   have e1 : d = c := by simp [Pc.bytes] at e; exact e.1
   subst e1; exact hd

theorem zZ (p : Nat → Bool) (a r : List UInt8) (ha : ∀ c ∈ a, p c.toNat = true) (hr : ∀ c s, r = c :: s → p c.toNat = false) : pre p (a ++ r) = a.length := by
 induction a with
 |nil =>
  cases r with
  |nil => rfl
  |cons c s => unfold pre; simp [hr c s rfl]
 |cons c a ih =>
  have h0 := ha c (by simp)
  have h1 := ih (fun d hd => ha d (by simp [hd]))
  unfold pre at h1 ⊢
  rw [List.cons_append, List.takeWhile_cons, if_pos h0, List.length_cons, h1, List.length_cons]
theorem mQ : ∀ i, i < 10 → (UInt8.ofNat (48 + i)).toNat = 48 + i := by
 intro i h
 rw [UInt8.toNat_ofNat']; omega
theorem Ky (n : Nat) : ∀ u, u ≤ n → ∀ c ∈ Lib.decDigits u, isDigit c.toNat = true := by
 induction n with
 |zero =>
  intro u hu c hc
  have : u = 0 := by omega
  subst this
  rw [Lib.decDigits_one (by omega)] at hc
  simp at hc; subst hc; decide
 |succ n ih =>
  intro u hu c hc
  rw [Lib.decDigits] at hc
  split at hc
  ·rename_i h
   obtain rfl := List.mem_singleton.1 hc
   unfold isDigit; rw [mQ u h]; simp; omega
  ·rename_i h
   rcases List.mem_append.1 hc with hc | hc
   ·exact ih (u / 10) (by omega) c hc
   ·obtain rfl := List.mem_singleton.1 hc
    have : u % 10 < 10 := Nat.mod_lt _ (by omega)
    unfold isDigit; rw [mQ _ this]; simp; omega
theorem DN (a b : List UInt8) : ∀ v, lm v (a ++ b) = (lm v a).bind fun x => lm x b := by
 induction a with
 |nil => intro v; rfl
 |cons c r ih =>
  intro v
  rw [List.cons_append, lm, lm]
  split
  ·rfl
  ·exact ih _
theorem numGo_dec (n : Nat) : ∀ u, u ≤ n → u ≤ 100000 → lm 0 (Lib.decDigits u) = some u := by
 induction n with
 |zero =>
  intro u hu _
  have : u = 0 := by omega
  subst this
  rw [Lib.decDigits_one (by omega)]; rfl
 |succ n ih =>
  intro u hu hl
  rw [Lib.decDigits]
  split
  ·rename_i h
   rw [lm, mQ u h, if_neg (by omega), lm]
   congr 1; omega
  ·rename_i h
   have hm : u % 10 < 10 := Nat.mod_lt _ (by omega)
   rw [DN, ih (u / 10) (by omega) (by omega)]
   show lm (u / 10) [UInt8.ofNat (48 + u % 10)] = some u
   rw [lm, mQ _ hm, if_neg (by omega), lm]
   congr 1; omega
theorem IV (n : Nat) : ∀ u, u ≤ n → ∃ c r, Lib.decDigits u = c :: r ∧ (0 < u → c ≠ 48) := by
 induction n with
 |zero =>
  intro u hu
  have : u = 0 := by omega
  subst this
  rw [Lib.decDigits_one (by omega)]; exact ⟨_, _, rfl, fun h => by omega⟩
 |succ n ih =>
  intro u hu
  rw [Lib.decDigits]
  split
  ·rename_i h
   refine ⟨_, _, rfl, fun h0 e => ?_⟩
   have := congrArg UInt8.toNat e
   rw [mQ u h] at this
   have e48 : (48 : UInt8).toNat = 48 := rfl
   omega
  ·rename_i h
   obtain ⟨c, r, e, hc⟩ := ih (u / 10) (by omega)
   rw [e]
   exact ⟨c, r ++ _, rfl, fun _ => hc (by omega)⟩
theorem num_dec (u : Nat) (h : u ≤ 100000) : num (Lib.decDigits u) = some u := by
 unfold num
 rw [if_neg, numGo_dec u u (Nat.le_refl _) h]
 rintro ⟨h1, h2⟩
 by_cases h10 : u < 10
 ·rw [Lib.decDigits_one h10] at h1; simp at h1
 ·obtain ⟨c, r, e, hc⟩ := IV u u (Nat.le_refl _)
  rw [e] at h2; simp at h2
  exact hc (by omega) h2
theorem itoa_nat {n : Int} (h : small n = true) : Lib.itoa n = Lib.decDigits n.toNat := by
 have := mE h
 unfold Lib.itoa; rw [if_neg (by omega)]

theorem DX {c : Nat} (h : dQ c = true) : eT c = false ∧ c ≠ 47 := by
 unfold dQ at h
 unfold eT
 simp only [Bool.or_eq_true, Bool.and_eq_true, beq_iff_eq, decide_eq_true_eq] at h
 refine ⟨?_, by omega⟩
 simp only [Bool.or_eq_false_iff, beq_eq_false_iff_ne]
 omega
theorem Gu {c : Nat} (h : isDigit c = true) : eT c = false ∧ c ≠ 47 ∧ dQ c = false := by
 unfold isDigit at h
 unfold eT dQ
 simp only [Bool.and_eq_true, decide_eq_true_eq] at h
 refine ⟨?_, by omega, ?_⟩
 ·simp only [Bool.or_eq_false_iff, beq_eq_false_iff_ne]; omega
 ·simp only [Bool.or_eq_false_iff, Bool.and_eq_false_iff, beq_eq_false_iff_ne, decide_eq_false_iff_not]; omega
theorem Ih {b : List UInt8} (h : dN b = true) (r : List UInt8) (hr : brk r) (line : Nat) (acc : List (Tok × Nat)) : lex (b ++ r) line acc = lex r line (acc ++ [(aF b, line)]) := by
 obtain ⟨c, s, rfl, hc, hl, hall⟩ := oZ h
 obtain ⟨h1, h2⟩ := DX hc
 have hp : pre bY (c :: s ++ r) = (c :: s).length := zZ bY _ _ hall hr
 have e : gH (c :: s ++ r) = some (aF (c :: s), (c :: s).length) := by
  rw [List.cons_append] at hp ⊢
  rw [gH, if_pos hc, hp, if_neg (by omega)]
  rw [← List.cons_append, List.take_left]; rfl
 rw [List.cons_append] at e ⊢
 rw [mG c (s ++ r) line acc _ _ h1 (fun hh => h2 (by rw [hh.1]; rfl)) e, ← List.cons_append, List.drop_left]
theorem lex_int {n : Int} (h : small n = true) (r : List UInt8) (hr : brk r) (line : Nat) (acc : List (Tok × Nat)) : lex (Lib.itoa n ++ r) line acc = lex r line (acc ++ [(iE n, line)]) := by
 have hn := mE h
 rw [itoa_nat h]
 have hd := Ky n.toNat n.toNat (Nat.le_refl _)
 have hv := num_dec n.toNat (by omega)
 obtain ⟨c, s, ec, -⟩ := IV n.toNat n.toNat (Nat.le_refl _)
 rw [ec] at hd hv ⊢
 have hc := hd c (by simp)
 obtain ⟨h1, h2, h3⟩ := Gu hc
 have hp : pre isDigit (c :: s ++ r) = (c :: s).length := zZ isDigit _ _ hd (fun c' s' e' => by
  have := hr c' s' e'
  unfold bY at this
  simp only [Bool.or_eq_false_iff] at this
  exact this.2)
 have e : gH (c :: s ++ r) = some (iE n, (c :: s).length) := by
  rw [List.cons_append] at hp ⊢
  rw [gH, if_neg (by rw [h3]; simp), if_pos hc, hp, ← List.cons_append, List.take_left, hv]; rfl
 rw [List.cons_append] at e ⊢
 rw [mG c (s ++ r) line acc _ _ h1 (fun hh => h2 (by rw [hh.1]; rfl)) e, ← List.cons_append, List.drop_left]
theorem lex_sym {c : UInt8} (h : c ∈ Dr ∧ c ≠ 47) (r : List UInt8) (line : Nat) (acc : List (Tok × Nat)) : lex (c :: r) line acc = lex r line (acc ++ [(iB c, line)]) := by
 obtain ⟨h1, h2, h3, h4⟩ := xB c h.1
 have e : gH (c :: r) = some (iB c, 1) := by
  rw [gH, if_neg (by rw [h2]; simp), if_neg (by rw [h3]; simp), if_neg h4, if_pos h.1]; rfl
 rw [mG c r line acc _ _ h1 (fun hh => h.2 hh.1) e]; rfl

theorem BV : ∀ (ps : List Pc) (b : Bool), pY b ps = true → (∀ x ∈ ps, x.ok) → ∀ line acc, ∃ L : aW, lex (bytesOf ps) line acc = (acc ++ L, 0, 0) ∧ L.map (·.1) = aK ps := by
 intro ps
 induction ps with
 |nil => intro b _ _ line acc; exact ⟨[], by rw [tq, lex_nil, List.append_nil], rfl⟩
 |cons x r ih =>
  intro b hs hok line acc
  have hx := hok x (by simp)
  have hr : ∀ y ∈ r, y.ok := fun y hy => hok y (by simp [hy])
  have hsr : pY x.xD r = true := by simp [pY] at hs; exact hs.2
  rw [lG]
  cases x with
  |word w =>
   obtain ⟨L, h1, h2⟩ := ih _ hsr hr line (acc ++ [(aF w, line)])
   refine ⟨(aF w, line) :: L, ?_, by rw [dS, List.map_cons, h2]; rfl⟩
   rw [show (Pc.word w).bytes = w from rfl, Ih hx _ (IX hsr hr), h1]; simp
  |int n =>
   obtain ⟨L, h1, h2⟩ := ih _ hsr hr line (acc ++ [(iE n, line)])
   refine ⟨(iE n, line) :: L, ?_, by rw [dS, List.map_cons, h2]; rfl⟩
   rw [show (Pc.int n).bytes = Lib.itoa n from rfl, lex_int hx _ (IX hsr hr), h1]; simp
  |sym c =>
   obtain ⟨L, h1, h2⟩ := ih _ hsr hr line (acc ++ [(iB c, line)])
   refine ⟨(iB c, line) :: L, ?_, by rw [dS, List.map_cons, h2]; rfl⟩
   rw [show (Pc.sym c).bytes = [c] from rfl, List.singleton_append, lex_sym hx, h1]; simp
  |gap g =>
   obtain ⟨line', hl⟩ := hx.2 (bytesOf r) line acc
   obtain ⟨L, h1, h2⟩ := ih _ hsr hr line' acc
   exact ⟨L, by rw [show (Pc.gap g).bytes = g from rfl, hl, h1], by rw [dS, h2]; rfl⟩

theorem IC : GapOk [10] := ⟨⟨_, _, rfl, by decide⟩, Ed [10] (by decide)⟩
end Go.Proofs.YtbmglebipepdmaaGreatDoor
namespace Go.Proofs.YtbmglebipepdmaaGreatDoor
theorem Jb (l : List Tm) : He l = l.map dB := by
 induction l with
 |nil => rfl
 |cons t r ih => rw [He, ih]; rfl
theorem kP (t : Tm) : dB t = headP t (t.kids.map dB) := by
 cases t with
 |mk op name need ws kids => rw [dB, Jb]; rfl

theorem KH (r : List (List Pc)) (sep : List Pc) : bytesOf (r.flatMap (sep ++ ·)) = Lib.joinTail (bytesOf sep) (r.map bytesOf) := by
 induction r with
 |nil => rfl
 |cons x r ih =>
  rw [List.flatMap_cons, aX, ih, aX]
  simp [Lib.joinTail]
theorem oH (l : List (List Pc)) (sep : List Pc) : bytesOf (nQ l sep) = Lib.join (l.map bytesOf) (bytesOf sep) := by
 cases l with
 |nil => rfl
 |cons x r => rw [nQ, aX, KH, List.map_cons, Lib.join_cons]
theorem bytes_par (ops : List Int) (t : Tm) (x : List Pc) : bytesOf (og ops t x) = par ops t (bytesOf x) := by
 unfold og par
 split
 ·rw [aX, aX]; rfl
 ·rfl
theorem CP (ws : List Int) : ∀ (l : List (List Pc)), (jw ws l).map bytesOf = weighed ws (l.map bytesOf) := by
 intro l
 unfold jw weighed
 split
 ·rfl
 ·induction l generalizing ws with
  |nil => simp
  |cons x r ih =>
   cases ws with
   |nil => simp
   |cons w ws =>
    rw [List.zipWith_cons_cons, List.map_cons, List.map_cons, List.zipWith_cons_cons]
    congr 1
    ·rw [aX]; simp [bytesOf, Pc.bytes]
    ·by_cases h0 : ws.length = 0
     ·have : ws = [] := List.length_eq_zero_iff.1 h0
      subst this; simp
     ·exact ih _ h0
theorem E9 (ops : List Int) (ks : List Tm) : ∀ (l : List (List Pc)), (List.zipWith (og ops) ks l).map bytesOf = List.zipWith (par ops) ks (l.map bytesOf) := by
 induction ks with
 |nil => intro l; simp
 |cons k r ih =>
  intro l
  cases l with
  |nil => simp
  |cons x l => rw [List.zipWith_cons_cons, List.map_cons, List.map_cons, List.zipWith_cons_cons, ih, bytes_par]
theorem KI (t : Tm) (l : List (List Pc)) : bytesOf (headP t l) = uO t (l.map bytesOf) := by
 unfold headP uO
 split
 ·rw [oH, E9]; rfl
 split
 ·rw [oH, E9]; rfl
 split
 ·rw [aX, aX]
  cases l <;> rfl
 split
 ·simp [bytesOf, Pc.bytes]
 split
 ·simp [bytesOf, Pc.bytes]
 split
 ·simp [bytesOf, Pc.bytes]
 split
 ·rw [aX, aX, oH, CP]
  simp [bytesOf, Pc.bytes, rW]
 ·simp [bytesOf, Pc.bytes]
theorem tm_bytes : ∀ (n : Nat) (t : Tm), av t ≤ n → bytesOf (dB t) = aS t := by
 intro n
 induction n with
 |zero =>
   intro t ht; have : 0 < av t := by (cases t; rw [av]; omega)
   omega
 |succ n ih =>
  intro t ht
  rw [kP, iW, KI, List.map_map]
  congr 1
  refine List.map_congr_left fun k hk => ih k ?_
  have := dh hk
  have := eP t
  omega
theorem si (t : Tm) : bytesOf (dB t) = aS t := tm_bytes _ t (Nat.le_refl _)

theorem neat_line : dw [.gap [10]] := ⟨rfl, fun x hx => by simp at hx; subst hx; exact IC⟩
theorem lC {b : List UInt8} (h : dN b = true) : dw [.word b] := ⟨rfl, fun x hx => by simp at hx; subst hx; exact h⟩
theorem wQ {n : Int} (h : small n = true) : dw [.int n] := ⟨rfl, fun x hx => by simp at hx; subst hx; exact h⟩
theorem dw.nK {w : List UInt8} {c : UInt8} {b : List Pc} (hw : dN w = true) (hb : dw (.sym c :: b)) : dw (.word w :: .sym c :: b) := dw.ahead (a := [.word w]) (lC hw) hb (fun d => by rw [lW]; have := hb.1; rwa [lW] at this)
theorem dw.fQ {w : List UInt8} {c : List UInt8} {b : List Pc} (hw : dN w = true) (hb : dw (.gap c :: b)) : dw (.word w :: .gap c :: b) := dw.ahead (a := [.word w]) (lC hw) hb (fun d => by rw [lX]; have := hb.1; rwa [lX] at this)
theorem dw.intSym {w : Int} {c : UInt8} {b : List Pc} (hw : small w = true) (hb : dw (.sym c :: b)) : dw (.int w :: .sym c :: b) := dw.ahead (a := [.int w]) (wQ hw) hb (fun d => by rw [lW]; have := hb.1; rwa [lW] at this)
theorem dw.intGap {w : Int} {c : List UInt8} {b : List Pc} (hw : small w = true) (hb : dw (.gap c :: b)) : dw (.int w :: .gap c :: b) := dw.ahead (a := [.int w]) (wQ hw) hb (fun d => by rw [lX]; have := hb.1; rwa [lX] at this)
theorem dw.wu {a b : List Pc} {c : UInt8} (ha : dw a) (hb : dw (.sym c :: b)) : dw (a ++ .sym c :: b) := ha.ahead hb (fun d => by rw [lW]; have := hb.1; rwa [lW] at this)
theorem dw.Bc {a b : List Pc} {c : List UInt8} (ha : dw a) (hb : dw (.gap c :: b)) : dw (a ++ .gap c :: b) := ha.ahead hb (fun d => by rw [lX]; have := hb.1; rwa [lX] at this)

def SepOk (sep : List Pc) : Prop := dw sep ∧ (∀ b, pY b sep = true) ∧ (∀ b, ends b sep = false)
theorem andSep_ok : SepOk yX := ⟨(dw.sym qR).gap, fun b => by simp [yX, lX, lW, BA], fun b => rfl⟩
theorem H8 : SepOk um := ⟨(dw.sym qR).gap, fun b => by simp [um, lX, lW, BA], fun b => rfl⟩
theorem EX : SepOk rW := ⟨dw.sym qR, fun b => by simp [rW, lX, lW, BA], fun b => rfl⟩
theorem neat_tail {sep : List Pc} (hs : SepOk sep) (r : List (List Pc)) (h : ∀ x ∈ r, dw x) : dw (r.flatMap (sep ++ ·)) ∧ ∀ b, pY b (r.flatMap (sep ++ ·)) = true := by
 induction r with
 |nil => exact ⟨.nil, fun _ => rfl⟩
 |cons x r ih =>
  obtain ⟨h1, h2⟩ := ih (fun y hy => h y (by simp [hy]))
  have hx : dw (sep ++ x) := hs.1.behind (h x (by simp)) (hs.2.2 _)
  rw [List.flatMap_cons]
  refine ⟨hx.ahead h1 h2, fun b => ?_⟩
  rw [oU, oU, hs.2.1, hs.2.2, (h x (by simp)).1, h2]; rfl
theorem qj {sep : List Pc} (hs : SepOk sep) (l : List (List Pc)) (h : ∀ x ∈ l, dw x) : dw (nQ l sep) := by
 cases l with
 |nil => exact .nil
 |cons x r =>
  obtain ⟨h1, h2⟩ := neat_tail hs r (fun y hy => h y (by simp [hy]))
  exact (h x (by simp)).ahead h1 h2
theorem Ib (ops : List Int) (t : Tm) (x : List Pc) (h : dw x) : dw (og ops t x) := by
 unfold og
 split
 ·rw [List.append_assoc]; exact dw.sym (h.wu gV)
 ·exact h
theorem fq {x : ByteArray} (h : bO x = true) : dN x.data.toList = true := by
 unfold bO at h
 rw [Bool.and_eq_true] at h
 exact h.1
theorem FL : dN ((⟨#[115, 101, 114, 118, 101, 114, 115]⟩ : ByteArray)).data.toList = true := by decide
theorem yI {x : ByteArray} (h : (bO x || x == (⟨#[115, 101, 114, 118, 101, 114, 115]⟩ : ByteArray)) = true) : dN x.data.toList = true := by
 rw [Bool.or_eq_true] at h
 rcases h with h | h
 ·exact fq h
 ·rw [(fo _ _).1 h]; exact FL
theorem Ck (nm : ByteArray) (nd : Int) (ws : List Int) (ks : List Tm) : bX (.mk 1 nm nd ws ks) = (bO nm && bare (.mk 1 nm nd ws ks)) := rfl
theorem Cj (nm : ByteArray) (nd : Int) (ws : List Int) (ks : List Tm) : bX (.mk 2 nm nd ws ks) = (decide (nm.size = 0) && small nd && decide (0 < ks.length) && (decide (ws.length = 0) || decide (ws.length = ks.length))) := rfl
theorem Iz (nm : ByteArray) (nd : Int) (ws : List Int) (ks : List Tm) : bX (.mk 3 nm nd ws ks) = (decide (nm.size = 0) && decide (nd = 0) && decide (ws.length = 0) && decide (2 ≤ ks.length)) := rfl
theorem Iy (nm : ByteArray) (nd : Int) (ws : List Int) (ks : List Tm) : bX (.mk 4 nm nd ws ks) = (decide (nm.size = 0) && decide (nd = 0) && decide (ws.length = 0) && decide (2 ≤ ks.length)) := rfl
theorem Ci (nm : ByteArray) (nd : Int) (ws : List Int) (ks : List Tm) : bX (.mk 5 nm nd ws ks) = (decide (nm.size = 0) && decide (nd = 0) && decide (ws.length = 0) && decide (ks.length = 1)) := rfl
theorem Ch (nm : ByteArray) (nd : Int) (ws : List Int) (ks : List Tm) : bX (.mk 6 nm nd ws ks) = ((bO nm || nm == (⟨#[115, 101, 114, 118, 101, 114, 115]⟩ : ByteArray)) && bare (.mk 6 nm nd ws ks)) := rfl
theorem Cg (nm : ByteArray) (nd : Int) (ws : List Int) (ks : List Tm) : bX (.mk 7 nm nd ws ks) = ((bO nm || nm == (⟨#[115, 101, 114, 118, 101, 114, 115]⟩ : ByteArray)) && bare (.mk 7 nm nd ws ks)) := rfl
theorem Cf (nm : ByteArray) (nd : Int) (ws : List Int) (ks : List Tm) : bX (.mk 8 nm nd ws ks) = ((bO nm || nm == (⟨#[115, 101, 114, 118, 101, 114, 115]⟩ : ByteArray)) && bare (.mk 8 nm nd ws ks)) := rfl
theorem Gj {op : Int} {nm : ByteArray} {nd : Int} {ws : List Int} {ks : List Tm} (h : bX (.mk op nm nd ws ks) = true) : op = 1 ∨ op = 2 ∨ op = 3 ∨ op = 4 ∨ op = 5 ∨ op = 6 ∨ op = 7 ∨ op = 8 := by
 apply Decidable.byContradiction
 intro hn
 have e : bX (.mk op nm nd ws ks) = false := by
  unfold bX
  show (if op = 1 then _ else if op = 6 ∨ op = 7 ∨ op = 8 then _ else if op = 2 then _ else if op = 3 ∨ op = 4 then _ else if op = 5 then _ else false) = false
  rw [if_neg (by omega), if_neg (by omega), if_neg (by omega), if_neg (by omega), if_neg (by omega)]
 rw [e] at h; cases h
theorem pcs1 (nm : ByteArray) (nd : Int) (ws : List Int) (ks : List Tm) : dB (.mk 1 nm nd ws ks) = [.word nm.data.toList] := by rw [kP]; rfl
theorem pcs2 (nm : ByteArray) (nd : Int) (ws : List Int) (ks : List Tm) : dB (.mk 2 nm nd ws ks) = [.int nd, .sym 40] ++ nQ (jw ws (ks.map dB)) rW ++ [.sym 41] := by rw [kP]; rfl
theorem zipP {α : Type} (f : Tm → List Pc → α) (g : Tm → List Pc) (l : List Tm) : List.zipWith f l (l.map g) = l.map (fun k => f k (g k)) := by
 induction l with
 |nil => rfl
 |cons x r ih => simp [ih]
theorem pcs3 (nm : ByteArray) (nd : Int) (ws : List Int) (ks : List Tm) : dB (.mk 3 nm nd ws ks) = nQ (ks.map fun k => og [3, 4] k (dB k)) yX := by rw [kP]; show nQ (List.zipWith (og [3, 4]) ks (ks.map dB)) yX = _; rw [zipP]
theorem pcs4 (nm : ByteArray) (nd : Int) (ws : List Int) (ks : List Tm) : dB (.mk 4 nm nd ws ks) = nQ (ks.map fun k => og [4] k (dB k)) um := by rw [kP]; show nQ (List.zipWith (og [4]) ks (ks.map dB)) um = _; rw [zipP]
theorem pcs5 (nm : ByteArray) (nd : Int) (ws : List Int) (k : Tm) : dB (.mk 5 nm nd ws [k]) = [.word [100, 117, 97, 108], .sym 40] ++ dB k ++ [.sym 41] := by rw [kP]; rfl
theorem pcs6 (nm : ByteArray) (nd : Int) (ws : List Int) (ks : List Tm) : dB (.mk 6 nm nd ws ks) = [.word [109, 97, 106, 111, 114, 105, 116, 121], .sym 40, .word nm.data.toList, .sym 41] := by rw [kP]; rfl
theorem pcs7 (nm : ByteArray) (nd : Int) (ws : List Int) (ks : List Tm) : dB (.mk 7 nm nd ws ks) = [.word [97, 108, 108], .sym 40, .word nm.data.toList, .sym 41] := by rw [kP]; rfl
theorem pcs8 (nm : ByteArray) (nd : Int) (ws : List Int) (ks : List Tm) : dB (.mk 8 nm nd ws ks) = [.word [97, 110, 121], .sym 40, .word nm.data.toList, .sym 41] := by rw [kP]; rfl
theorem vP {ws : List Int} {ls : List (List Pc)} {x : List Pc} (h : x ∈ jw ws ls) : ∃ y ∈ ls, x = y ∨ ∃ w ∈ ws, x = y ++ [.sym 42, .int w] := by
 unfold jw at h
 split at h
 ·exact ⟨x, h, Or.inl rfl⟩
 ·obtain ⟨i, hi, rfl⟩ := List.mem_iff_getElem.1 h
  rw [List.length_zipWith] at hi
  exact ⟨ls[i], List.getElem_mem _, Or.inr ⟨ws[i], List.getElem_mem _, by simp⟩⟩
theorem tm_neat : ∀ (n : Nat) (t : Tm), av t ≤ n → jf t = true → dw (dB t) := by
 intro n
 induction n with
 |zero =>
   intro t ht; have : 0 < av t := by (cases t; rw [av]; omega)
   omega
 |succ n ih =>
  intro t ht hok
  obtain ⟨h1, h2, h3⟩ := mh hok
  have hs := eP t
  obtain ⟨op, nm, nd, ws, ks⟩ := t
  have hk : ∀ k ∈ ks, dw (dB k) := fun k hk => ih k (by have := dh hk; have hs : av (.mk op nm nd ws ks) = 1 + nm.size + ws.length + aZ ks := hs; omega) (h3 k hk)
  have h2 : ∀ w ∈ ws, small w = true := h2
  rcases Gj h1 with rfl | rfl | rfl | rfl | rfl | rfl | rfl | rfl
  ·rw [Ck, Bool.and_eq_true] at h1
   rw [pcs1]; exact lC (fq h1.1)
  ·rw [Cj] at h1
   simp only [Bool.and_eq_true] at h1
   rw [pcs2, List.append_assoc]
   refine dw.intSym h1.1.1.2 (dw.sym ?_)
   refine dw.wu (qj EX _ fun x hx => ?_) gV
   obtain ⟨y, hy, hxy⟩ := vP hx
   obtain ⟨k, hkk, rfl⟩ := List.mem_map.1 hy
   rcases hxy with rfl | ⟨w, hw, rfl⟩
   ·exact hk k hkk
   ·exact (hk k hkk).wu (dw.sym (wQ (h2 w hw)))
  ·rw [pcs3]
   refine qj andSep_ok _ fun x hx => ?_
   obtain ⟨k, hkk, rfl⟩ := List.mem_map.1 hx
   exact Ib _ _ _ (hk k hkk)
  ·rw [pcs4]
   refine qj H8 _ fun x hx => ?_
   obtain ⟨k, hkk, rfl⟩ := List.mem_map.1 hx
   exact Ib _ _ _ (hk k hkk)
  ·rw [Ci] at h1
   simp only [Bool.and_eq_true, decide_eq_true_eq] at h1
   obtain ⟨k, rfl⟩ := List.length_eq_one_iff.1 h1.2
   rw [pcs5, List.append_assoc]
   exact dw.nK (by decide) (dw.sym ((hk k (by simp)).wu gV))
  ·rw [Ch, Bool.and_eq_true] at h1
   rw [pcs6]; exact dw.nK (by decide) (dw.sym (dw.nK (yI h1.1) gV))
  ·rw [Cg, Bool.and_eq_true] at h1
   rw [pcs7]; exact dw.nK (by decide) (dw.sym (dw.nK (yI h1.1) gV))
  ·rw [Cf, Bool.and_eq_true] at h1
   rw [pcs8]; exact dw.nK (by decide) (dw.sym (dw.nK (yI h1.1) gV))
theorem nX {t : Tm} (h : jf t = true) : dw (dB t) := tm_neat _ t (Nat.le_refl _) h
end Go.Proofs.YtbmglebipepdmaaGreatDoor
namespace Go.Proofs.YtbmglebipepdmaaGreatDoor
theorem aP {L : aW} {p : Nat} {t : Tok} {r : List Tok} (h : here L p = t :: r) : tk L ⟨p, 0⟩ = some t ∧ here L (p + 1) = r := by
 unfold here at h ⊢
 rw [← List.tail_drop]
 cases e : L.drop p with
 |nil => rw [e] at h; simp at h
 |cons a q =>
  rw [e] at h
  simp only [List.map_cons, List.cons.injEq] at h
  refine ⟨?_, h.2⟩
  unfold tk
  rw [if_pos rfl]
  have : L[p]? = some a := by
   have := congrArg List.head? e
   rw [List.head?_drop] at this
   simpa using this
  show Option.map (·.1) L[p]? = some t
  rw [this, ← h.1]; rfl
theorem here_nil {L : aW} {p : Nat} (h : here L p = []) : tk L ⟨p, 0⟩ = none := by
 unfold here at h
 apply sj
 show L.length ≤ p
 simpa using h
theorem cK {L : aW} (a : List Tok) : ∀ {p : Nat} {r : List Tok}, here L p = a ++ r → here L (p + a.length) = r := by
 induction a with
 |nil => intro p r h; exact h
 |cons t a ih =>
  intro p r h
  have := ih (aP (h : here L p = t :: (a ++ r))).2
  rw [List.length_cons, show p + (a.length + 1) = p + 1 + a.length by omega]; exact this
theorem uN {L : aW} {p : Nat} {l : List Tok} (h : here L p = l) : l.length ≤ L.length := by
 rw [← h]; unfold here; simp

def noW (x : ByteArray) (l : List Tok) : Prop := ∀ t r, l = t :: r → isWord x t = false
theorem yC {L : aW} {p : Nat} {x : ByteArray} {l : List Tok} (h : here L p = l) (hn : noW x l) : isW L x ⟨p, 0⟩ = false := by
 unfold isW
 cases l with
 |nil => rw [here_nil h]
 |cons t r => rw [(aP h).1]; exact hn t r rfl
theorem au {L : aW} {p : Nat} {x : ByteArray} {t : Tok} {r : List Tok} (h : here L p = t :: r) : isW L x ⟨p, 0⟩ = isWord x t := by
 unfold isW; rw [(aP h).1]
theorem gU {L : aW} {p : Nat} {x : ByteArray} {t : Tok} {r : List Tok} (h : here L p = t :: r) (ht : isWord x t = true) : need L x ⟨p, 0⟩ = ⟨p + 1, 0⟩ := by
 unfold need; rw [au h, ht]; rfl
theorem fD {x : ByteArray} {t : Tok} {r : List Tok} (h : isWord x t = false) : noW x (t :: r) := fun t' r' e => by
 have : t = t' := by simp at e; exact e.1
 subst this; exact h
theorem wG {b : List UInt8} (h : dN b = true) {c : UInt8} (hc : c ∈ Dr) : isWord ⟨#[c]⟩ (aF b) = false := by
 obtain ⟨d, r, rfl, hd, -, -⟩ := oZ h
 have hcf := xB c hc
 unfold isWord aF
 have : (bs (d :: r) == ⟨#[c]⟩) = false := by
  apply IY
  intro e
  rw [show (⟨#[c]⟩ : ByteArray) = bs [c] from rfl, bs_inj] at e
  have e1 : d = c := by simp at e; exact e.1
  subst e1
  rw [hcf.2.1] at hd; cases hd
 simp only [this, Bool.and_false]
theorem BQ {nm : ByteArray} (h : bO nm = true) : reserved nm = false := by
 unfold bO at h
 rw [Bool.and_eq_true] at h
 simpa using h.2
theorem qG {nm : ByteArray} (h : bO nm = true) {x : ByteArray} (hx : x ∈ words) : isWord x (aF nm.data.toList) = false := by
 have hr := BQ h
 unfold isWord aF
 rw [dY]
 have : (nm == x) = false := by
  cases e : (nm == x)
  ·rfl
  ·have : reserved nm = true := List.any_eq_true.2 ⟨x, hx, e⟩
   rw [this] at hr; cases hr
 simp only [this, Bool.and_false]
theorem gF {L : aW} {p : Nat} {nm : ByteArray} {r : List Tok} (h : here L p = aF nm.data.toList :: r) (ho : bO nm = true) : aY L ⟨p, 0⟩ = (nm, ⟨p + 1, 0⟩) := by
 unfold aY jP txt
 rw [(aP h).1]
 have : mH (aF nm.data.toList) = true := by
  unfold mH aF
  rw [dY, BQ ho]; rfl
 simp only [this, if_true]
 exact Prod.ext (dY nm) rfl
theorem wO {L : aW} {p : Nat} {n : Int} {r : List Tok} (h : here L p = iE n :: r) (ho : small n = true) : ji L ⟨p, 0⟩ = (n, ⟨p + 1, 0⟩) := by
 have hn := mE ho
 unfold ji isInt D7
 rw [(aP h).1]
 have e1 : (iE n).int = n.toNat := rfl
 have e2 : ((iE n).kind == 2) = true := rfl
 simp only [e1, e2, if_true]
 rw [if_neg (by omega), Int.toNat_of_nonneg hn.1]
 rfl

def lF (l : List (List Tok)) (c : Tok) : List Tok := match l with
 |[] => []
 |x :: r => x ++ r.flatMap (c :: ·)
theorem toks_tail (r : List (List Pc)) (sep : List Pc) (c : Tok) (h : aK sep = [c]) : aK (r.flatMap (sep ++ ·)) = (r.map aK).flatMap (c :: ·) := by
 induction r with
 |nil => rfl
 |cons x r ih =>
  rw [List.flatMap_cons, aM, ih, aM, h]
  simp
theorem kX (l : List (List Pc)) (sep : List Pc) (c : Tok) (h : aK sep = [c]) : aK (nQ l sep) = lF (l.map aK) c := by
 cases l with
 |nil => rfl
 |cons x r => rw [nQ, aM, toks_tail r sep c h]; rfl

theorem wU (c : Tok) (ks : List (List Tok)) : ks.length ≤ (ks.flatMap (c :: ·)).length := by
 induction ks with
 |nil => simp
 |cons k r ih => simp only [List.flatMap_cons, List.length_append, List.length_cons] at ih ⊢; omega
theorem D5 {L : aW} {x : ByteArray} {part : St → Tm × St} {fol : List Tok → Prop} {c : Tok} (hx : isWord x c = true) (hfol : ∀ r, fol (c :: r)) (ks : List (List Tok × Tm)) (h : ∀ k ∈ ks, RdT L part k.1 fol k.2) :
  ∀ (f : Nat) (acc : List Tm) (p : Nat) (r : List Tok), ks.length ≤ f → here L p = (ks.map (·.1)).flatMap (c :: ·) ++ r → fol r → noW x r →
   jg L x part f acc ⟨p, 0⟩ = (acc ++ ks.map (·.2), ⟨p + ((ks.map (·.1)).flatMap (c :: ·)).length, 0⟩) := by
 induction ks with
 |nil =>
  intro f acc p r hf hh hr hn
  have hw : isW L x ⟨p, 0⟩ = false := yC (l := r) hh hn
  cases f with
  |zero => simp [jg]
  |succ f => rw [jg, hw]; simp
 |cons k ks ih =>
  intro f acc p r hf hh hr hn
  cases f with
  |zero => simp at hf
  |succ f =>
   have hh1 : here L p = c :: (k.1 ++ ((ks.map (·.1)).flatMap (c :: ·) ++ r)) := by rw [hh]; simp
   have hw : isW L x ⟨p, 0⟩ = true := by rw [au hh1]; exact hx
   have hh2 := (aP hh1).2
   have hfk : fol ((ks.map (·.1)).flatMap (c :: ·) ++ r) := by
    cases ks with
    |nil => exact hr
    |cons k2 ks => exact hfol _
   have hp := h k (by simp) (p + 1) _ hh2 hfk
   have hh3 := cK k.1 hh2
   rw [jg, hw, if_pos rfl, show adv ⟨p, 0⟩ = ⟨p + 1, 0⟩ from rfl, hp]
   rw [ih (fun q hq => h q (by simp [hq])) f _ _ r (by simpa using hf) hh3 hr hn]
   simp only [List.map_cons, List.flatMap_cons, List.length_append, List.length_cons, List.append_assoc, List.singleton_append]
   refine Prod.ext rfl ?_
   show (⟨_, 0⟩ : St) = ⟨_, 0⟩
   congr 1; omega
theorem Ai {L : aW} {op : Int} {x : ByteArray} {part : St → Tm × St} {fol : List Tok → Prop} {c : Tok} (hx : isWord x c = true) (hfol : ∀ r, fol (c :: r)) (k : List Tok × Tm) (ks : List (List Tok × Tm)) (h : ∀ q ∈ k :: ks, RdT L part q.1 fol q.2) :
  RdT L (vD L op x part) (lF ((k :: ks).map (·.1)) c) (fun r => fol r ∧ noW x r) (Io op ((k :: ks).map (·.2))) := by
 intro p r hh hr
 have hh1 : here L p = k.1 ++ ((ks.map (·.1)).flatMap (c :: ·) ++ r) := by rw [hh]; simp [lF]
 have hfk : fol ((ks.map (·.1)).flatMap (c :: ·) ++ r) := by
  cases ks with
  |nil => exact hr.1
  |cons k2 ks => exact hfol _
 have hp := h k (by simp) p _ hh1 hfk
 have hh2 := cK k.1 hh1
 have hlen : ks.length ≤ L.length := by
  have a := uN hh2
  have b := wU c (ks.map (·.1))
  simp only [List.length_append, List.length_map] at a b
  omega
 have hg := D5 hx hfol ks (fun q hq => h q (by simp [hq])) L.length [k.2] _ r hlen hh2 hr.1 hr.2
 unfold vD
 rw [hp]
 simp only
 rw [hg]
 refine Prod.ext rfl ?_
 show (⟨_, 0⟩ : St) = ⟨_, 0⟩
 simp only [lF, List.map_cons, List.length_append]
 congr 1; omega

def IE (r : List Tok) : Prop := noW (⟨#[38]⟩ : ByteArray) r
def wC (r : List Tok) : Prop := noW (⟨#[38]⟩ : ByteArray) r ∧ noW (⟨#[124]⟩ : ByteArray) r
def lp : Tok := iB 40
def rp : Tok := iB 41
def comma : Tok := iB 44
def star : Tok := iB 42
theorem Cn (r : List Tok) : wC (rp :: r) := ⟨fD (by decide), fD (by decide)⟩

theorem DK {L : aW} {pt : St → Tm × St} {ts : List Tok} {t : Tm} (h : RdT L pt ts wC t) : RdT L (bV L pt) (lp :: (ts ++ [rp])) (fun _ => True) t := by
 intro p r hh _
 have hh1 : here L p = lp :: (ts ++ (rp :: r)) := by rw [hh]; simp
 have hh2 := (aP hh1).2
 have hp := h (p + 1) _ hh2 (Cn r)
 have hh3 := cK ts hh2
 have hi : isInt L ⟨p, 0⟩ = false := by unfold isInt; rw [(aP hh1).1]; rfl
 have hw : isW L (⟨#[40]⟩ : ByteArray) ⟨p, 0⟩ = true := by rw [au hh1]; decide
 unfold bV
 rw [hi, hw]
 simp only [Bool.false_eq_true, if_false, if_true]
 rw [show adv ⟨p, 0⟩ = ⟨p + 1, 0⟩ from rfl, hp]
 simp only
 rw [gU hh3 (by decide)]
 refine Prod.ext rfl ?_
 show (⟨_, 0⟩ : St) = ⟨_, 0⟩
 simp only [List.length_cons, List.length_append, List.length_nil]
 congr 1; omega

structure El where
 ts : List Tok
 t : Tm
 w : Int
 hv : Bool
def folT (r : List Tok) : Prop := wC r ∧ noW (⟨#[42]⟩ : ByteArray) r
def BodyR (L : aW) (pt : St → Tm × St) (e : El) : Prop := ∀ (q : Thr) p r, here L p = e.ts ++ r → folT r → iN L pt q ⟨p, 0⟩ = (⟨q.kids ++ [e.t], q.ws ++ [e.w], q.heavy || e.hv⟩, ⟨p + e.ts.length, 0⟩)
theorem J2 (r : List Tok) : folT (comma :: r) := ⟨⟨fD (by decide), fD (by decide)⟩, fD (by decide)⟩
theorem folT_rp (r : List Tok) : folT (rp :: r) := ⟨Cn r, fD (by decide)⟩
theorem AZ {L : aW} {pt : St → Tm × St} {ts : List Tok} {t : Tm} (h : RdT L pt ts wC t) : BodyR L pt ⟨ts, t, 1, false⟩ := by
 intro q p r hh hf
 have hp := h p r hh hf.1
 have hw := yC (cK ts hh) hf.2
 unfold iN
 rw [hp]
 simp only
 rw [hw]
 simp
theorem A8 {L : aW} {pt : St → Tm × St} {ts : List Tok} {t : Tm} {w : Int} (h : RdT L pt ts wC t) (hw : small w = true) : BodyR L pt ⟨ts ++ [star, iE w], t, w, true⟩ := by
 intro q p r hh hf
 have hh1 : here L p = ts ++ (star :: iE w :: r) := by rw [hh]; simp
 have hp := h p _ hh1 ⟨fD (by decide), fD (by decide)⟩
 have hh2 := cK ts hh1
 have hs : isW L (⟨#[42]⟩ : ByteArray) ⟨p + ts.length, 0⟩ = true := by rw [au hh2]; decide
 have hn := wO (aP hh2).2 hw
 unfold iN
 rw [hp]
 simp only
 rw [hs, if_pos rfl, show adv ⟨p + ts.length, 0⟩ = ⟨p + ts.length + 1, 0⟩ from rfl, hn]
 simp only [Bool.or_true, List.length_append, List.length_cons, List.length_nil]
 refine Prod.ext rfl ?_
 show (⟨_, 0⟩ : St) = ⟨_, 0⟩
 congr 1
theorem FH {L : aW} {pt : St → Tm × St} (es : List El) : ∀ (e : El), (∀ q ∈ e :: es, BodyR L pt q) →
  ∀ (f : Nat) (q : Thr) (p : Nat) (r : List Tok), es.length + 1 ≤ f → here L p = lF ((e :: es).map (·.ts)) comma ++ r → folT r → noW (⟨#[44]⟩ : ByteArray) r →
   nN L pt f q ⟨p, 0⟩ = (⟨q.kids ++ (e :: es).map (·.t), q.ws ++ (e :: es).map (·.w), q.heavy || (e :: es).any (·.hv)⟩, ⟨p + (lF ((e :: es).map (·.ts)) comma).length, 0⟩) := by
 induction es with
 |nil =>
  intro e h f q p r hf hh hr hn
  cases f with
  |zero => omega
  |succ f =>
   have hh1 : here L p = e.ts ++ r := by rw [hh]; simp [lF]
   have hb := h e (by simp) q p r hh1 hr
   have hw := yC (cK e.ts hh1) hn
   rw [nN, if_pos rfl, hb]
   simp only
   rw [hw]
   simp [lF]
 |cons e2 es ih =>
  intro e h f q p r hf hh hr hn
  cases f with
  |zero => omega
  |succ f =>
   have hh1 : here L p = e.ts ++ (comma :: (lF ((e2 :: es).map (·.ts)) comma ++ r)) := by rw [hh]; simp [lF]
   have hb := h e (by simp) q p _ hh1 (J2 _)
   have hh2 := cK e.ts hh1
   have hw : isW L (⟨#[44]⟩ : ByteArray) ⟨p + e.ts.length, 0⟩ = true := by rw [au hh2]; decide
   have hg := ih e2 (fun q hq => h q (by simp only [List.mem_cons] at hq ⊢; exact Or.inr hq)) f ⟨q.kids ++ [e.t], q.ws ++ [e.w], q.heavy || e.hv⟩ _ r (by simp at hf; omega) (aP hh2).2 hr hn
   rw [nN, if_pos rfl, hb]
   simp only
   rw [hw, if_pos rfl, show adv ⟨p + e.ts.length, 0⟩ = ⟨p + e.ts.length + 1, 0⟩ from rfl, hg]
   simp only [List.map_cons, List.any_cons, List.append_assoc, List.singleton_append, Bool.or_assoc, lF, List.flatMap_cons, List.length_append, List.length_cons]
   refine Prod.ext rfl ?_
   show (⟨_, 0⟩ : St) = ⟨_, 0⟩
   congr 1; omega
theorem Dl {L : aW} {pt : St → Tm × St} {n : Int} (hn : small n = true) (e : El) (es : List El) (h : ∀ q ∈ e :: es, BodyR L pt q) :
  RdT L (bV L pt) ([iE n, lp] ++ lF ((e :: es).map (·.ts)) comma ++ [rp]) (fun _ => True) (.mk 2 (bs []) n (if (e :: es).any (·.hv) then (e :: es).map (·.w) else []) ((e :: es).map (·.t))) := by
 intro p r hh _
 have hh1 : here L p = iE n :: lp :: (lF ((e :: es).map (·.ts)) comma ++ (rp :: r)) := by rw [hh]; simp
 have hi : isInt L ⟨p, 0⟩ = true := by unfold isInt; rw [(aP hh1).1]; rfl
 have hh2 := (aP hh1).2
 have hnm := wO hh1 hn
 have hh3 := (aP hh2).2
 have hfuel : es.length + 1 ≤ L.length + 1 := by
  have a := uN hh3
  have b := wU comma (es.map (·.ts))
  simp only [lF, List.map_cons, List.length_append, List.length_map] at a b
  omega
 have hg := FH es e h (L.length + 1) ⟨[], [], false⟩ (p + 1 + 1) (rp :: r) hfuel hh3 (folT_rp r) (fD (by decide))
 have hh4 := cK _ hh3
 unfold bV
 rw [hi, if_pos rfl]
 unfold pThr
 rw [hnm]
 simp only
 rw [gU hh2 (by decide), hg]
 simp only [List.nil_append, Bool.false_or]
 rw [gU hh4 (by decide)]
 refine Prod.ext rfl ?_
 show (⟨_, 0⟩ : St) = ⟨_, 0⟩
 simp only [List.length_append, List.length_cons, List.length_nil]
 congr 1; omega

theorem Ef {L : aW} {p : Nat} {b : List UInt8} {r : List Tok} (h : here L p = aF b :: r) (hb : dN b = true) (hf : (gZ (bs b) != 0) = true) :
  isInt L ⟨p, 0⟩ = false ∧ isW L (⟨#[40]⟩ : ByteArray) ⟨p, 0⟩ = false ∧ jF L ⟨p, 0⟩ = true ∧ txt L ⟨p, 0⟩ = bs b := by
 refine ⟨?_, ?_, ?_, ?_⟩
 ·unfold isInt; rw [(aP h).1]; rfl
 ·rw [au h]; exact wG hb (by decide)
 ·unfold jF; rw [(aP h).1]
  show ((1 : Nat) == 1 && gZ (bs b) != 0) = true
  rw [hf]; rfl
 ·unfold txt; rw [(aP h).1]; rfl
theorem Kk {L : aW} {pt : St → Tm × St} {ts : List Tok} {t : Tm} (h : RdT L pt ts wC t) : RdT L (bV L pt) ([aF [100, 117, 97, 108], lp] ++ ts ++ [rp]) (fun _ => True) (.mk 5 (bs []) 0 [] [t]) := by
 intro p r hh _
 have hh1 : here L p = aF [100, 117, 97, 108] :: lp :: (ts ++ (rp :: r)) := by rw [hh]; simp
 obtain ⟨f1, f2, f3, f4⟩ := Ef hh1 (by decide) (by decide)
 have hh2 := (aP hh1).2
 have hh3 := (aP hh2).2
 have hp := h _ _ hh3 (Cn r)
 have hh4 := cK ts hh3
 unfold bV
 rw [f1, f2, f3, f4]
 simp only [Bool.false_eq_true, if_false, if_true]
 rw [if_pos (by decide), show adv ⟨p, 0⟩ = ⟨p + 1, 0⟩ from rfl, gU hh2 (by decide), hp]
 simp only
 rw [gU hh4 (by decide)]
 refine Prod.ext rfl ?_
 show (⟨_, 0⟩ : St) = ⟨_, 0⟩
 simp only [List.length_append, List.length_cons, List.length_nil]
 congr 1; omega
theorem sM {L : aW} {pt : St → Tm × St} {b : List UInt8} {nm : ByteArray} (hb : dN b = true) {k : Nat} (hk : gZ (bs b) = k) (h0 : k ≠ 0) (h5 : k ≠ 5) (hn : (bO nm || nm == (⟨#[115, 101, 114, 118, 101, 114, 115]⟩ : ByteArray)) = true) :
  RdT L (bV L pt) [aF b, lp, aF nm.data.toList, rp] (fun _ => True) (.mk k nm 0 [] []) := by
 intro p r hh _
 have hh1 : here L p = aF b :: lp :: aF nm.data.toList :: rp :: r := by rw [hh]; simp
 obtain ⟨f1, f2, f3, f4⟩ := Ef hh1 hb (by rw [hk]; simp [h0])
 have hh2 := (aP hh1).2
 have hh3 := (aP hh2).2
 have hh4 := (aP hh3).2
 have hg : lg L ⟨p + 1 + 1, 0⟩ = (nm, ⟨p + 1 + 1 + 1, 0⟩) := by
  unfold lg
  rw [au hh3]
  by_cases hs : nm = (⟨#[115, 101, 114, 118, 101, 114, 115]⟩ : ByteArray)
  ·subst hs; rw [show isWord (⟨#[115, 101, 114, 118, 101, 114, 115]⟩ : ByteArray) (aF ((⟨#[115, 101, 114, 118, 101, 114, 115]⟩ : ByteArray)).data.toList) = true by decide, if_pos rfl]; rfl
  ·rw [IY hs, Bool.or_false] at hn
   rw [qG hn (by simp [words]), if_neg (by simp)]
   exact gF hh3 hn
 unfold bV
 rw [f1, f2, f3, f4]
 simp only [Bool.false_eq_true, if_false, if_true]
 rw [hk, if_neg h5, show adv ⟨p, 0⟩ = ⟨p + 1, 0⟩ from rfl, gU hh2 (by decide), hg]
 simp only
 rw [gU hh4 (by decide)]
 rfl
theorem F8 {L : aW} {pt : St → Tm × St} {nm : ByteArray} (hn : bO nm = true) : RdT L (bV L pt) [aF nm.data.toList] (fun _ => True) (.mk 1 nm 0 [] []) := by
 intro p r hh _
 have hh1 : here L p = aF nm.data.toList :: r := hh
 have hi : isInt L ⟨p, 0⟩ = false := by unfold isInt; rw [(aP hh1).1]; rfl
 have hw : isW L (⟨#[40]⟩ : ByteArray) ⟨p, 0⟩ = false := by rw [au hh1]; exact wG (fq hn) (by decide)
 have hf : jF L ⟨p, 0⟩ = false := by
  unfold jF
  rw [(aP hh1).1]
  show ((1 : Nat) == 1 && gZ (bs nm.data.toList) != 0) = false
  rw [dY]
  have hr := BQ hn
  have hne : ∀ x ∈ words, (nm == x) = false := fun x hx => by
   cases e : (nm == x)
   ·rfl
   ·have : reserved nm = true := List.any_eq_true.2 ⟨x, hx, e⟩
    rw [this] at hr; cases hr
  unfold gZ
  rw [hne _ (by simp [words]), hne _ (by simp [words]), hne _ (by simp [words]), hne _ (by simp [words])]
  rfl
 unfold bV
 rw [hi, hw, hf]
 simp only [Bool.false_eq_true, if_false]
 rw [gF hh1 hn]; rfl

theorem jd {op : Int} {nm : ByteArray} {nd : Int} {ws : List Int} {ks : List Tm} (h : bare (.mk op nm nd ws ks) = true) : nd = 0 ∧ ws = [] ∧ ks = [] := by
 have e : bare (.mk op nm nd ws ks) = (decide (nd = 0) && decide (ws.length + ks.length = 0)) := rfl
 rw [e] at h
 simp only [Bool.and_eq_true, decide_eq_true_eq] at h
 exact ⟨h.1, List.length_eq_zero_iff.1 (by omega), List.length_eq_zero_iff.1 (by omega)⟩
theorem yu (op : Int) (l : List Tm) (h : 2 ≤ l.length) : Io op l = .mk op (bs []) 0 [] l := by
 match l with
 |[] => simp at h
 |[t] => simp at h
 |a :: b :: r => rfl
theorem jy {x : ByteArray} (h : x.size = 0) : x = bs [] := by
 rw [← dY x]
 have : x.data.toList.length = 0 := by simpa using h
 rw [List.length_eq_zero_iff.1 this]
theorem depth_kid {t k : Tm} (h : k ∈ t.kids) : dz k + 1 ≤ dz t := by
 cases t with
 |mk op nm nd ws ks =>
  rw [dz]
  have : ∀ (l : List Tm), k ∈ l → dz k ≤ eX l := by
   intro l
   induction l with
   |nil => intro h; simp at h
   |cons a r ih =>
    intro h
    rw [eX]
    rcases List.mem_cons.1 h with rfl | h
    ·omega
    ·have := ih h; omega
  have := this ks h
  omega
theorem Ey (t : Tm) : 1 ≤ dz t := by cases t; rw [dz]; omega

structure AllR (L : aW) (t : Tm) : Prop where
 fac : ∀ g, dz t ≤ g + 1 → t.op ≠ 3 → t.op ≠ 4 → RdT L (bV L (je L g)) (tt t) (fun _ => True) t
 con : ∀ g, dz t ≤ g + 1 → t.op ≠ 4 → RdT L (pK L (je L g)) (tt t) IE t
 trm : ∀ g, dz t ≤ g → RdT L (je L g) (tt t) wC t

theorem xR {L : aW} {op : Int} {x : ByteArray} {part : St → Tm × St} {fol : List Tok → Prop} {ts : List Tok} {t : Tm} (h : RdT L part ts fol t) : RdT L (vD L op x part) ts (fun r => fol r ∧ noW x r) t := by
 intro p r hh hr
 have hp := h p r hh hr.1
 have hw := yC (cK ts hh) hr.2
 unfold vD
 rw [hp]
 simp only
 have : jg L x part L.length [t] ⟨p + ts.length, 0⟩ = ([t], ⟨p + ts.length, 0⟩) := by
  cases L.length with
  |zero => rfl
  |succ n => rw [jg, hw]; rfl
 rw [this]; rfl
theorem vo {ops : List Int} {k : Tm} (h : ops.contains k.op = true) : aK (og ops k (dB k)) = lp :: (tt k ++ [rp]) := by
 unfold og; rw [h, if_pos rfl, aM, aM]; rfl
theorem xq {ops : List Int} {k : Tm} (h : ops.contains k.op = false) : aK (og ops k (dB k)) = tt k := by
 unfold og; rw [h]; rfl

theorem all_reads (L : aW) : ∀ (n : Nat) (t : Tm), av t ≤ n → jf t = true → AllR L t := by
 intro n
 induction n with
 |zero =>
   intro t ht; have : 0 < av t := by (cases t; rw [av]; omega)
   omega
 |succ n ih =>
  intro t ht hok
  obtain ⟨h1, h2, h3⟩ := mh hok
  have hs := eP t
  have hk : ∀ k ∈ t.kids, AllR L k := fun k hk => ih k (by have := dh hk; omega) (h3 k hk)
  have hd : ∀ k ∈ t.kids, dz k + 1 ≤ dz t := fun k hk => depth_kid hk
  clear ih hs ht
  have fac : ∀ g, dz t ≤ g + 1 → t.op ≠ 3 → t.op ≠ 4 → RdT L (bV L (je L g)) (tt t) (fun _ => True) t := by
   intro g hg n3 n4
   obtain ⟨op, nm, nd, ws, ks⟩ := t
   have hk : ∀ k ∈ ks, AllR L k := hk
   have hd : ∀ k ∈ ks, dz k + 1 ≤ dz (.mk op nm nd ws ks) := hd
   have h2 : ∀ w ∈ ws, small w = true := h2
   have n3 : op ≠ 3 := n3
   have n4 : op ≠ 4 := n4
   unfold tt
   rcases Gj h1 with rfl | rfl | rfl | rfl | rfl | rfl | rfl | rfl
   ·rw [Ck, Bool.and_eq_true] at h1
    obtain ⟨rfl, rfl, rfl⟩ := jd h1.2
    rw [pcs1]; exact F8 h1.1
   ·rw [Cj] at h1
    simp only [Bool.and_eq_true, Bool.or_eq_true, decide_eq_true_eq] at h1
    obtain ⟨⟨⟨hnm, hnd⟩, hk0⟩, hww⟩ := h1
    obtain rfl := jy hnm
    have hrd : ∀ k ∈ ks, RdT L (je L g) (tt k) wC k := fun k hk' => (hk k hk').trm g (by have := hd k hk'; omega)
    have etoks : ∀ (ls : List (List Pc)), aK ([.int nd, .sym 40] ++ nQ ls rW ++ [.sym 41]) = [iE nd, lp] ++ lF (ls.map aK) comma ++ [rp] := by
     intro ls
     rw [aM, aM, kX ls rW comma rfl]; rfl
    rw [pcs2, etoks]
    obtain ⟨k0, kr, rfl⟩ : ∃ k0 kr, ks = k0 :: kr := by
     cases ks with
     |nil => simp at hk0
     |cons a b => exact ⟨a, b, rfl⟩
    by_cases hw0 : ws.length = 0
    ·obtain rfl : ws = [] := List.length_eq_zero_iff.1 hw0
     have e1 : jw [] ((k0 :: kr).map dB) = (k0 :: kr).map dB := rfl
     have key := Dl (L := L) (pt := je L g) hnd ⟨tt k0, k0, 1, false⟩ (kr.map fun k => ⟨tt k, k, 1, false⟩) (by
      intro q hq
      rcases List.mem_cons.1 hq with rfl | hq
      ·exact AZ (hrd k0 (by simp))
      ·obtain ⟨k, hk', rfl⟩ := List.mem_map.1 hq
       exact AZ (hrd k (by simp [hk'])))
     have ea : ((⟨tt k0, k0, 1, false⟩ : El) :: kr.map fun k => (⟨tt k, k, 1, false⟩ : El)).any (·.hv) = false := by
      rw [List.any_eq_false]
      intro q hq
      rcases List.mem_cons.1 hq with rfl | hq
      ·simp
      ·obtain ⟨k, -, rfl⟩ := List.mem_map.1 hq; simp
     rw [ea] at key
     have et : ((⟨tt k0, k0, 1, false⟩ : El) :: kr.map fun k => (⟨tt k, k, 1, false⟩ : El)).map (·.t) = k0 :: kr := by simp [List.map_map, Function.comp_def]
     have es : ((⟨tt k0, k0, 1, false⟩ : El) :: kr.map fun k => (⟨tt k, k, 1, false⟩ : El)).map (·.ts) = ((k0 :: kr).map dB).map aK := by simp [List.map_map, Function.comp_def, tt]
     rw [et, es] at key
     rw [e1]; exact key
    ·have hwl : ws.length = (k0 :: kr).length := by
        rcases hww with h | h
        ·exact absurd h hw0
        ·exact h
     obtain ⟨w0, wr, rfl⟩ : ∃ w0 wr, ws = w0 :: wr := by
      cases ws with
      |nil => simp at hw0
      |cons a b => exact ⟨a, b, rfl⟩
     have hwr : wr.length = kr.length := by simpa using hwl
     have e1 : jw (w0 :: wr) ((k0 :: kr).map dB) = List.zipWith (fun x w => x ++ [Pc.sym 42, Pc.int w]) ((k0 :: kr).map dB) (w0 :: wr) := by unfold jw; rw [if_neg hw0]
     have key := Dl (L := L) (pt := je L g) hnd ⟨tt k0 ++ [star, iE w0], k0, w0, true⟩ (List.zipWith (fun k w => ⟨tt k ++ [star, iE w], k, w, true⟩) kr wr) (by
      intro q hq
      rcases List.mem_cons.1 hq with rfl | hq
      ·exact A8 (hrd k0 (by simp)) (h2 w0 List.mem_cons_self)
      ·obtain ⟨i, hi, rfl⟩ := List.mem_iff_getElem.1 hq
       rw [List.length_zipWith] at hi
       rw [List.getElem_zipWith]
       exact A8 (hrd _ (by simp)) (h2 _ (List.mem_cons_of_mem _ (List.getElem_mem _))))
     have zt : ∀ (a : List Tm) (b : List Int), b.length = a.length → (List.zipWith (fun k w => (⟨tt k ++ [star, iE w], k, w, true⟩ : El)) a b).map (·.t) = a := by
      intro a
      induction a with
      |nil => intro b _; simp
      |cons x r ih => intro b hb; cases b with
       |nil => simp at hb
       |cons y s => simp only [List.length_cons, Nat.add_right_cancel_iff] at hb; rw [List.zipWith_cons_cons, List.map_cons, ih s hb]
     have zw : ∀ (a : List Tm) (b : List Int), b.length = a.length → (List.zipWith (fun k w => (⟨tt k ++ [star, iE w], k, w, true⟩ : El)) a b).map (·.w) = b := by
      intro a
      induction a with
      |nil => intro b hb; simp at hb; simp [hb]
      |cons x r ih => intro b hb; cases b with
       |nil => simp at hb
       |cons y s => simp only [List.length_cons, Nat.add_right_cancel_iff] at hb; rw [List.zipWith_cons_cons, List.map_cons, ih s hb]
     have zs : ∀ (a : List Tm) (b : List Int), (List.zipWith (fun k w => (⟨tt k ++ [star, iE w], k, w, true⟩ : El)) a b).map (·.ts) = (List.zipWith (fun x w => x ++ [Pc.sym 42, Pc.int w]) (a.map dB) b).map aK := by
      intro a
      induction a with
      |nil => intro b; simp
      |cons x r ih => intro b; cases b with
       |nil => simp
       |cons y s =>
        simp only [List.zipWith_cons_cons, List.map_cons]
        rw [ih s, aM]; rfl
     have c0 : (⟨tt k0 ++ [star, iE w0], k0, w0, true⟩ : El) :: List.zipWith (fun k w => (⟨tt k ++ [star, iE w], k, w, true⟩ : El)) kr wr = List.zipWith (fun k w => (⟨tt k ++ [star, iE w], k, w, true⟩ : El)) (k0 :: kr) (w0 :: wr) := rfl
     have ea : ((⟨tt k0 ++ [star, iE w0], k0, w0, true⟩ : El) :: List.zipWith (fun k w => (⟨tt k ++ [star, iE w], k, w, true⟩ : El)) kr wr).any (·.hv) = true := rfl
     rw [ea, if_pos rfl, c0, zt _ _ hwl, zw _ _ hwl, zs] at key
     rw [e1]; exact key
   ·exact absurd rfl n3
   ·exact absurd rfl n4
   ·rw [Ci] at h1
    simp only [Bool.and_eq_true, decide_eq_true_eq] at h1
    obtain ⟨⟨⟨hnm, hnd⟩, hw⟩, hkl⟩ := h1
    obtain rfl := jy hnm
    subst hnd
    obtain rfl : ws = [] := List.length_eq_zero_iff.1 hw
    obtain ⟨k, rfl⟩ := List.length_eq_one_iff.1 hkl
    rw [pcs5, aM, aM]
    exact Kk ((hk k List.mem_cons_self).trm g (by have := hd k List.mem_cons_self; omega))
   ·rw [Ch, Bool.and_eq_true] at h1
    obtain ⟨rfl, rfl, rfl⟩ := jd h1.2
    rw [pcs6]; exact sM (k := 6) (by decide) (by decide) (by decide) (by decide) h1.1
   ·rw [Cg, Bool.and_eq_true] at h1
    obtain ⟨rfl, rfl, rfl⟩ := jd h1.2
    rw [pcs7]; exact sM (k := 7) (by decide) (by decide) (by decide) (by decide) h1.1
   ·rw [Cf, Bool.and_eq_true] at h1
    obtain ⟨rfl, rfl, rfl⟩ := jd h1.2
    rw [pcs8]; exact sM (k := 8) (by decide) (by decide) (by decide) (by decide) h1.1
  have con : ∀ g, dz t ≤ g + 1 → t.op ≠ 4 → RdT L (pK L (je L g)) (tt t) IE t := by
   intro g hg n4
   by_cases n3 : t.op = 3
   ·obtain ⟨op, nm, nd, ws, ks⟩ := t
    have hk : ∀ k ∈ ks, AllR L k := hk
    have hd : ∀ k ∈ ks, dz k + 1 ≤ dz (.mk op nm nd ws ks) := hd
    obtain rfl : op = 3 := n3
    rw [Iz] at h1
    simp only [Bool.and_eq_true, decide_eq_true_eq] at h1
    obtain ⟨⟨⟨hnm, hnd⟩, hw⟩, hkl⟩ := h1
    obtain rfl := jy hnm
    subst hnd
    obtain rfl : ws = [] := List.length_eq_zero_iff.1 hw
    have hpart : ∀ k ∈ ks, RdT L (bV L (je L g)) (aK (og [3, 4] k (dB k))) (fun _ => True) k := by
     intro k hk'
     have hdk := hd k hk'
     cases hc : ([3, 4] : List Int).contains k.op
     ·rw [xq hc]
      have : k.op ≠ 3 ∧ k.op ≠ 4 := by simpa using hc
      exact (hk k hk').fac g (by omega) this.1 this.2
     ·rw [vo hc]
      exact DK ((hk k hk').trm g (by omega))
    obtain ⟨k0, kr, rfl⟩ : ∃ k0 kr, ks = k0 :: kr := by
     cases ks with
     |nil => simp at hkl
     |cons a b => exact ⟨a, b, rfl⟩
    unfold tt
    rw [pcs3, kX _ yX (iB 38) rfl]
    have key := Ai (L := L) (op := 3) (x := (⟨#[38]⟩ : ByteArray)) (part := bV L (je L g)) (fol := fun _ => True) (c := iB 38) (by decide) (fun _ => trivial) (aK (og [3, 4] k0 (dB k0)), k0) (kr.map fun k => (aK (og [3, 4] k (dB k)), k)) (by
     intro q hq
     rcases List.mem_cons.1 hq with rfl | hq
     ·exact hpart k0 (by simp)
     ·obtain ⟨k, hk', rfl⟩ := List.mem_map.1 hq
      exact hpart k (by simp [hk']))
    have e1 : ((aK (og [3, 4] k0 (dB k0)), k0) :: kr.map fun k => (aK (og [3, 4] k (dB k)), k)).map (·.1) = ((k0 :: kr).map fun k => og [3, 4] k (dB k)).map aK := by simp [List.map_map, Function.comp_def]
    have e2 : ((aK (og [3, 4] k0 (dB k0)), k0) :: kr.map fun k => (aK (og [3, 4] k (dB k)), k)).map (·.2) = k0 :: kr := by simp [List.map_map, Function.comp_def]
    rw [e1, e2, yu 3 _ hkl] at key
    exact key.mono fun r hr => ⟨trivial, hr⟩
   ·exact (xR (fac g hg n3 n4)).mono fun r hr => ⟨trivial, hr⟩
  refine ⟨fac, con, ?_⟩
  intro g hg
  obtain ⟨g, rfl⟩ : ∃ q, g = q + 1 := ⟨g - 1, by have := Ey t; omega⟩
  show RdT L (pOr L (je L g)) (tt t) wC t
  by_cases n4 : t.op = 4
  ·obtain ⟨op, nm, nd, ws, ks⟩ := t
   have hk : ∀ k ∈ ks, AllR L k := hk
   have hd : ∀ k ∈ ks, dz k + 1 ≤ dz (.mk op nm nd ws ks) := hd
   obtain rfl : op = 4 := n4
   rw [Iy] at h1
   simp only [Bool.and_eq_true, decide_eq_true_eq] at h1
   obtain ⟨⟨⟨hnm, hnd⟩, hw⟩, hkl⟩ := h1
   obtain rfl := jy hnm
   subst hnd
   obtain rfl : ws = [] := List.length_eq_zero_iff.1 hw
   have hpart : ∀ k ∈ ks, RdT L (pK L (je L g)) (aK (og [4] k (dB k))) IE k := by
    intro k hk'
    have hdk := hd k hk'
    cases hc : ([4] : List Int).contains k.op
    ·rw [xq hc]
     have : k.op ≠ 4 := by simpa using hc
     exact (hk k hk').con g (by omega) this
    ·rw [vo hc]
     exact (xR (DK ((hk k hk').trm g (by omega)))).mono fun r hr => ⟨trivial, hr⟩
   obtain ⟨k0, kr, rfl⟩ : ∃ k0 kr, ks = k0 :: kr := by
    cases ks with
    |nil => simp at hkl
    |cons a b => exact ⟨a, b, rfl⟩
   unfold tt
   rw [pcs4, kX _ um (iB 124) rfl]
   have key := Ai (L := L) (op := 4) (x := (⟨#[124]⟩ : ByteArray)) (part := pK L (je L g)) (fol := IE) (c := iB 124) (by decide) (fun _ => fD (by decide)) (aK (og [4] k0 (dB k0)), k0) (kr.map fun k => (aK (og [4] k (dB k)), k)) (by
    intro q hq
    rcases List.mem_cons.1 hq with rfl | hq
    ·exact hpart k0 (by simp)
    ·obtain ⟨k, hk', rfl⟩ := List.mem_map.1 hq
     exact hpart k (by simp [hk']))
   have e1 : ((aK (og [4] k0 (dB k0)), k0) :: kr.map fun k => (aK (og [4] k (dB k)), k)).map (·.1) = ((k0 :: kr).map fun k => og [4] k (dB k)).map aK := by simp [List.map_map, Function.comp_def]
   have e2 : ((aK (og [4] k0 (dB k0)), k0) :: kr.map fun k => (aK (og [4] k (dB k)), k)).map (·.2) = k0 :: kr := by simp [List.map_map, Function.comp_def]
   rw [e1, e2, yu 4 _ hkl] at key
   exact key
  ·exact xR (con g hg n4)

theorem Bt (c : Tok) (l : List (List Tok)) (x : List Tok) (h : x ∈ l) : x.length + 1 ≤ (l.flatMap (c :: ·)).length := by
 induction l with
 |nil => simp at h
 |cons a r ih =>
  simp only [List.flatMap_cons, List.length_append, List.length_cons]
  rcases List.mem_cons.1 h with rfl | h
  ·omega
  ·have := ih h; omega
theorem DZ (c : Tok) (l : List (List Tok)) (h2 : 2 ≤ l.length) (hp : ∀ y ∈ l, 1 ≤ y.length) (x : List Tok) (h : x ∈ l) : x.length + 1 ≤ (lF l c).length := by
 match l with
 |[] => simp at h2
 |[a] => simp at h2
 |a :: b :: r =>
  simp only [lF, List.length_append]
  rcases List.mem_cons.1 h with rfl | h
  ·have := Bt c (b :: r) b (by simp); omega
  ·have := Bt c (b :: r) x h; have := hp a (by simp); omega
theorem join_len1 (c : Tok) (l : List (List Tok)) (x : List Tok) (h : x ∈ l) : x.length ≤ (lF l c).length := by
 cases l with
 |nil => simp at h
 |cons a r =>
  simp only [lF, List.length_append]
  rcases List.mem_cons.1 h with rfl | h
  ·omega
  ·have := Bt c r x h; omega
theorem BI (ops : List Int) (k : Tm) : (tt k).length ≤ (aK (og ops k (dB k))).length := by
 cases hc : ops.contains k.op
 ·rw [xq hc]; exact Nat.le_refl _
 ·rw [vo hc]; simp only [List.length_cons, List.length_append]; omega
theorem nE {t : Tm} {n : Nat} (h : ∀ k ∈ t.kids, dz k + 1 ≤ n) (h0 : 1 ≤ n) : dz t ≤ n := by
 cases t with
 |mk op nm nd ws ks =>
  have h : ∀ k ∈ ks, dz k + 1 ≤ n := h
  rw [dz]
  have : ∀ (l : List Tm), (∀ k ∈ l, dz k + 1 ≤ n) → eX l + 1 ≤ n := by
   intro l
   induction l with
   |nil => intro _; rw [eX]; omega
   |cons a r ih =>
    intro h
    rw [eX]
    have a1 := h a (by simp)
    have a2 := ih (fun k hk => h k (by simp [hk]))
    omega
  exact this ks h
theorem Bo : ∀ (n : Nat) (t : Tm), av t ≤ n → jf t = true → dz t ≤ (tt t).length := by
 intro n
 induction n with
 |zero =>
   intro t ht; have : 0 < av t := by (cases t; rw [av]; omega)
   omega
 |succ n ih =>
  intro t ht hok
  obtain ⟨h1, h2, h3⟩ := mh hok
  have hs := eP t
  obtain ⟨op, nm, nd, ws, ks⟩ := t
  have hs : av (.mk op nm nd ws ks) = 1 + nm.size + ws.length + aZ ks := hs
  have hk : ∀ k ∈ ks, dz k ≤ (tt k).length := fun k hk => ih k (by have := dh hk; omega) (h3 k hk)
  have hp : ∀ k ∈ ks, 1 ≤ (tt k).length := fun k hk' => Nat.le_trans (Ey k) (hk k hk')
  unfold tt
  rcases Gj h1 with rfl | rfl | rfl | rfl | rfl | rfl | rfl | rfl
  ·rw [Ck, Bool.and_eq_true] at h1
   obtain ⟨rfl, rfl, rfl⟩ := jd h1.2
   rw [pcs1]; exact nE (fun k hk => by simp [Tm.kids] at hk) (by simp [aK, Pc.toks])
  ·rw [pcs2, aM, aM, kX _ rW comma rfl]
   refine nE (fun k hk' => ?_) (by simp [aK, Pc.toks])
   have hk' : k ∈ ks := hk'
   have a := hk k hk'
   rw [Cj] at h1
   simp only [Bool.and_eq_true, Bool.or_eq_true, decide_eq_true_eq] at h1
   have hww := h1.2
   have key : ∃ x ∈ (jw ws (ks.map dB)).map aK, (tt k).length ≤ x.length := by
    obtain ⟨i, hi, rfl⟩ := List.mem_iff_getElem.1 hk'
    unfold jw
    by_cases hw0 : ws.length = 0
    ·rw [if_pos hw0]
     exact ⟨tt ks[i], List.mem_map.2 ⟨dB ks[i], List.mem_map.2 ⟨_, hk', rfl⟩, rfl⟩, Nat.le_refl _⟩
    ·rw [if_neg hw0]
     have hwl : ws.length = ks.length := by
       rcases hww with h | h
       ·exact absurd h hw0
       ·exact h
     refine ⟨aK (dB ks[i] ++ [.sym 42, .int (ws[i]'(hwl ▸ hi))]), List.mem_map.2 ⟨_, List.mem_iff_getElem.2 ⟨i, by rw [List.length_zipWith, List.length_map]; omega, by rw [List.getElem_zipWith, List.getElem_map]⟩, rfl⟩, ?_⟩
     rw [aM, List.length_append]; exact Nat.le_add_right _ _
   obtain ⟨x, hx, hl⟩ := key
   have b := join_len1 comma _ x hx
   simp only [List.length_append]
   have : (aK [Pc.int nd, Pc.sym 40]).length = 2 := rfl
   omega
  ·rw [pcs3, kX _ yX (iB 38) rfl]
   rw [Iz] at h1
   simp only [Bool.and_eq_true, decide_eq_true_eq] at h1
   have hall : ∀ k ∈ ks, (tt k).length + 1 ≤ (lF ((ks.map fun k => og [3, 4] k (dB k)).map aK) (iB 38)).length := by
    intro k hk'
    have a := BI [3, 4] k
    have b := DZ (iB 38) ((ks.map fun k => og [3, 4] k (dB k)).map aK) (by simpa using h1.2) (by
     intro y hy
     rw [List.map_map] at hy
     obtain ⟨q, hq, rfl⟩ := List.mem_map.1 hy
     exact Nat.le_trans (hp q hq) (BI [3, 4] q)) (aK (og [3, 4] k (dB k))) (by rw [List.map_map]; exact List.mem_map.2 ⟨k, hk', rfl⟩)
    omega
   refine nE (fun k hk' => Nat.le_trans (Nat.add_le_add_right (hk k hk') 1) (hall k hk')) ?_
   cases ks with
   |nil => simp at h1
   |cons k0 kr => have := hall k0 (by simp); omega
  ·rw [pcs4, kX _ um (iB 124) rfl]
   rw [Iy] at h1
   simp only [Bool.and_eq_true, decide_eq_true_eq] at h1
   have hall : ∀ k ∈ ks, (tt k).length + 1 ≤ (lF ((ks.map fun k => og [4] k (dB k)).map aK) (iB 124)).length := by
    intro k hk'
    have a := BI [4] k
    have b := DZ (iB 124) ((ks.map fun k => og [4] k (dB k)).map aK) (by simpa using h1.2) (by
     intro y hy
     rw [List.map_map] at hy
     obtain ⟨q, hq, rfl⟩ := List.mem_map.1 hy
     exact Nat.le_trans (hp q hq) (BI [4] q)) (aK (og [4] k (dB k))) (by rw [List.map_map]; exact List.mem_map.2 ⟨k, hk', rfl⟩)
    omega
   refine nE (fun k hk' => Nat.le_trans (Nat.add_le_add_right (hk k hk') 1) (hall k hk')) ?_
   cases ks with
   |nil => simp at h1
   |cons k0 kr => have := hall k0 (by simp); omega
  ·rw [Ci] at h1
   simp only [Bool.and_eq_true, decide_eq_true_eq] at h1
   obtain ⟨k, rfl⟩ := List.length_eq_one_iff.1 h1.2
   rw [pcs5, aM, aM]
   refine nE (fun q hq => ?_) (by simp [aK, Pc.toks])
   obtain rfl : q = k := by simpa [Tm.kids] using hq
   have := hk q (by simp)
   simp only [List.length_append]
   have e : (aK [Pc.word [100, 117, 97, 108], Pc.sym 40]).length = 2 := rfl
   have e2 : (aK (dB q)).length = (tt q).length := rfl
   omega
  ·rw [Ch, Bool.and_eq_true] at h1
   obtain ⟨rfl, rfl, rfl⟩ := jd h1.2
   rw [pcs6]; exact nE (fun k hk => by simp [Tm.kids] at hk) (by simp [aK, Pc.toks])
  ·rw [Cg, Bool.and_eq_true] at h1
   obtain ⟨rfl, rfl, rfl⟩ := jd h1.2
   rw [pcs7]; exact nE (fun k hk => by simp [Tm.kids] at hk) (by simp [aK, Pc.toks])
  ·rw [Cf, Bool.and_eq_true] at h1
   obtain ⟨rfl, rfl, rfl⟩ := jd h1.2
   rw [pcs8]; exact nE (fun k hk => by simp [Tm.kids] at hk) (by simp [aK, Pc.toks])

theorem qI (L : aW) {t : Tm} (h : jf t = true) : RdT L (iI L) (tt t) wC t := by
 intro p r hh hr
 have hl := uN hh
 have hd := Bo _ t (Nat.le_refl _) h
 rw [List.length_append] at hl
 exact (all_reads L _ t (Nat.le_refl _) h).trm (L.length + 1) (by omega) p r hh hr
end Go.Proofs.YtbmglebipepdmaaGreatDoor
namespace Go.Proofs.YtbmglebipepdmaaGreatDoor
def nameP (x : ByteArray) : List Pc := [.word x.data.toList]
def iJ (l : List ByteArray) : List Pc := nQ (l.map nameP) rW
def mR (w : List UInt8) (l : List ByteArray) : List Pc := [.word w, .gap [32], .sym 123, .gap [32]] ++ (iJ l ++ [.gap [32], .sym 125])
def Jj (f : Ft) : List Pc :=
 if f.aC.length = 0 then mR [99, 114, 97, 115, 104] f.ak
 else if f.ak.length = 0 then mR [98, 121, 122] f.aC
 else mR [98, 121, 122] f.aC ++ (.gap [32] :: mR [99, 114, 97, 115, 104] f.ak)
def ftP (f : Ft) : List Pc :=
 if f.op = 1 then [.word [110, 111, 110, 101]]
 else if f.op = 2 then [.word [116, 104, 114, 101, 115, 104, 111, 108, 100], .gap [32], .int f.byz, .gap [32], .int f.iZ]
 else if f.op = 4 then [.word [115, 105, 116, 101], .gap [32], .word f.name.data.toList, .gap [32], .word [98, 121, 122]]
 else if f.op = 5 then [.word [115, 105, 116, 101], .gap [32], .word f.name.data.toList, .gap [32], .word [99, 114, 97, 115, 104]]
 else if f.op = 3 then Jj f
 else [.word f.name.data.toList]
def dcP (d : Dc) : List Pc :=
 if d.kind = 1 then [.word [115, 105, 116, 101], .gap [32], .word d.name.data.toList, .gap [32], .sym 123, .gap [32]] ++ (iJ d.names ++ [.gap [32], .sym 125, .sym 59])
 else if d.kind = 2 then [.word [102, 97, 117, 108, 116, 115], .gap [32], .word d.name.data.toList, .gap [32], .sym 61, .gap [32]] ++ (nQ (d.faults.map ftP) um ++ [.sym 59])
 else if d.kind = 3 then [.word [113, 117, 111, 114, 117, 109], .gap [32], .word d.name.data.toList, .gap [32], .sym 61, .gap [32]] ++ (dB d.term ++ [.sym 59])
 else if d.kind = 4 then [.word [99, 111, 110, 102, 105, 103], .gap [32], .word d.name.data.toList, .gap [32], .word d.proto.data.toList, .gap [32], .word [114, 101, 97, 100], .gap [32]] ++ (dB d.read ++ (.gap [32] :: .word [119, 114, 105, 116, 101] :: .gap [32] :: (dB d.write ++ [.gap [32], .word [102, 97, 117, 108, 116, 115], .gap [32], .word d.use.data.toList, .sym 59])))
 else if d.kind = 5 then [.word [119, 105, 116, 110, 101, 115, 115], .gap [32]] ++ (iJ d.names ++ [.sym 59])
 else if d.kind = 7 then [.word [99, 104, 97, 105, 110], .gap [32]] ++ (iJ d.names ++ [.sym 59])
 else if d.use.size = 0 then [.word [99, 108, 105, 101, 110, 116], .gap [32], .word d.name.data.toList, .sym 59]
 else [.word [99, 108, 105, 101, 110, 116], .gap [32], .word d.name.data.toList, .gap [32], .word [102, 97, 117, 108, 116, 115], .gap [32], .word d.use.data.toList, .sym 59]
def sS (l : List Dc) : List Pc := l.flatMap fun d => dcP d ++ [.gap [10]]

theorem oW (l : List ByteArray) : bytesOf (iJ l) = dJ l := by
 unfold iJ dJ joined
 rw [oH]
 have e : (l.map nameP).map bytesOf = lst l := by
  unfold lst
  rw [List.map_map]
  refine List.map_congr_left fun x _ => ?_
  simp [nameP, bytesOf, Pc.bytes]
 rw [e]; rfl
theorem nH (w : List UInt8) (l : List ByteArray) : bytesOf (mR w l) = lI w l := by
 unfold mR lI
 rw [aX, aX, oW]
 simp [bytesOf, Pc.bytes]
theorem ft_bytes {f : Ft} (h : jQ f = true) : bytesOf (ftP f) = gM f := by
 unfold ftP gM
 split
 ·rfl
 split
 ·simp [bytesOf, Pc.bytes]
 split
 ·simp [bytesOf, Pc.bytes]
 split
 ·simp [bytesOf, Pc.bytes]
 split
 ·rename_i h1 h2 h4 h5 h3
  have hn : 0 < f.aC.length + f.ak.length := by
   unfold jQ at h
   rw [if_neg h1, if_neg h2, if_pos h3] at h
   simp only [Bool.and_eq_true, jG, decide_eq_true_eq] at h
   exact h.1.1.2
  unfold Jj oQ
  by_cases hb : f.aC.length = 0
  ·have hc : f.ak.length ≠ 0 := by omega
   rw [if_pos hb, if_pos hb, if_neg hc, nH, List.nil_append, Lib.join_one]
  ·rw [if_neg hb, if_neg hb]
   by_cases hc : f.ak.length = 0
   ·rw [if_pos hc, if_pos hc, nH, List.append_nil, Lib.join_one]
   ·rw [if_neg hc, if_neg hc, aX, lG, nH, nH, List.singleton_append, Lib.join_cons]
    simp [Lib.joinTail, Pc.bytes]
 ·simp [bytesOf, Pc.bytes]
theorem dc_bytes {d : Dc} (h : d.faults.all jQ = true) : bytesOf (dcP d) = eZ d := by
 unfold dcP eZ
 split
 ·rw [aX, aX, oW]; simp [bytesOf, Pc.bytes]
 split
 ·rw [aX, aX, oH, List.map_map]
  have e : d.faults.map (bytesOf ∘ ftP) = d.faults.map gM := List.map_congr_left fun f hf => ft_bytes (List.all_eq_true.1 h f hf)
  rw [e]; simp [bytesOf, Pc.bytes, um]
 split
 ·rw [aX, aX, si]; simp [bytesOf, Pc.bytes]
 split
 ·simp only [aX, lG, tq, si]; simp [Pc.bytes]
 split
 ·rw [aX, aX, oW]; simp [bytesOf, Pc.bytes]
 split
 ·rw [aX, aX, oW]; simp [bytesOf, Pc.bytes]
 split
 ·simp [bytesOf, Pc.bytes]
 ·simp [bytesOf, Pc.bytes]

theorem vN {t : Tm} (h : blank t = true) : t = .zero := by
 obtain ⟨op, nm, nd, ws, ks⟩ := t
 have e : blank (.mk op nm nd ws ks) = (decide (op = 0) && decide (nm.size = 0) && bare (.mk op nm nd ws ks)) := rfl
 rw [e] at h
 simp only [Bool.and_eq_true, decide_eq_true_eq] at h
 obtain ⟨⟨rfl, h2⟩, h3⟩ := h
 obtain ⟨rfl, rfl, rfl⟩ := jd h3
 rw [jy h2]; rfl
theorem rF {d : Dc} (h : KO d) (hc : fG d.kind = false) : d.proto = bs [] ∧ d.read = .zero ∧ d.write = .zero ∧ (rQ d.kind = false → d.use = bs []) := by
 have := h.conf
 rw [hc] at this
 simp only [Bool.false_eq_true, if_false, Bool.and_eq_true, Bool.or_eq_true, decide_eq_true_eq] at this
 refine ⟨jy this.1.1.1, vN this.1.1.2, vN this.1.2, fun hm => ?_⟩
 rcases this.2 with h | h
 ·rw [hm] at h; cases h
 ·exact jy h
theorem oC {d : Dc} (h : KO d) (hc : kH d.kind = false) : d.term = .zero := by
 have := h.term
 rw [hc] at this
 exact vN this
theorem rG {d : Dc} (h : KO d) (hc : j3 d.kind = false) : d.names = [] := by
 have := h.Iu
 rw [hc] at this
 exact List.length_eq_zero_iff.1 (by have := of_decide_eq_false this.symm; omega)
theorem kJ {d : Dc} (h : KO d) (hc : iY d.kind = false) : d.faults = [] := by
 have := h.hfaults
 rw [hc] at this
 exact List.length_eq_zero_iff.1 (by have := of_decide_eq_false this.symm; omega)
theorem EO {d : Dc} (h : KO d) (hc : hasName d.kind = false) : d.name = bs [] := by
 have h1 := h.hname
 rw [hc] at h1
 have h2 : d.name.size = 0 := by simpa using h1.symm
 exact jy h2
theorem CF {d : Dc} (h : KO d) (hc : j3 d.kind = true) : 0 < d.names.length := by
 have := h.Iu
 rw [hc] at this
 exact of_decide_eq_true this.symm
theorem dc_faults {d : Dc} (h : KO d) (hc : iY d.kind = true) : 0 < d.faults.length := by
 have := h.hfaults
 rw [hc] at this
 exact of_decide_eq_true this.symm

theorem xS {l : List ByteArray} (h : bD l = true) : ∀ x ∈ l, bO x = true := List.all_eq_true.1 h
theorem qU {l : List ByteArray} (h : bD l = true) : dw (iJ l) := by
 refine qj EX _ fun x hx => ?_
 obtain ⟨y, hy, rfl⟩ := List.mem_map.1 hx
 exact lC (fq (xS h y hy))
theorem pF {w : List UInt8} {l : List ByteArray} (hw : dN w = true) (h : bD l = true) : dw (mR w l) :=
 dw.fQ hw (dw.gap (dw.sym (dw.gap ((qU h).Bc (dw.gap gV)))))
theorem ft_ok {f : Ft} (h : jQ f = true) : (f.op = 1 ∧ f = ⟨1, bs [], 0, 0, [], []⟩) ∨ (f.op = 2 ∧ small f.byz = true ∧ small f.iZ = true ∧ f = ⟨2, bs [], f.byz, f.iZ, [], []⟩) ∨
  (f.op = 3 ∧ 0 < f.aC.length + f.ak.length ∧ bD f.aC = true ∧ bD f.ak = true ∧ f = ⟨3, bs [], 0, 0, f.aC, f.ak⟩) ∨
  ((f.op = 4 ∨ f.op = 5 ∨ f.op = 6) ∧ bO f.name = true ∧ f = ⟨f.op, f.name, 0, 0, [], []⟩) := by
 obtain ⟨op, nm, x, y, bl, cl⟩ := f
 unfold jQ at h
 simp only at h
 have named : ∀ (o : Int), jG ⟨o, nm, x, y, bl, cl⟩ = false → bl = [] ∧ cl = [] := by
  intro o ho
  have : ¬ 0 < bl.length + cl.length := of_decide_eq_false ho
  exact ⟨List.length_eq_zero_iff.1 (by omega), List.length_eq_zero_iff.1 (by omega)⟩
 have numbered : ∀ (o : Int), gJ ⟨o, nm, x, y, bl, cl⟩ = false → x = 0 ∧ y = 0 := by
  intro o ho
  have : (!decide (x = 0) || !decide (y = 0)) = false := ho
  simpa using this
 split at h
 ·rename_i h1
  subst h1
  simp only [Bool.and_eq_true, decide_eq_true_eq, Bool.not_eq_true'] at h
  obtain ⟨rfl, rfl⟩ := named _ h.2
  obtain ⟨rfl, rfl⟩ := numbered _ h.1.2
  exact Or.inl ⟨rfl, by rw [jy h.1.1]⟩
 split at h
 ·rename_i h1
  subst h1
  simp only [Bool.and_eq_true, decide_eq_true_eq, Bool.not_eq_true'] at h
  obtain ⟨rfl, rfl⟩ := named _ h.2
  exact Or.inr (Or.inl ⟨rfl, h.1.1.2, h.1.2, by rw [jy h.1.1.1]⟩)
 split at h
 ·rename_i h1
  subst h1
  simp only [Bool.and_eq_true, decide_eq_true_eq, Bool.not_eq_true'] at h
  obtain ⟨rfl, rfl⟩ := numbered _ h.1.1.1.2
  exact Or.inr (Or.inr (Or.inl ⟨rfl, of_decide_eq_true h.1.1.2, h.1.2, h.2, by rw [jy h.1.1.1.1]⟩))
 split at h
 ·rename_i h1
  simp only [Bool.and_eq_true, Bool.not_eq_true'] at h
  obtain ⟨rfl, rfl⟩ := named _ h.2
  obtain ⟨rfl, rfl⟩ := numbered _ h.1.2
  exact Or.inr (Or.inr (Or.inr ⟨h1, h.1.1, rfl⟩))
 ·cases h
theorem sets_neat {f : Ft} (h1 : bD f.aC = true) (h2 : bD f.ak = true) : dw (Jj f) := by
 unfold Jj
 split
 ·exact pF (by decide) h2
 split
 ·exact pF (by decide) h1
 ·exact (pF (by decide) h1).Bc (dw.gap (pF (by decide) h2))
theorem ft_neat {f : Ft} (h : jQ f = true) : dw (ftP f) := by
 rcases ft_ok h with ⟨h1, -⟩ | ⟨h1, h2, h3, -⟩ | ⟨h1, -, h3, h4, -⟩ | ⟨h1, h2, -⟩
 ·unfold ftP; rw [if_pos h1]; exact lC (by decide)
 ·unfold ftP; rw [if_neg (by omega), if_pos h1]
  exact dw.fQ (by decide) (dw.gap (dw.intGap h2 (dw.gap (wQ h3))))
 ·unfold ftP; rw [if_neg (by omega), if_neg (by omega), if_neg (by omega), if_neg (by omega), if_pos h1]
  exact sets_neat h3 h4
 ·unfold ftP
  rcases h1 with h1 | h1 | h1
  ·rw [if_neg (by omega), if_neg (by omega), if_pos h1]
   exact dw.fQ (by decide) (dw.gap (dw.fQ (fq h2) (dw.gap (lC (by decide)))))
  ·rw [if_neg (by omega), if_neg (by omega), if_neg (by omega), if_pos h1]
   exact dw.fQ (by decide) (dw.gap (dw.fQ (fq h2) (dw.gap (lC (by decide)))))
  ·rw [if_neg (by omega), if_neg (by omega), if_neg (by omega), if_neg (by omega), if_neg (by omega)]
   exact lC (fq h2)
theorem dc_neat {d : Dc} (h0 : kE d = true) : dw (dcP d) := by
 have h := EN h0
 unfold dcP
 rcases sV h with hk | hk | hk | hk | hk | hk | hk
 ·rw [if_pos hk]
  have hn := fJ h (by rw [hk]; rfl)
  exact dw.fQ (by decide) (dw.gap (dw.fQ (fq hn) (dw.gap (dw.sym (dw.gap ((qU h.names).Bc (dw.gap (dw.sym gV))))))))
 ·rw [if_neg (by omega), if_pos hk]
  have hn := fJ h (by rw [hk]; rfl)
  refine dw.fQ (by decide) (dw.gap (dw.fQ (fq hn) (dw.gap (dw.sym (dw.gap (dw.wu (qj H8 _ fun x hx => ?_) gV))))))
  obtain ⟨f, hf, rfl⟩ := List.mem_map.1 hx
  exact ft_neat (List.all_eq_true.1 h.faults f hf)
 ·rw [if_neg (by omega), if_neg (by omega), if_pos hk]
  have hn := fJ h (by rw [hk]; rfl)
  have ht : jf d.term = true := by have := h.term; rw [hk] at this; exact this
  exact dw.fQ (by decide) (dw.gap (dw.fQ (fq hn) (dw.gap (dw.sym (dw.gap ((nX ht).wu gV))))))
 ·rw [if_neg (by omega), if_neg (by omega), if_neg (by omega), if_pos hk]
  have hn := fJ h (by rw [hk]; rfl)
  obtain ⟨hp, hr, hw, hu⟩ := yP h (by rw [hk]; rfl)
  exact dw.fQ (by decide) (dw.gap (dw.fQ (fq hn) (dw.gap (dw.fQ (xK hp) (dw.gap (dw.fQ (by decide) (dw.gap
   ((nX hr).Bc (dw.gap (dw.fQ (by decide) (dw.gap ((nX hw).Bc (dw.gap (dw.fQ (by decide) (dw.gap (dw.nK (fq hu) gV))))))))))))))))
 ·rw [if_neg (by omega), if_neg (by omega), if_neg (by omega), if_neg (by omega), if_pos hk]
  exact dw.fQ (by decide) (dw.gap ((qU h.names).wu gV))
 ·rw [if_neg (by omega), if_neg (by omega), if_neg (by omega), if_neg (by omega), if_neg (by omega), if_neg (by omega)]
  have hn := fJ h (by rw [hk]; rfl)
  split
  ·exact dw.fQ (by decide) (dw.gap (dw.nK (fq hn) gV))
  ·rename_i hu
   have hu2 : bO d.use = true := by
     rcases h.use with h | h
     ·exact absurd h hu
     ·exact h
   exact dw.fQ (by decide) (dw.gap (dw.fQ (fq hn) (dw.gap (dw.fQ (by decide) (dw.gap (dw.nK (fq hu2) gV))))))
 ·rw [if_neg (by omega), if_neg (by omega), if_neg (by omega), if_neg (by omega), if_neg (by omega), if_pos hk]
  exact dw.fQ (by decide) (dw.gap ((qU h.names).wu gV))
theorem yN {l : List Dc} (h : l.all kE = true) : bytesOf (sS l) = cZ l := by
 unfold sS cZ
 induction l with
 |nil => rfl
 |cons d r ih =>
  rw [List.all_cons, Bool.and_eq_true] at h
  rw [List.flatMap_cons, List.flatMap_cons, aX, aX, ih h.2, dc_bytes (EN h.1).faults]; rfl
theorem CB {l : List Dc} (h : l.all kE = true) : dw (sS l) := by
 unfold sS
 induction l with
 |nil => exact .nil
 |cons d r ih =>
  rw [List.all_cons, Bool.and_eq_true] at h
  rw [List.flatMap_cons]
  refine dw.behind ((dc_neat h.1).Bc neat_line) (ih h.2) ?_
  have : ∀ (l : List Pc) b, ends b (l ++ [.gap [10]]) = false := by
   intro l
   induction l with
   |nil => intro b; rfl
   |cons x r ih => intro b; exact ih _
  exact this _ _
end Go.Proofs.YtbmglebipepdmaaGreatDoor
namespace Go.Proofs.YtbmglebipepdmaaGreatDoor
def DU (x : ByteArray) : Tok := aF x.data.toList
theorem Jw (l : List ByteArray) : aK (iJ l) = lF (l.map fun x => [DU x]) comma := by
 unfold iJ
 rw [kX _ rW comma rfl, List.map_map]; rfl
theorem BP {L : aW} (l : List ByteArray) (h : ∀ x ∈ l, bO x = true) : ∀ (f : Nat) (acc : List ByteArray) (p : Nat) (r : List Tok), l.length ≤ f → here L p = (l.map fun x => [DU x]).flatMap (comma :: ·) ++ r → noW (⟨#[44]⟩ : ByteArray) r →
  jX L f acc ⟨p, 0⟩ = (acc ++ l, ⟨p + ((l.map fun x => [DU x]).flatMap (comma :: ·)).length, 0⟩) := by
 induction l with
 |nil =>
  intro f acc p r hf hh hn
  have hw : isW L (⟨#[44]⟩ : ByteArray) ⟨p, 0⟩ = false := yC (l := r) hh hn
  cases f with
  |zero => simp [jX]
  |succ f => rw [jX, hw]; simp
 |cons x l ih =>
  intro f acc p r hf hh hn
  cases f with
  |zero => simp at hf
  |succ f =>
   have hh1 : here L p = comma :: DU x :: ((l.map fun x => [DU x]).flatMap (comma :: ·) ++ r) := by rw [hh]; simp
   have hw : isW L (⟨#[44]⟩ : ByteArray) ⟨p, 0⟩ = true := by rw [au hh1]; decide
   have hh2 := (aP hh1).2
   have hp := gF hh2 (h x (by simp))
   have hh3 := (aP hh2).2
   rw [jX, hw, if_pos rfl, show adv ⟨p, 0⟩ = ⟨p + 1, 0⟩ from rfl, hp]
   rw [ih (fun q hq => h q (by simp [hq])) f _ _ r (by simpa using hf) hh3 hn]
   simp only [List.map_cons, List.flatMap_cons, List.length_append, List.length_cons, List.length_nil, List.append_assoc, List.singleton_append]
   refine Prod.ext rfl ?_
   show (⟨_, 0⟩ : St) = ⟨_, 0⟩
   congr 1; omega
theorem sJ {L : aW} {l : List ByteArray} (h : bD l = true) (h0 : 0 < l.length) {p : Nat} {r : List Tok} (hh : here L p = aK (iJ l) ++ r) (hn : noW (⟨#[44]⟩ : ByteArray) r) : jW L ⟨p, 0⟩ = (l, ⟨p + (aK (iJ l)).length, 0⟩) := by
 rw [Jw] at hh ⊢
 have hall := xS h
 match l with
 |[] => simp at h0
 |x :: l =>
  have hh1 : here L p = DU x :: ((l.map fun x => [DU x]).flatMap (comma :: ·) ++ r) := by rw [hh]; simp [lF]
  have hp := gF hh1 (hall x (by simp))
  have hh2 := (aP hh1).2
  have hlen : l.length ≤ L.length := by
   have a := uN hh2
   have b := wU comma (l.map fun x => [DU x])
   simp only [List.length_append, List.length_map] at a b
   omega
  have hg := BP l (fun q hq => hall q (by simp [hq])) L.length [x] (p + 1) r hlen hh2 hn
  unfold jW
  rw [hp]
  simp only
  rw [hg]
  refine Prod.ext rfl ?_
  show (⟨_, 0⟩ : St) = ⟨_, 0⟩
  simp only [lF, List.map_cons, List.length_append, List.length_cons, List.length_nil]
  congr 1; omega
def lb : Tok := iB 123
def rb : Tok := iB 125
def semi : Tok := iB 59
def bar : Tok := iB 124
theorem lH {L : aW} {l : List ByteArray} (h : bD l = true) (h0 : 0 < l.length) {p : Nat} {r : List Tok} (hh : here L p = lb :: (aK (iJ l) ++ rb :: r)) : bG L ⟨p, 0⟩ = (l, ⟨p + (aK (iJ l)).length + 2, 0⟩) ∧ here L (p + (aK (iJ l)).length + 2) = r := by
 have hh2 := (aP hh).2
 have hn := sJ h h0 hh2 (fD (by decide))
 have hh3 := cK _ hh2
 unfold bG
 rw [gU hh (by decide), hn]
 simp only
 rw [gU hh3 (by decide)]
 have e : p + 1 + (aK (iJ l)).length + 1 = p + (aK (iJ l)).length + 2 := by omega
 rw [e]
 refine ⟨rfl, ?_⟩
 have := (aP hh3).2
 rw [e] at this; exact this
theorem pE (w : List UInt8) (l : List ByteArray) : aK (mR w l) = aF w :: lb :: (aK (iJ l) ++ [rb]) := by
 unfold mR
 rw [aM, aM]; rfl

def folF (r : List Tok) : Prop := noW (⟨#[99, 114, 97, 115, 104]⟩ : ByteArray) r
theorem yL {L : aW} (x : Int) {f : Ft} (h : jQ f = true) {p : Nat} {r : List Tok} (hh : here L p = aK (ftP f) ++ r) (hf : folF r) : bJ L x ⟨p, 0⟩ = (f, ⟨p + (aK (ftP f)).length, 0⟩) := by
 rcases ft_ok h with ⟨h1, h2⟩ | ⟨h1, h2, h3, h4⟩ | ⟨h1, h2, h3, h4, h5⟩ | ⟨h1, h2, h3⟩
 ·unfold ftP at hh ⊢
  rw [if_pos h1] at hh ⊢
  have hh1 : here L p = aF [110, 111, 110, 101] :: r := hh
  unfold bJ
  rw [au hh1, show isWord (⟨#[110, 111, 110, 101]⟩ : ByteArray) (aF [110, 111, 110, 101]) = true by decide, if_pos rfl, h2]; rfl
 ·unfold ftP at hh ⊢
  rw [if_neg (by omega), if_pos h1] at hh ⊢
  have hh1 : here L p = aF [116, 104, 114, 101, 115, 104, 111, 108, 100] :: iE f.byz :: iE f.iZ :: r := hh
  have hh2 := (aP hh1).2
  have n1 := wO hh2 h2
  have n2 := wO (aP hh2).2 h3
  unfold bJ
  rw [au hh1, show isWord (⟨#[110, 111, 110, 101]⟩ : ByteArray) (aF [116, 104, 114, 101, 115, 104, 111, 108, 100]) = false by decide, if_neg (by simp), au hh1, show isWord (⟨#[116, 104, 114, 101, 115, 104, 111, 108, 100]⟩ : ByteArray) (aF [116, 104, 114, 101, 115, 104, 111, 108, 100]) = true by decide, if_pos rfl]
  rw [show adv ⟨p, 0⟩ = ⟨p + 1, 0⟩ from rfl, n1]
  simp only
  rw [n2, ← h4]; rfl
 ·unfold ftP at hh ⊢
  rw [if_neg (by omega), if_neg (by omega), if_neg (by omega), if_neg (by omega), if_pos h1] at hh ⊢
  unfold Jj at hh ⊢
  by_cases hb : f.aC.length = 0
  ·rw [if_pos hb, pE] at hh ⊢
   have hh1 : here L p = aF [99, 114, 97, 115, 104] :: lb :: (aK (iJ f.ak) ++ rb :: r) := by rw [hh]; simp
   obtain ⟨b1, -⟩ := lH h4 (by omega) (aP hh1).2
   unfold bJ
   rw [au hh1, show isWord (⟨#[110, 111, 110, 101]⟩ : ByteArray) (aF [99, 114, 97, 115, 104]) = false by decide, if_neg (by simp), au hh1, show isWord (⟨#[116, 104, 114, 101, 115, 104, 111, 108, 100]⟩ : ByteArray) (aF [99, 114, 97, 115, 104]) = false by decide, if_neg (by simp), au hh1, show isWord (⟨#[98, 121, 122]⟩ : ByteArray) (aF [99, 114, 97, 115, 104]) = false by decide, if_neg (by simp), au hh1, show isWord (⟨#[99, 114, 97, 115, 104]⟩ : ByteArray) (aF [99, 114, 97, 115, 104]) = true by decide, if_pos rfl]
   rw [show adv ⟨p, 0⟩ = ⟨p + 1, 0⟩ from rfl, b1]
   have hb0 : f.aC = [] := List.length_eq_zero_iff.1 hb
   rw [hb0] at h5
   simp only
   rw [← h5]
   refine Prod.ext rfl ?_
   show (⟨_, 0⟩ : St) = ⟨_, 0⟩
   simp only [List.length_append, List.length_cons, List.length_nil]
   congr 1; omega
  ·rw [if_neg hb] at hh ⊢
   by_cases hc : f.ak.length = 0
   ·rw [if_pos hc, pE] at hh ⊢
    have hh1 : here L p = aF [98, 121, 122] :: lb :: (aK (iJ f.aC) ++ rb :: r) := by rw [hh]; simp
    obtain ⟨b1, b2⟩ := lH h3 (by omega) (aP hh1).2
    unfold bJ
    rw [au hh1, show isWord (⟨#[110, 111, 110, 101]⟩ : ByteArray) (aF [98, 121, 122]) = false by decide, if_neg (by simp), au hh1, show isWord (⟨#[116, 104, 114, 101, 115, 104, 111, 108, 100]⟩ : ByteArray) (aF [98, 121, 122]) = false by decide, if_neg (by simp), au hh1, show isWord (⟨#[98, 121, 122]⟩ : ByteArray) (aF [98, 121, 122]) = true by decide, if_pos rfl]
    rw [show adv ⟨p, 0⟩ = ⟨p + 1, 0⟩ from rfl, b1]
    simp only
    rw [yC b2 hf, if_neg (by simp)]
    have hc0 : f.ak = [] := List.length_eq_zero_iff.1 hc
    rw [hc0] at h5
    rw [← h5]
    refine Prod.ext rfl ?_
    show (⟨_, 0⟩ : St) = ⟨_, 0⟩
    simp only [List.length_append, List.length_cons, List.length_nil]
    congr 1; omega
   ·rw [if_neg hc, aM, dS, pE, pE] at hh ⊢
    have hh1 : here L p = aF [98, 121, 122] :: lb :: (aK (iJ f.aC) ++ rb :: (aF [99, 114, 97, 115, 104] :: lb :: (aK (iJ f.ak) ++ rb :: r))) := by rw [hh]; simp [Pc.toks]
    obtain ⟨b1, b2⟩ := lH h3 (by omega) (aP hh1).2
    obtain ⟨c1, -⟩ := lH h4 (by omega) (aP b2).2
    unfold bJ
    rw [au hh1, show isWord (⟨#[110, 111, 110, 101]⟩ : ByteArray) (aF [98, 121, 122]) = false by decide, if_neg (by simp), au hh1, show isWord (⟨#[116, 104, 114, 101, 115, 104, 111, 108, 100]⟩ : ByteArray) (aF [98, 121, 122]) = false by decide, if_neg (by simp), au hh1, show isWord (⟨#[98, 121, 122]⟩ : ByteArray) (aF [98, 121, 122]) = true by decide, if_pos rfl]
    rw [show adv ⟨p, 0⟩ = ⟨p + 1, 0⟩ from rfl, b1]
    simp only
    rw [au b2, show isWord (⟨#[99, 114, 97, 115, 104]⟩ : ByteArray) (aF [99, 114, 97, 115, 104]) = true by decide, if_pos rfl]
    rw [show ∀ q, adv ⟨q, 0⟩ = ⟨q + 1, 0⟩ from fun _ => rfl, c1]
    simp only
    rw [← h5]
    refine Prod.ext rfl ?_
    show (⟨_, 0⟩ : St) = ⟨_, 0⟩
    simp only [List.length_append, List.length_cons, List.length_nil, Pc.toks]
    congr 1; omega
 ·unfold ftP at hh ⊢
  rcases h1 with h1 | h1 | h1
  ·rw [if_neg (by omega), if_neg (by omega), if_pos h1] at hh ⊢
   have hh1 : here L p = aF [115, 105, 116, 101] :: aF f.name.data.toList :: aF [98, 121, 122] :: r := hh
   have hh2 := (aP hh1).2
   have n1 := gF hh2 h2
   have hh3 := (aP hh2).2
   unfold bJ
   rw [au hh1, show isWord (⟨#[110, 111, 110, 101]⟩ : ByteArray) (aF [115, 105, 116, 101]) = false by decide, if_neg (by simp), au hh1, show isWord (⟨#[116, 104, 114, 101, 115, 104, 111, 108, 100]⟩ : ByteArray) (aF [115, 105, 116, 101]) = false by decide, if_neg (by simp), au hh1, show isWord (⟨#[98, 121, 122]⟩ : ByteArray) (aF [115, 105, 116, 101]) = false by decide, if_neg (by simp), au hh1, show isWord (⟨#[99, 114, 97, 115, 104]⟩ : ByteArray) (aF [115, 105, 116, 101]) = false by decide, if_neg (by simp), au hh1, show isWord (⟨#[115, 105, 116, 101]⟩ : ByteArray) (aF [115, 105, 116, 101]) = true by decide, if_pos rfl]
   rw [show adv ⟨p, 0⟩ = ⟨p + 1, 0⟩ from rfl, n1]
   simp only
   rw [au hh3, show isWord (⟨#[99, 114, 97, 115, 104]⟩ : ByteArray) (aF [98, 121, 122]) = false by decide, if_neg (by simp), au hh3, show isWord (⟨#[98, 121, 122]⟩ : ByteArray) (aF [98, 121, 122]) = true by decide, if_pos rfl]
   rw [h1] at h3
   rw [← h3]; rfl
  ·rw [if_neg (by omega), if_neg (by omega), if_neg (by omega), if_pos h1] at hh ⊢
   have hh1 : here L p = aF [115, 105, 116, 101] :: aF f.name.data.toList :: aF [99, 114, 97, 115, 104] :: r := hh
   have hh2 := (aP hh1).2
   have n1 := gF hh2 h2
   have hh3 := (aP hh2).2
   unfold bJ
   rw [au hh1, show isWord (⟨#[110, 111, 110, 101]⟩ : ByteArray) (aF [115, 105, 116, 101]) = false by decide, if_neg (by simp), au hh1, show isWord (⟨#[116, 104, 114, 101, 115, 104, 111, 108, 100]⟩ : ByteArray) (aF [115, 105, 116, 101]) = false by decide, if_neg (by simp), au hh1, show isWord (⟨#[98, 121, 122]⟩ : ByteArray) (aF [115, 105, 116, 101]) = false by decide, if_neg (by simp), au hh1, show isWord (⟨#[99, 114, 97, 115, 104]⟩ : ByteArray) (aF [115, 105, 116, 101]) = false by decide, if_neg (by simp), au hh1, show isWord (⟨#[115, 105, 116, 101]⟩ : ByteArray) (aF [115, 105, 116, 101]) = true by decide, if_pos rfl]
   rw [show adv ⟨p, 0⟩ = ⟨p + 1, 0⟩ from rfl, n1]
   simp only
   rw [au hh3, show isWord (⟨#[99, 114, 97, 115, 104]⟩ : ByteArray) (aF [99, 114, 97, 115, 104]) = true by decide, if_pos rfl]
   rw [h1] at h3
   rw [← h3]; rfl
  ·rw [if_neg (by omega), if_neg (by omega), if_neg (by omega), if_neg (by omega), if_neg (by omega)] at hh ⊢
   have hh1 : here L p = aF f.name.data.toList :: r := hh
   have n1 := gF hh1 h2
   unfold bJ
   rw [au hh1, qG h2 (by simp [words]), if_neg (by simp), au hh1, qG h2 (by simp [words]), if_neg (by simp), au hh1, qG h2 (by simp [words]), if_neg (by simp), au hh1, qG h2 (by simp [words]), if_neg (by simp), au hh1, qG h2 (by simp [words]), if_neg (by simp), n1]
   rw [h1] at h3
   simp only
   rw [← h3]; rfl
theorem zG {L : aW} (x : Int) (l : List Ft) (h : ∀ f ∈ l, jQ f = true) : ∀ (g : Nat) (acc : List Ft) (p : Nat) (r : List Tok), l.length ≤ g → here L p = (l.map fun f => aK (ftP f)).flatMap (bar :: ·) ++ r → folF r → noW (⟨#[124]⟩ : ByteArray) r →
  fE L x g acc ⟨p, 0⟩ = (acc ++ l, ⟨p + ((l.map fun f => aK (ftP f)).flatMap (bar :: ·)).length, 0⟩) := by
 induction l with
 |nil =>
  intro f acc p r hf hh hr hn
  have hw : isW L (⟨#[124]⟩ : ByteArray) ⟨p, 0⟩ = false := yC (l := r) hh hn
  cases f with
  |zero => simp [fE]
  |succ f => rw [fE, hw]; simp
 |cons y l ih =>
  intro f acc p r hf hh hr hn
  cases f with
  |zero => simp at hf
  |succ f =>
   have hh1 : here L p = bar :: (aK (ftP y) ++ ((l.map fun f => aK (ftP f)).flatMap (bar :: ·) ++ r)) := by rw [hh]; simp
   have hw : isW L (⟨#[124]⟩ : ByteArray) ⟨p, 0⟩ = true := by rw [au hh1]; decide
   have hh2 := (aP hh1).2
   have hfk : folF ((l.map fun f => aK (ftP f)).flatMap (bar :: ·) ++ r) := by
    cases l with
    |nil => exact hr
    |cons k2 ks => exact fD (by decide)
   have hp := yL x (h y (by simp)) hh2 hfk
   have hh3 := cK _ hh2
   rw [fE, hw, if_pos rfl, show adv ⟨p, 0⟩ = ⟨p + 1, 0⟩ from rfl, hp]
   rw [ih (fun q hq => h q (by simp [hq])) f _ _ r (by simpa using hf) hh3 hr hn]
   simp only [List.map_cons, List.flatMap_cons, List.length_append, List.length_cons, List.append_assoc, List.singleton_append]
   refine Prod.ext rfl ?_
   show (⟨_, 0⟩ : St) = ⟨_, 0⟩
   congr 1; omega
theorem Ep {L : aW} (x : Int) {l : List Ft} (h : l.all jQ = true) (h0 : 0 < l.length) {p : Nat} {r : List Tok} (hh : here L p = aK (nQ (l.map ftP) um) ++ r) (hr : folF r) (hn : noW (⟨#[124]⟩ : ByteArray) r) : kC L x ⟨p, 0⟩ = (l, ⟨p + (aK (nQ (l.map ftP) um)).length, 0⟩) := by
 rw [kX _ um bar rfl, List.map_map] at hh ⊢
 have hall := List.all_eq_true.1 h
 match l with
 |[] => simp at h0
 |y :: l =>
  have hh1 : here L p = aK (ftP y) ++ ((l.map fun f => aK (ftP f)).flatMap (bar :: ·) ++ r) := by rw [hh]; simp [lF, Function.comp_def]
  have hfk : folF ((l.map fun f => aK (ftP f)).flatMap (bar :: ·) ++ r) := by
   cases l with
   |nil => exact hr
   |cons k2 ks => exact fD (by decide)
  have hp := yL x (hall y (by simp)) hh1 hfk
  have hh2 := cK _ hh1
  have hlen : l.length ≤ L.length := by
   have a := uN hh2
   have b := wU bar (l.map fun f => aK (ftP f))
   simp only [List.length_append, List.length_map] at a b
   omega
  have hg := zG x l (fun q hq => hall q (by simp [hq])) L.length [y] _ r hlen hh2 hr hn
  unfold kC
  rw [hp]
  simp only
  rw [hg]
  refine Prod.ext rfl ?_
  show (⟨_, 0⟩ : St) = ⟨_, 0⟩
  simp only [lF, List.map_cons, List.length_append, Function.comp_def]
  congr 1; omega
theorem J3 (r : List Tok) : wC (semi :: r) := ⟨fD (by decide), fD (by decide)⟩
theorem Aq (b : List UInt8) (r : List Tok) (hb : dN b = true) : wC (aF b :: r) := ⟨fD (wG hb (by decide)), fD (wG hb (by decide))⟩
end Go.Proofs.YtbmglebipepdmaaGreatDoor
namespace Go.Proofs.YtbmglebipepdmaaGreatDoor
theorem o7 (d : Dc) {k : Int} (h : d.kind = k) (line : Int) : { d with line := line } = (⟨k, line, d.name, d.names, d.faults, d.term, d.proto, d.read, d.write, d.use⟩ : Dc) := by rw [← h]
theorem u7 (q : Nat) : adv ⟨q, 0⟩ = ⟨q + 1, 0⟩ := rfl
set_option maxHeartbeats 1000000 in
theorem AY {L : aW} (x : Int) {d : Dc} (h0 : kE d = true) {p : Nat} {r : List Tok} (line : Int) (hh : here L p = aK (dcP d) ++ r) :
  ∃ q, iw L x (.zero line) ⟨p, 0⟩ = ({ d with line := line }, ⟨q, 0⟩) ∧ here L q = semi :: r ∧ q + 1 = p + (aK (dcP d)).length := by
 have h := EN h0
 unfold dcP at hh ⊢
 rcases sV h with hk | hk | hk | hk | hk | hk | hk
 ·rw [if_pos hk] at hh ⊢
  have hn := fJ h (by rw [hk]; rfl)
  obtain ⟨e1, e2, e3, e4⟩ := rF h (by rw [hk]; rfl)
  rw [o7 d hk, e1, e2, e3, e4 (by rw [hk]; rfl), oC h (by rw [hk]; rfl), kJ h (by rw [hk]; rfl)]
  have h00 := CF h (by rw [hk]; rfl)
  have hh1 : here L p = aF [115, 105, 116, 101] :: aF d.name.data.toList :: lb :: (aK (iJ d.names) ++ rb :: (semi :: r)) := by rw [hh, aM, aM]; simp [aK, Pc.toks, lb, rb, semi]
  have hh2 := (aP hh1).2
  have n1 := gF hh2 hn
  obtain ⟨b1, b2⟩ := lH h.names h00 (aP hh2).2
  refine ⟨_, ?_, b2, ?_⟩
  ·unfold iw pSite
   rw [au hh1, show isWord (⟨#[115, 105, 116, 101]⟩ : ByteArray) (aF [115, 105, 116, 101]) = true by decide, if_pos rfl, u7, n1]
   simp only
   rw [b1]; rfl
  ·rw [aM, aM]
   simp only [List.length_append, dS, ja, Pc.toks, List.length_cons, List.length_nil]; omega
 ·rw [if_neg (by omega), if_pos hk] at hh ⊢
  have hn := fJ h (by rw [hk]; rfl)
  obtain ⟨e1, e2, e3, e4⟩ := rF h (by rw [hk]; rfl)
  rw [o7 d hk, e1, e2, e3, e4 (by rw [hk]; rfl), oC h (by rw [hk]; rfl), rG h (by rw [hk]; rfl)]
  have h00 := dc_faults h (by rw [hk]; rfl)
  have hh1 : here L p = aF [102, 97, 117, 108, 116, 115] :: aF d.name.data.toList :: iB 61 :: (aK (nQ (d.faults.map ftP) um) ++ (semi :: r)) := by rw [hh, aM, aM]; simp [aK, Pc.toks, semi]
  have hh2 := (aP hh1).2
  have n1 := gF hh2 hn
  have hh3 := (aP hh2).2
  have f1 := Ep x h.faults h00 (aP hh3).2 (fD (by decide)) (fD (by decide))
  refine ⟨_, ?_, cK _ (aP hh3).2, ?_⟩
  ·unfold iw ul
   rw [au hh1, show isWord (⟨#[115, 105, 116, 101]⟩ : ByteArray) (aF [102, 97, 117, 108, 116, 115]) = false by decide, if_neg (by simp), au hh1, show isWord (⟨#[102, 97, 117, 108, 116, 115]⟩ : ByteArray) (aF [102, 97, 117, 108, 116, 115]) = true by decide, if_pos rfl, u7, n1]
   simp only
   rw [gU hh3 (by decide), f1]; rfl
  ·rw [aM, aM]
   simp only [List.length_append, dS, ja, Pc.toks, List.length_cons, List.length_nil]; omega
 ·rw [if_neg (by omega), if_neg (by omega), if_pos hk] at hh ⊢
  have hn := fJ h (by rw [hk]; rfl)
  have ht : jf d.term = true := by have := h.term; rw [hk] at this; exact this
  obtain ⟨e1, e2, e3, e4⟩ := rF h (by rw [hk]; rfl)
  rw [o7 d hk, e1, e2, e3, e4 (by rw [hk]; rfl), kJ h (by rw [hk]; rfl), rG h (by rw [hk]; rfl)]
  have hh1 : here L p = aF [113, 117, 111, 114, 117, 109] :: aF d.name.data.toList :: iB 61 :: (tt d.term ++ (semi :: r)) := by rw [hh, aM, aM]; simp [aK, Pc.toks, semi, tt]
  have hh2 := (aP hh1).2
  have n1 := gF hh2 hn
  have hh3 := (aP hh2).2
  have t1 := qI L ht _ _ (aP hh3).2 (J3 r)
  refine ⟨_, ?_, cK _ (aP hh3).2, ?_⟩
  ·unfold iw BJ
   rw [au hh1, show isWord (⟨#[115, 105, 116, 101]⟩ : ByteArray) (aF [113, 117, 111, 114, 117, 109]) = false by decide, if_neg (by simp), au hh1, show isWord (⟨#[102, 97, 117, 108, 116, 115]⟩ : ByteArray) (aF [113, 117, 111, 114, 117, 109]) = false by decide, if_neg (by simp), au hh1, show isWord (⟨#[113, 117, 111, 114, 117, 109]⟩ : ByteArray) (aF [113, 117, 111, 114, 117, 109]) = true by decide, if_pos rfl, u7, n1]
   simp only
   rw [gU hh3 (by decide), t1]; rfl
  ·rw [aM, aM]
   simp only [List.length_append, dS, ja, Pc.toks, List.length_cons, List.length_nil]
   have : (aK (dB d.term)).length = (tt d.term).length := rfl
   omega
 ·rw [if_neg (by omega), if_neg (by omega), if_neg (by omega), if_pos hk] at hh ⊢
  have hn := fJ h (by rw [hk]; rfl)
  obtain ⟨hp, hr, hw, hu⟩ := yP h (by rw [hk]; rfl)
  rw [o7 d hk, oC h (by rw [hk]; rfl), kJ h (by rw [hk]; rfl), rG h (by rw [hk]; rfl)]
  have hh1 : here L p = aF [99, 111, 110, 102, 105, 103] :: aF d.name.data.toList :: aF d.proto.data.toList :: aF [114, 101, 97, 100] :: (tt d.read ++ aF [119, 114, 105, 116, 101] :: (tt d.write ++ aF [102, 97, 117, 108, 116, 115] :: aF d.use.data.toList :: semi :: r)) := by
   rw [hh]; simp only [aM, dS, ja]; simp [Pc.toks, semi, tt]
  have hh2 := (aP hh1).2
  have n1 := gF hh2 hn
  have hh3 := (aP hh2).2
  have hh4 := (aP hh3).2
  have hh5 := (aP hh4).2
  have t1 := qI L hr _ _ hh5 (Aq _ _ (by decide))
  have hh6 := cK _ hh5
  have hh7 := (aP hh6).2
  have t2 := qI L hw _ _ hh7 (Aq _ _ (by decide))
  have hh8 := cK _ hh7
  have hh9 := (aP hh8).2
  have n2 := gF hh9 hu
  have hcr : isW L (⟨#[99, 114, 97, 115, 104]⟩ : ByteArray) ⟨p + 1 + 1, 0⟩ = (d.proto == (⟨#[99, 114, 97, 115, 104]⟩ : ByteArray)) := by
   rw [au hh3]
   show (((1 : Nat) == 1 || (1 : Nat) == 4) && (bs d.proto.data.toList == (⟨#[99, 114, 97, 115, 104]⟩ : ByteArray))) = _
   rw [dY]; rfl
  have hst : (if (d.proto == (⟨#[99, 114, 97, 115, 104]⟩ : ByteArray)) = true then adv ⟨p + 1 + 1, 0⟩ else need L (⟨#[98, 121, 122, 97, 110, 116, 105, 110, 101]⟩ : ByteArray) ⟨p + 1 + 1, 0⟩) = ⟨p + 1 + 1 + 1, 0⟩ := by
   cases e : (d.proto == (⟨#[99, 114, 97, 115, 104]⟩ : ByteArray))
   ·rw [e, Bool.false_or] at hp
    rw [if_neg (by simp)]
    refine gU hh3 ?_
    show (((1 : Nat) == 1 || (1 : Nat) == 4) && (bs d.proto.data.toList == (⟨#[98, 121, 122, 97, 110, 116, 105, 110, 101]⟩ : ByteArray))) = true
    rw [dY, hp]; rfl
   ·rfl
  have hpr : (if (d.proto == (⟨#[99, 114, 97, 115, 104]⟩ : ByteArray)) = true then (⟨#[99, 114, 97, 115, 104]⟩ : ByteArray) else (⟨#[98, 121, 122, 97, 110, 116, 105, 110, 101]⟩ : ByteArray)) = d.proto := by
   cases e : (d.proto == (⟨#[99, 114, 97, 115, 104]⟩ : ByteArray))
   ·rw [e, Bool.false_or, fo] at hp
    rw [if_neg (by simp)]; exact hp.symm
   ·rw [if_pos rfl]; exact ((fo _ _).1 e).symm
  refine ⟨_, ?_, (aP hh9).2, ?_⟩
  ·unfold iw sH pCfg
   rw [au hh1, show isWord (⟨#[115, 105, 116, 101]⟩ : ByteArray) (aF [99, 111, 110, 102, 105, 103]) = false by decide, if_neg (by simp), au hh1, show isWord (⟨#[102, 97, 117, 108, 116, 115]⟩ : ByteArray) (aF [99, 111, 110, 102, 105, 103]) = false by decide, if_neg (by simp), au hh1, show isWord (⟨#[113, 117, 111, 114, 117, 109]⟩ : ByteArray) (aF [99, 111, 110, 102, 105, 103]) = false by decide, if_neg (by simp), au hh1, show isWord (⟨#[99, 111, 110, 102, 105, 103]⟩ : ByteArray) (aF [99, 111, 110, 102, 105, 103]) = true by decide, if_pos rfl, u7, n1]
   simp only
   rw [hcr, hst, gU hh4 (by decide), t1]
   simp only
   rw [gU hh6 (by decide), t2]
   simp only
   rw [gU hh8 (by decide), n2, hpr]; rfl
  ·simp only [aM, List.length_append, dS, ja, Pc.toks, List.length_cons, List.length_nil]
   have : (aK (dB d.read)).length = (tt d.read).length := rfl
   have : (aK (dB d.write)).length = (tt d.write).length := rfl
   omega
 ·rw [if_neg (by omega), if_neg (by omega), if_neg (by omega), if_neg (by omega), if_pos hk] at hh ⊢
  obtain ⟨e1, e2, e3, e4⟩ := rF h (by rw [hk]; rfl)
  rw [o7 d hk, e1, e2, e3, e4 (by rw [hk]; rfl), oC h (by rw [hk]; rfl), kJ h (by rw [hk]; rfl), EO h (by rw [hk]; rfl)]
  have h00 := CF h (by rw [hk]; rfl)
  have hh1 : here L p = aF [119, 105, 116, 110, 101, 115, 115] :: (aK (iJ d.names) ++ (semi :: r)) := by rw [hh, aM, aM]; simp [aK, Pc.toks, semi]
  have hh2 := (aP hh1).2
  have n1 := sJ h.names h00 hh2 (fD (by decide))
  refine ⟨_, ?_, cK _ hh2, ?_⟩
  ·unfold iw
   rw [au hh1, show isWord (⟨#[115, 105, 116, 101]⟩ : ByteArray) (aF [119, 105, 116, 110, 101, 115, 115]) = false by decide, if_neg (by simp), au hh1, show isWord (⟨#[102, 97, 117, 108, 116, 115]⟩ : ByteArray) (aF [119, 105, 116, 110, 101, 115, 115]) = false by decide, if_neg (by simp), au hh1, show isWord (⟨#[113, 117, 111, 114, 117, 109]⟩ : ByteArray) (aF [119, 105, 116, 110, 101, 115, 115]) = false by decide, if_neg (by simp), au hh1, show isWord (⟨#[99, 111, 110, 102, 105, 103]⟩ : ByteArray) (aF [119, 105, 116, 110, 101, 115, 115]) = false by decide, if_neg (by simp), au hh1, show isWord (⟨#[119, 105, 116, 110, 101, 115, 115]⟩ : ByteArray) (aF [119, 105, 116, 110, 101, 115, 115]) = true by decide, if_pos rfl, u7, n1]; rfl
  ·simp only [aM, List.length_append, dS, ja, Pc.toks, List.length_cons, List.length_nil]; omega
 ·rw [if_neg (by omega), if_neg (by omega), if_neg (by omega), if_neg (by omega), if_neg (by omega), if_neg (by omega)] at hh ⊢
  have hn := fJ h (by rw [hk]; rfl)
  obtain ⟨e1, e2, e3, -⟩ := rF h (by rw [hk]; rfl)
  rw [o7 d hk, e1, e2, e3, oC h (by rw [hk]; rfl), kJ h (by rw [hk]; rfl), rG h (by rw [hk]; rfl)]
  by_cases hu : d.use.size = 0
  ·rw [if_pos hu] at hh ⊢
   rw [jy hu]
   have hh1 : here L p = aF [99, 108, 105, 101, 110, 116] :: aF d.name.data.toList :: semi :: r := hh
   have hh2 := (aP hh1).2
   have n1 := gF hh2 hn
   have hh3 := (aP hh2).2
   refine ⟨_, ?_, hh3, ?_⟩
   ·unfold iw nP
    rw [au hh1, show isWord (⟨#[115, 105, 116, 101]⟩ : ByteArray) (aF [99, 108, 105, 101, 110, 116]) = false by decide, if_neg (by simp), au hh1, show isWord (⟨#[102, 97, 117, 108, 116, 115]⟩ : ByteArray) (aF [99, 108, 105, 101, 110, 116]) = false by decide, if_neg (by simp), au hh1, show isWord (⟨#[113, 117, 111, 114, 117, 109]⟩ : ByteArray) (aF [99, 108, 105, 101, 110, 116]) = false by decide, if_neg (by simp), au hh1, show isWord (⟨#[99, 111, 110, 102, 105, 103]⟩ : ByteArray) (aF [99, 108, 105, 101, 110, 116]) = false by decide, if_neg (by simp), au hh1, show isWord (⟨#[119, 105, 116, 110, 101, 115, 115]⟩ : ByteArray) (aF [99, 108, 105, 101, 110, 116]) = false by decide, if_neg (by simp), au hh1, show isWord (⟨#[99, 108, 105, 101, 110, 116]⟩ : ByteArray) (aF [99, 108, 105, 101, 110, 116]) = true by decide, if_pos rfl, u7, n1]
    simp only
    rw [au hh3, show isWord (⟨#[102, 97, 117, 108, 116, 115]⟩ : ByteArray) semi = false by decide, if_neg (by simp)]; rfl
   ·simp only [dS, ja, Pc.toks, List.length_append, List.length_cons, List.length_nil]
  ·rw [if_neg hu] at hh ⊢
   have hu2 : bO d.use = true := by
     rcases h.use with h | h
     ·exact absurd h hu
     ·exact h
   have hh1 : here L p = aF [99, 108, 105, 101, 110, 116] :: aF d.name.data.toList :: aF [102, 97, 117, 108, 116, 115] :: aF d.use.data.toList :: semi :: r := hh
   have hh2 := (aP hh1).2
   have n1 := gF hh2 hn
   have hh3 := (aP hh2).2
   have hh4 := (aP hh3).2
   have n2 := gF hh4 hu2
   refine ⟨_, ?_, (aP hh4).2, ?_⟩
   ·unfold iw nP
    rw [au hh1, show isWord (⟨#[115, 105, 116, 101]⟩ : ByteArray) (aF [99, 108, 105, 101, 110, 116]) = false by decide, if_neg (by simp), au hh1, show isWord (⟨#[102, 97, 117, 108, 116, 115]⟩ : ByteArray) (aF [99, 108, 105, 101, 110, 116]) = false by decide, if_neg (by simp), au hh1, show isWord (⟨#[113, 117, 111, 114, 117, 109]⟩ : ByteArray) (aF [99, 108, 105, 101, 110, 116]) = false by decide, if_neg (by simp), au hh1, show isWord (⟨#[99, 111, 110, 102, 105, 103]⟩ : ByteArray) (aF [99, 108, 105, 101, 110, 116]) = false by decide, if_neg (by simp), au hh1, show isWord (⟨#[119, 105, 116, 110, 101, 115, 115]⟩ : ByteArray) (aF [99, 108, 105, 101, 110, 116]) = false by decide, if_neg (by simp), au hh1, show isWord (⟨#[99, 108, 105, 101, 110, 116]⟩ : ByteArray) (aF [99, 108, 105, 101, 110, 116]) = true by decide, if_pos rfl, u7, n1]
    simp only
    rw [au hh3, show isWord (⟨#[102, 97, 117, 108, 116, 115]⟩ : ByteArray) (aF [102, 97, 117, 108, 116, 115]) = true by decide, if_pos rfl, u7, n2]; rfl
   ·simp only [dS, ja, Pc.toks, List.length_append, List.length_cons, List.length_nil]
 ·rw [if_neg (by omega), if_neg (by omega), if_neg (by omega), if_neg (by omega), if_neg (by omega), if_pos hk] at hh ⊢
  obtain ⟨e1, e2, e3, e4⟩ := rF h (by rw [hk]; rfl)
  rw [o7 d hk, e1, e2, e3, e4 (by rw [hk]; rfl), oC h (by rw [hk]; rfl), kJ h (by rw [hk]; rfl), EO h (by rw [hk]; rfl)]
  have h00 := CF h (by rw [hk]; rfl)
  have hh1 : here L p = aF [99, 104, 97, 105, 110] :: (aK (iJ d.names) ++ (semi :: r)) := by rw [hh, aM, aM]; simp [aK, Pc.toks, semi]
  have hh2 := (aP hh1).2
  have n1 := sJ h.names h00 hh2 (fD (by decide))
  refine ⟨_, ?_, cK _ hh2, ?_⟩
  ·unfold iw
   rw [au hh1, show isWord (⟨#[115, 105, 116, 101]⟩ : ByteArray) (aF [99, 104, 97, 105, 110]) = false by decide, if_neg (by simp), au hh1, show isWord (⟨#[102, 97, 117, 108, 116, 115]⟩ : ByteArray) (aF [99, 104, 97, 105, 110]) = false by decide, if_neg (by simp), au hh1, show isWord (⟨#[113, 117, 111, 114, 117, 109]⟩ : ByteArray) (aF [99, 104, 97, 105, 110]) = false by decide, if_neg (by simp), au hh1, show isWord (⟨#[99, 111, 110, 102, 105, 103]⟩ : ByteArray) (aF [99, 104, 97, 105, 110]) = false by decide, if_neg (by simp), au hh1, show isWord (⟨#[119, 105, 116, 110, 101, 115, 115]⟩ : ByteArray) (aF [99, 104, 97, 105, 110]) = false by decide, if_neg (by simp), au hh1, show isWord (⟨#[99, 108, 105, 101, 110, 116]⟩ : ByteArray) (aF [99, 104, 97, 105, 110]) = false by decide, if_neg (by simp), au hh1, show isWord (⟨#[99, 104, 97, 105, 110]⟩ : ByteArray) (aF [99, 104, 97, 105, 110]) = true by decide, if_pos rfl, u7, n1]; rfl
  ·simp only [aM, List.length_append, dS, ja, Pc.toks, List.length_cons, List.length_nil]; omega
theorem Az {L : aW} (x : Int) {d : Dc} (h0 : kE d = true) {p : Nat} {r : List Tok} (hh : here L p = aK (dcP d) ++ r) :
  iO L x ⟨p, 0⟩ = ({ d with line := fB L p }, ⟨p + (aK (dcP d)).length, 0⟩) := by
 obtain ⟨q, h1, h2, h3⟩ := AY x h0 (fB L p) hh
 unfold iO
 simp only
 rw [h1]
 simp only
 rw [gU h2 (by decide), h3]
theorem sU {d : Dc} (L : aW) (h0 : kE d = true) {p : Nat} {r : List Tok} (hh : here L p = aK (dcP d) ++ r) : 0 < (aK (dcP d)).length := by
 obtain ⟨q, h1, h2, h3⟩ := AY 4 h0 0 hh
 apply Decidable.byContradiction
 intro hn
 have h0 : (aK (dcP d)).length = 0 := by omega
 have e := List.length_eq_zero_iff.1 h0
 rw [e] at hh
 have hq : q < p := by omega
 have a : (here L p).length = L.length - p := by unfold here; simp
 have b : (here L q).length = L.length - q := by unfold here; simp
 rw [hh] at a
 rw [h2] at b
 simp only [List.nil_append, List.length_cons] at a b
 have hp : iw L 4 (.zero 0) ⟨p, 0⟩ = _ := h1
 have := (rH (L := L) 4 (.zero 0) (s := ⟨p, 0⟩) (by
  apply Decidable.byContradiction
  intro hc
  have : L.length < p := by simpa using hc
  omega)).le
 rw [hp] at this
 simp only at this
 omega
theorem uT (l : List Dc) : aK (sS l) = (l.map fun d => aK (dcP d)).flatten := by
 unfold sS
 induction l with
 |nil => rfl
 |cons d r ih => rw [List.flatMap_cons, aM, ih, aM]; simp [aK, Pc.toks]
end Go.Proofs.YtbmglebipepdmaaGreatDoor
namespace Go.Proofs.YtbmglebipepdmaaGreatDoor
end Go.Proofs.YtbmglebipepdmaaGreatDoor
namespace Go.Proofs.YtbmglebipepdmaaGreatDoor
theorem xE {l : List Dc} (h : l.all kE = true) : mF (cZ l) = (decide ((cZ l).length ≤ 65536) && decide ((aK (sS l)).length ≤ 3000)) := by
 have hn := CB h
 obtain ⟨L, h1, h2⟩ := BV (sS l) false hn.1 hn.2 1 []
 have hll : L.length = (aK (sS l)).length := by rw [← List.length_map (f := (·.1)), h2]
 rw [yN h, List.nil_append] at h1
 unfold mF
 rw [h1, ← hll]
 simp
theorem sO {l : List Dc} (h : (cB l).2 = 0) : l.all kE = true ∧ (cZ l).length ≤ 65536 ∧ (aK (sS l)).length ≤ 3000 := by
 unfold cB at h
 by_cases ho : l.all kE = true
 ·rw [if_pos ho] at h
  unfold gX at h
  by_cases hs : mF (cZ l) = true
  ·rw [xE ho] at hs
   simp only [Bool.and_eq_true, decide_eq_true_eq] at hs
   exact ⟨ho, hs⟩
  ·rw [if_neg hs] at h; simp at h
 ·rw [if_neg ho] at h; simp at h
end Go.Proofs.YtbmglebipepdmaaGreatDoor
namespace Go.Proofs.YtbmglebipepdmaaGreatDoor
section
variable {ρ : ByteArray → ByteArray} {Y : ByteArray → Prop} {t t' : List (ByteArray × Int)}
end
end Go.Proofs.YtbmglebipepdmaaGreatDoor
namespace Go.Proofs.YtbmglebipepdmaaGreatDoor
section
variable {x : ByteArray} {m : List Dc}
end
end Go.Proofs.YtbmglebipepdmaaGreatDoor
namespace Go.Proofs.YtbmglebipepdmaaGreatDoor
end Go.Proofs.YtbmglebipepdmaaGreatDoor
namespace Go.Proofs.YtbmglebipepdmaaGreatDoor
theorem dcs_take (l : List Dc) (k : Nat) (h : k < l.length) : cZ (l.take (k + 1)) = cZ (l.take k) ++ (eZ l[k] ++ [10]) := by
 unfold cZ
 rw [List.take_succ_eq_append_getElem h, List.flatMap_append]; simp
theorem sum_take (l : List Dc) (k : Nat) : ((l.take k).map bQ).sum ≤ (l.map bQ).sum := by
 have h := List.take_append_drop k l
 have : (l.map bQ).sum = ((l.take k).map bQ).sum + ((l.drop k).map bQ).sum := by
  rw [← List.sum_append, ← List.map_append, h]
 omega
theorem few_take (l : List Dc) (k : Nat) (h : k < l.length) : ((l.take (k + 1)).map bI).sum = ((l.take k).map bI).sum + bI l[k] := by
 rw [List.take_succ_eq_append_getElem h, List.map_append, List.sum_append]; simp
theorem Gn (l : List Dc) (k : Nat) : ((l.take k).map bI).sum ≤ (l.map bI).sum := by
 have h := List.take_append_drop k l
 have : (l.map bI).sum = ((l.take k).map bI).sum + ((l.drop k).map bI).sum := by
  rw [← List.sum_append, ← List.map_append, h]
 omega
theorem fts_len (l : List Ft) : l.length ≤ (l.map ic).sum := by
 induction l with
 |nil => simp
 |cons f r ih =>
  have c := qx f
  rw [List.map_cons, List.sum_cons, List.length_cons]; omega
theorem few_dc (l : List Dc) : (l.map bI).sum ≤ 10 * (l.map bQ).sum := by
 induction l with
 |nil => simp
 |cons d r ih =>
  have n1 := iM d.names
  have n2 := fts_len d.faults
  have e : bI d ≤ 10 * bQ d := by unfold bI bQ; omega
  rw [List.map_cons, List.map_cons, List.sum_cons, List.sum_cons]; omega
end Go.Proofs.YtbmglebipepdmaaGreatDoor
namespace Go.Proofs.YtbmglebipepdmaaGreatDoor
open Go.RowKit
theorem Bn (l : List Tm) (k : Nat) (h : k < l.length) : eX (l.take (k + 1)) = max (eX (l.take k)) (dz l[k]) := by
 have : ∀ (a : List Tm) (t : Tm), eX (a ++ [t]) = max (eX a) (dz t) := by
  intro a t
  induction a with
  |nil => simp [eX]
  |cons x r ih => simp only [List.cons_append, eX, ih]; omega
 rw [List.take_succ_eq_append_getElem h, this]
theorem Dj (l : List Tm) (k : Nat) (h : k < l.length) : aZ (l.take (k + 1)) = aZ (l.take k) + av l[k] := by
 have : ∀ (a : List Tm) (t : Tm), aZ (a ++ [t]) = aZ a + av t := by
  intro a t
  induction a with
  |nil => simp [aZ]
  |cons x r ih => simp only [List.cons_append, aZ, ih]; omega
 rw [List.take_succ_eq_append_getElem h, this]
theorem Di (l : List Tm) (k : Nat) : aZ (l.take k) ≤ aZ l := by
 have : ∀ (a b : List Tm), aZ (a ++ b) = aZ a + aZ b := by
  intro a b
  induction a with
  |nil => simp [aZ]
  |cons x r ih => simp only [List.cons_append, aZ, ih]; omega
 have h := this (l.take k) (l.drop k)
 rw [List.take_append_drop] at h; omega
mutual
theorem vv : ∀ t : Tm, dz t ≤ av t
 |.mk op name need ws kids => by
  have h := oN kids
  rw [dz, av]; omega
theorem oN : ∀ l : List Tm, eX l ≤ aZ l
 |[] => by simp [eX]
 |t :: r => by
  have h1 := vv t
  have h2 := oN r
  rw [eX, aZ]; omega
end
def SzOk (t : Tm) : Prop := ∀ (v : Value) (w : World) (S : Nat → Prop), eH w S t v → (∀ g, S g → g < w.heap.size) → av t ≤ 1000000000 → Calls Tryz.prog 29 #[v] w fun e w' => e = .returned (.tuple #[.int .i64 (av t), .int .i64 (dz t)]) ∧ Below w.heap.size w w'

set_option maxRecDepth 100000 in
set_option maxHeartbeats 4000000 in
theorem size_step (t : Tm) (ih : ∀ k ∈ t.kids, SzOk k) : SzOk t := by
 intro v w S hv hS hsz
 have HSS0 := Lib.hid (eP t)
 cases hv with
 |mk op nm need ws kids wA kA cw kc vs hw hwc hk hkc hl h =>
 have hss : av (.mk op nm need ws kids) = 1 + nm.size + ws.length + aZ kids := HSS0.out
 have hdd : dz (.mk op nm need ws kids) = eX kids + 1 := by rw [dz]
 have hkl := jJ kids
 have hbig : 1 + nm.size + ws.length + aZ kids ≤ 1000000000 := by omega
 have IH := Lib.hid (show ∀ k ∈ kids, SzOk k from ih)
 have HL := Lib.hid (show aU (eH w S) w S 5 kA kids from ⟨vs, hl, hk, h⟩)
 have hkb : kids.length ≤ 1000000000 := by omega
 have HSS := Lib.hid hss
 have HDD := Lib.hid hdd
 clear ih hw hk hl h hss hdd hsz
 obtain ⟨w0, hw0⟩ : ∃ w0 : World, w0 = w.alloc (.cells #[.int .i64 op, .string nm, .int .i64 need, .slice wA ws.length cw, .slice kA kids.length kc] 39) := ⟨_, rfl⟩
 have hb0 : Below w.heap.size w w0 := by rw [hw0]; exact (Below.refl _ _).alloc (Nat.le_refl _) _
 have hz0 : w0.heap.size = w.heap.size + 1 := by rw [hw0]; simp
 have hr0 : w0.heap[w.heap.size]? = some (.cells #[.int .i64 op, .string nm, .int .i64 need, .slice wA ws.length cw, .slice kA kids.length kc] 39 (0, 0)) := by rw [hw0]; exact heap_alloc_new w _
 have hlt0 : w.heap.size + 1 ≤ w0.heap.size := by omega
 have HR0 := Lib.hid hr0
 have hnI : (nm.size : Int) ≤ 1000000000 := by omega
 have hwI : (ws.length : Int) ≤ 1000000000 := by omega
 have HW0 := Lib.hid hw0
 clear hz0 hr0 hw0
 go_enter Tryz.func29, Tryz.ntmps29
 go_wp2
 rw [← HW0.out]
 go_loopw [4, 5, 6] (fun x y z wr => ∃ k : Nat, k ≤ kids.length ∧ z = .int .i64 k ∧ x = .int .i64 ((1 + nm.size + ws.length + aZ (kids.take k) : Nat) : Int) ∧ y = .int .i64 (eX (kids.take k) : Nat) ∧ Below (w.heap.size + 1) w0 wr) (fun _ _ z _ => kids.length - (intOf z).toNat)
 case atStart => exact ⟨0, Nat.zero_le _, rfl, by simp [aZ], by simp [eX], Below.refl _ _⟩
 case round =>
  obtain ⟨k, hk, rfl, rfl, rfl, hb⟩ := hrel
  have hsr := hb.size
  have hbw : Below w.heap.size w wr := hb0.trans (hb.mono (by omega))
  have hr1 := (hb.block _ (by omega)).trans HR0.out
  obtain ⟨c0, c1, c2, c3, c4, -⟩ := jm hr1
  clear hr1
  by_cases hlt : k < kids.length
  ·have hlr := HL.out.keep (P' := eH wr S) (aA hbw hS) (fun _ _ h => h.keep (aA hbw hS))
   obtain ⟨g, o, op1, nm1, nd1, wA1, wn1, wc1, kA1, kn1, kc1, rfl, hSg, htm, k0, k1, k2, k3, k4, -⟩ := fI hlr hlt
   have hgs : g < wr.heap.size := World.block_lt_of_cell? wr _ k0
   have hkI : (k : Int) < (kids.length : Int) := by omega
   have hk0 : (0 : Int) ≤ (k : Int) := by omega
   have hmem : kids[k] ∈ kids := List.getElem_mem hlt
   have hts := dh hmem
   have hsn := Dj kids k hlt
   have hdn := Bn kids k hlt
   have htk := Di kids (k + 1)
   have hdl := vv kids[k]
   have hdk := oN (kids.take k)
   have HC := Lib.hid (IH.out _ hmem _ wr S htm (fun g hg => by have := hS g hg; have := hbw.size; omega) (by omega))
   obtain ⟨a, ha⟩ : ∃ a, a = av kids[k] := ⟨_, rfl⟩
   obtain ⟨d, hd⟩ : ∃ d, d = dz kids[k] := ⟨_, rfl⟩
   rw [← ha, ← hd] at HC
   rw [← ha] at hsn
   rw [← hd] at hdn
   obtain ⟨p, hp⟩ : ∃ p, p = 1 + nm.size + ws.length + aZ (kids.take k) := ⟨_, rfl⟩
   obtain ⟨q, hq⟩ : ∃ q, q = eX (kids.take k) := ⟨_, rfl⟩
   have hpa : p + a ≤ 1000000000 := by omega
   have hqb : q ≤ 1000000000 := by omega
   have hdb : d ≤ 1000000000 := by omega
   have HSN := Lib.hid (show 1 + nm.size + ws.length + aZ (kids.take (k + 1)) = p + a by omega)
   have HDN := Lib.hid (show eX (kids.take (k + 1)) = max q d by rw [hdn, hq])
   rw [← hp, ← hq]
   clear htm hlr hsn hdn htk hdl hdk ha hd hp hq hts
   by_cases hqd : q ≤ d
   ·have m1 : (q : Int) ≤ (d : Int) := by omega
    have m2 : ¬ (d : Int) < (q : Int) := by omega
    have HM := Lib.hid (show max q d = d by omega)
    go_wp2_with fail
    refine HC.out.mono ?_
    rintro e W2 ⟨rfl, hb2⟩
    go_wp2
    go_roundw
    case rel => exact ⟨k + 1, by omega, by go_num, by rw [HSN.out]; go_num, by rw [HDN.out, HM.out]; congr 1; omega, hb.trans (hb2.mono (by omega))⟩
    case measure => simp [intOf]; omega
   ·have m1 : ¬ (q : Int) ≤ (d : Int) := by omega
    have m2 : (d : Int) < (q : Int) := by omega
    have HM := Lib.hid (show max q d = q by omega)
    go_wp2_with fail
    refine HC.out.mono ?_
    rintro e W2 ⟨rfl, hb2⟩
    go_wp2
    go_roundw
    case rel => exact ⟨k + 1, by omega, by go_num, by rw [HSN.out]; go_num, by rw [HDN.out, HM.out]; congr 1; omega, hb.trans (hb2.mono (by omega))⟩
    case measure => simp [intOf]; omega
  ·obtain rfl : k = kids.length := by omega
   have hkI : ¬ (kids.length : Int) < (kids.length : Int) := by omega
   rw [List.take_length]
   have hdl := oN kids
   obtain ⟨q, hq⟩ : ∃ q, q = eX kids := ⟨_, rfl⟩
   obtain ⟨p, hp⟩ : ∃ p, p = 1 + nm.size + ws.length + aZ kids := ⟨_, rfl⟩
   have HSZ := Lib.hid (HSS.out.trans hp.symm)
   have HDZ := Lib.hid (show dz (.mk op nm need ws kids) = q + 1 by rw [HDD.out, hq])
   have hqb : q ≤ 1000000000 := by omega
   rw [← hp, ← hq]
   clear hq hp hdl
   go_wp2
   go_ret2
   refine ⟨?_, hbw⟩
   rw [HSZ.out, HDZ.out]; rfl
theorem wI (t : Tm) : SzOk t := by
 have : ∀ (n : Nat) (t : Tm), av t ≤ n → SzOk t := by
  intro n
  induction n with
  |zero =>
    intro t ht; have : 0 < av t := by (cases t; rw [av]; omega)
    omega
  |succ n ih => intro t ht; exact size_step t (fun k hk => ih k (by have := fO hk; omega))
 exact this _ t (Nat.le_refl _)
end Go.Proofs.YtbmglebipepdmaaGreatDoor
namespace Go.Proofs.YtbmglebipepdmaaGreatDoor
open Go.RowKit
set_option maxRecDepth 100000 in
set_option maxHeartbeats 4000000 in
theorem vK (l : List Dc) (A : Option Addr) (c : Nat) (w : World) (S : Nat → Prop) (hl : aU (fC w S) w S 22 A l) (hS : ∀ g, S g → g < w.heap.size) (hsz : (l.map bQ).sum ≤ 1100000) :
  Calls Tryz.prog 11 #[.slice A l.length c] w fun e w' => e = .returned (.bool (decide ((l.map bI).sum ≤ 10000))) ∧ Below w.heap.size w w' := by
 have HL := Lib.hid hl
 have hll := jH l
 have hlb : l.length ≤ 1100000 := by omega
 have hfd := few_dc l
 have hfb : (l.map bI).sum ≤ 11000000 := by omega
 have HFB := Lib.hid (show ∀ k, ((l.take k).map bI).sum ≤ 11000000 from fun k => by have := Gn l k; omega)
 clear hl hsz hll hfd
 go_enter Tryz.func11, Tryz.ntmps11
 go_wp2
 go_loopw [3, 4] (fun n x wr => ∃ k : Nat, k ≤ l.length ∧ x = .int .i64 k ∧ n = .int .i64 (((l.take k).map bI).sum : Nat) ∧ Below w.heap.size w wr) (fun _ x _ => l.length - (intOf x).toNat)
 case atStart => exact ⟨0, Nat.zero_le _, rfl, rfl, Below.refl _ _⟩
 case round =>
  obtain ⟨k, hk, rfl, rfl, hb⟩ := hrel
  have hsr := hb.size
  by_cases hlt : k < l.length
  ·obtain ⟨g, o, v, rfl, hSg, hp, hc⟩ := fZ (fun _ _ h => jv h) (HL.out.keep (P' := fC wr S) (aA hb hS) (fun _ _ h => h.keep (aA hb hS))) hlt
   have hgs : g < wr.heap.size := by have := hS g hSg; omega
   have hkI : (k : Int) < (l.length : Int) := by omega
   have hk0 : (0 : Int) ≤ (k : Int) := by omega
   have hft := few_take l k hlt
   have hfk := HFB.out (k + 1)
   rw [hft] at hfk
   generalize l[k] = d at hp hft hfk
   obtain ⟨kind, line, name, names, faults, term, proto, read, write, use⟩ := d
   obtain ⟨nA, nc, fA, fc, vt, vr, vw, rfl, h1, h2, h3, h4, h5, h6, h7⟩ := hp
   obtain ⟨o1, m1, d1, wA1, wn1, wc1, kA1, kn1, kc1, rfl⟩ := h5.form
   obtain ⟨o2, m2, d2, wA2, wn2, wc2, kA2, kn2, kc2, rfl⟩ := h6.form
   obtain ⟨o3, m3, d3, wA3, wn3, wc3, kA3, kn3, kc3, rfl⟩ := h7.form
   simp only at h5 h6 h7
   have hfs : bI ⟨kind, line, name, names, faults, term, proto, read, write, use⟩ = av term + av read + av write + name.size + names.length + 10 * faults.length + proto.size + use.size := rfl
   rw [hfs] at hft hfk
   have hc2 : ∀ (j : Nat) (u : Value), ([.int .i64 kind, .int .i64 line, .string name, .slice nA names.length nc, .slice fA faults.length fc, .int .i64 o1, .string m1, .int .i64 d1, .slice wA1 wn1 wc1, .slice kA1 kn1 kc1, .string proto, .int .i64 o2, .string m2, .int .i64 d2, .slice wA2 wn2 wc2, .slice kA2 kn2 kc2, .int .i64 o3, .string m3, .int .i64 d3, .slice wA3 wn3 wc3, .slice kA3 kn3 kc3, .string use] : List Value)[j]? = some u → wr.cell? ⟨g, o + k * 22 + j, none⟩ = some u := fun j u hu => hc j u (by simpa [cellsOf, Value.cells] using hu)
   have hSW : ∀ (W : World), Below wr.heap.size wr W → ∀ g, S g → g < W.heap.size := fun W hW g hg => by have := hS g hg; have := hW.size; omega
   have e1 : av term ≤ 11000000 := by omega
   have e2 : av read ≤ 11000000 := by omega
   have e3 : av write ≤ 11000000 := by omega
   have hs1 := fun (W : World) (hW : Below wr.heap.size wr W) => wI term _ W S (h5.keep (aQ hW)) (hSW W hW) (by omega)
   have hs2 := fun (W : World) (hW : Below wr.heap.size wr W) => wI read _ W S (h6.keep (aQ hW)) (hSW W hW) (by omega)
   have hs3 := fun (W : World) (hW : Below wr.heap.size wr W) => wI write _ W S (h7.keep (aQ hW)) (hSW W hW) (by omega)
   obtain ⟨z1, y1⟩ : ∃ z, z = av term := ⟨_, rfl⟩
   obtain ⟨z2, y2⟩ : ∃ z, z = av read := ⟨_, rfl⟩
   obtain ⟨z3, y3⟩ : ∃ z, z = av write := ⟨_, rfl⟩
   simp only [← y1] at hs1
   simp only [← y2] at hs2
   simp only [← y3] at hs3
   rw [← y1, ← y2, ← y3] at hft hfk
   have HS1 := Lib.hid hs1
   have HS2 := Lib.hid hs2
   have HS3 := Lib.hid hs3
   obtain ⟨p, hp⟩ : ∃ p, p = ((l.take k).map bI).sum := ⟨_, rfl⟩
   rw [← hp] at hft hfk
   rw [← hp]
   have HSN := Lib.hid hft
   have p1 : p ≤ 11000000 := by omega
   have p2 : z1 ≤ 11000000 := by omega
   have p3 : z2 ≤ 11000000 := by omega
   have p4 : z3 ≤ 11000000 := by omega
   have p5 : name.size ≤ 11000000 := by omega
   have p6 : names.length ≤ 11000000 := by omega
   have p7 : faults.length ≤ 11000000 := by omega
   have p8 : proto.size ≤ 11000000 := by omega
   have p9 : use.size ≤ 11000000 := by omega
   clear hft hfk hfs hs1 hs2 hs3 h1 h2 h3 h4 h5 h6 h7 hc y1 y2 y3 hp e1 e2 e3
   have HC := Lib.hid hc2
   have a5 : wr.cell? ⟨g, o + k * 22 + 5, none⟩ = some (.int .i64 o1) := HC.out 5 _ rfl
   have a6 : wr.cell? ⟨g, o + k * 22 + 6, none⟩ = some (.string m1) := HC.out 6 _ rfl
   have a7 : wr.cell? ⟨g, o + k * 22 + 7, none⟩ = some (.int .i64 d1) := HC.out 7 _ rfl
   have a8 : wr.cell? ⟨g, o + k * 22 + 8, none⟩ = some (.slice wA1 wn1 wc1) := HC.out 8 _ rfl
   have a9 : wr.cell? ⟨g, o + k * 22 + 9, none⟩ = some (.slice kA1 kn1 kc1) := HC.out 9 _ rfl
   go_wp2_with fail
   refine (HS1.out wr (Below.refl _ _)).mono ?_
   rintro e W1 ⟨rfl, hb1⟩
   clear a5 a6 a7 a8 a9
   have b11 : W1.cell? ⟨g, o + k * 22 + 11, none⟩ = some (.int .i64 o2) := (hb1.cell (p := ⟨g, o + k * 22 + 11, none⟩) hgs).trans (HC.out 11 _ rfl)
   have b12 : W1.cell? ⟨g, o + k * 22 + 12, none⟩ = some (.string m2) := (hb1.cell (p := ⟨g, o + k * 22 + 12, none⟩) hgs).trans (HC.out 12 _ rfl)
   have b13 : W1.cell? ⟨g, o + k * 22 + 13, none⟩ = some (.int .i64 d2) := (hb1.cell (p := ⟨g, o + k * 22 + 13, none⟩) hgs).trans (HC.out 13 _ rfl)
   have b14 : W1.cell? ⟨g, o + k * 22 + 14, none⟩ = some (.slice wA2 wn2 wc2) := (hb1.cell (p := ⟨g, o + k * 22 + 14, none⟩) hgs).trans (HC.out 14 _ rfl)
   have b15 : W1.cell? ⟨g, o + k * 22 + 15, none⟩ = some (.slice kA2 kn2 kc2) := (hb1.cell (p := ⟨g, o + k * 22 + 15, none⟩) hgs).trans (HC.out 15 _ rfl)
   go_wp2_with fail
   refine (HS2.out W1 hb1).mono ?_
   rintro e W2 ⟨rfl, hb2⟩
   have hx2 : Below wr.heap.size wr W2 := hb1.trans (hb2.mono hb1.size)
   clear b11 b12 b13 b14 b15
   have e16 : W2.cell? ⟨g, o + k * 22 + 16, none⟩ = some (.int .i64 o3) := (hx2.cell (p := ⟨g, o + k * 22 + 16, none⟩) hgs).trans (HC.out 16 _ rfl)
   have e17 : W2.cell? ⟨g, o + k * 22 + 17, none⟩ = some (.string m3) := (hx2.cell (p := ⟨g, o + k * 22 + 17, none⟩) hgs).trans (HC.out 17 _ rfl)
   have e18 : W2.cell? ⟨g, o + k * 22 + 18, none⟩ = some (.int .i64 d3) := (hx2.cell (p := ⟨g, o + k * 22 + 18, none⟩) hgs).trans (HC.out 18 _ rfl)
   have e19 : W2.cell? ⟨g, o + k * 22 + 19, none⟩ = some (.slice wA3 wn3 wc3) := (hx2.cell (p := ⟨g, o + k * 22 + 19, none⟩) hgs).trans (HC.out 19 _ rfl)
   have e20 : W2.cell? ⟨g, o + k * 22 + 20, none⟩ = some (.slice kA3 kn3 kc3) := (hx2.cell (p := ⟨g, o + k * 22 + 20, none⟩) hgs).trans (HC.out 20 _ rfl)
   go_wp2_with fail
   refine (HS3.out W2 hx2).mono ?_
   rintro e W3 ⟨rfl, hb3⟩
   have hx3 : Below wr.heap.size wr W3 := hx2.trans (hb3.mono hx2.size)
   have hgs3 : g < W3.heap.size := Nat.lt_of_lt_of_le hgs hx3.size
   clear e16 e17 e18 e19 e20
   have f2 : W3.cell? ⟨g, o + k * 22 + 2, none⟩ = some (.string name) := (hx3.cell (p := ⟨g, o + k * 22 + 2, none⟩) hgs).trans (HC.out 2 _ rfl)
   have f3 : W3.cell? ⟨g, o + k * 22 + 3, none⟩ = some (.slice nA names.length nc) := (hx3.cell (p := ⟨g, o + k * 22 + 3, none⟩) hgs).trans (HC.out 3 _ rfl)
   have f4 : W3.cell? ⟨g, o + k * 22 + 4, none⟩ = some (.slice fA faults.length fc) := (hx3.cell (p := ⟨g, o + k * 22 + 4, none⟩) hgs).trans (HC.out 4 _ rfl)
   have f10 : W3.cell? ⟨g, o + k * 22 + 10, none⟩ = some (.string proto) := (hx3.cell (p := ⟨g, o + k * 22 + 10, none⟩) hgs).trans (HC.out 10 _ rfl)
   have f21 : W3.cell? ⟨g, o + k * 22 + 21, none⟩ = some (.string use) := (hx3.cell (p := ⟨g, o + k * 22 + 21, none⟩) hgs).trans (HC.out 21 _ rfl)
   go_upto_region 8 with fail
   go_quiet (fail)
   go_wp2
   go_roundw
   case rel =>
    refine ⟨k + 1, by omega, by go_num, ?_, below_drewN (hb.trans (hx3.mono hsr)) _⟩
    rw [HSN.out]
    go_num
   case measure => simp [intOf]; omega
  ·obtain rfl : k = l.length := by omega
   have hkI : ¬ (l.length : Int) < (l.length : Int) := by omega
   rw [List.take_length]
   obtain ⟨n, hn⟩ : ∃ n, n = (l.map bI).sum := ⟨_, rfl⟩
   rw [← hn]
   have HN := Lib.hid hn
   rw [← hn] at hfb
   clear hn
   go_wp2
   go_ret
   refine ⟨?_, hb⟩
   show Ending.returned (.bool (decide ((n : Int) ≤ 10000))) = _
   rw [show decide ((n : Int) ≤ 10000) = decide (n ≤ 10000) by rw [Bool.eq_iff_iff, decide_eq_true_iff, decide_eq_true_iff]; omega, HN.out]
end Go.Proofs.YtbmglebipepdmaaGreatDoor
namespace Go.Proofs.YtbmglebipepdmaaGreatDoor
open Go.RowKit
end Go.Proofs.YtbmglebipepdmaaGreatDoor
namespace Go.Proofs.YtbmglebipepdmaaGreatDoor
open Go.RowKit
theorem JI (s : ByteArray) (h0 : 0 < s.size) : dN s.data.toList = (decide (s.size ≤ 24) && dQ s[0].toNat && decide (pre bY s.data.toList = s.size)) := by
 have e : s.data.toList = s[0] :: s.data.toList.drop 1 := bW s 0 h0
 have hl : s.data.toList.length = s.size := by simp
 rw [← hl]
 generalize s.data.toList.drop 1 = r at e
 rw [e]
 rw [Bool.eq_iff_iff]
 simp [dN]

set_option maxRecDepth 100000 in
set_option maxHeartbeats 4000000 in
theorem isName6 (s : ByteArray) (w : World) : Calls Tryz.prog 104 #[.string s] w fun e w' => e = .returned (.bool (dN s.data.toList)) ∧ w = w' := by
 by_cases h0 : 0 < s.size
 ·have hne := bg h0
  have hEq := JI s h0
  by_cases h24 : 24 < s.size
  ·have h24I : (24 : Int) < (s.size : Int) := by omega
   have E := Lib.hid (show dN s.data.toList = false by rw [hEq]; simp; omega)
   clear hEq
   go_enter Tryz.func104, Tryz.ntmps104
   go_wp2
   go_ret
   exact ⟨by rw [E.out]; rfl, rfl⟩
  ·have h24I : ¬ (24 : Int) < (s.size : Int) := by omega
   have h0I : (0 : Int) < (s.size : Int) := by omega
   have hl0 := mo s[0].toNat w
   cases hl : dQ s[0].toNat
   ·rw [hl] at hl0
    have HC := Lib.hid hl0
    have E := Lib.hid (show dN s.data.toList = false by rw [hEq, hl]; simp)
    clear hEq hl hl0
    go_enter Tryz.func104, Tryz.ntmps104
    go_wp2_with fail
    refine HC.out.mono ?_
    rintro e w' ⟨rfl, rfl⟩
    go_wp2
    go_ret
    exact ⟨by rw [E.out]; rfl, rfl⟩
   ·rw [hl] at hl0
    have HC := Lib.hid hl0
    obtain ⟨n, hn⟩ : ∃ n, n = pre bY s.data.toList := ⟨_, rfl⟩
    have hplen := vS bY s.data.toList
    rw [show s.data.toList.length = s.size by simp, ← hn] at hplen
    have E := Lib.hid (show dN s.data.toList = decide (n = s.size) by rw [hEq, hl, ← hn]; simp; omega)
    have HPN := Lib.hid hn
    have HCA := Lib.hid (fun k (h : k < s.size) (hk : n = k + pre bY (s.data.toList.drop k)) => (show k < n ↔ bY s[k].toNat = true by rw [hn] at hk ⊢; exact cont_at s k h hk))
    have HYES := Lib.hid (fun k (h : k < s.size) (hc : bY s[k].toNat = true) => kZ bY s k h hc)
    clear hEq hl hl0 hn
    go_enter Tryz.func104, Tryz.ntmps104
    go_wp2_with fail
    refine HC.out.mono ?_
    rintro e w' ⟨rfl, rfl⟩
    go_wp2
    go_loop [3] (fun x => ∃ k : Nat, k ≤ n ∧ x = .int .i64 k ∧ Hid (n = k + pre bY (s.data.toList.drop k))) (fun x => s.size - (intOf x).toNat)
    case atStart => exact ⟨0, Nat.zero_le _, rfl, by show n = 0 + pre bY (s.data.toList.drop 0); rw [HPN.out]; simp⟩
    case round =>
     obtain ⟨k, hk, rfl, hpre⟩ := hrel
     by_cases hlt : k < s.size
     ·have hkI : (k : Int) < (s.size : Int) := by omega
      have hk0 : (0 : Int) ≤ (k : Int) := by omega
      have hlc := mo s[k].toNat w
      have hdc := mP s[k].toNat w
      have hcc := HCA.out k hlt hpre.out
      cases hc : bY s[k].toNat
      ·have hkn : ¬ k < n := fun h => by rw [hcc.1 h] at hc; simp at hc
       have E2 := Lib.hid (show dN s.data.toList = false by rw [E.out]; simp; omega)
       unfold bY at hc
       rw [Bool.or_eq_false_iff] at hc
       rw [hc.1] at hlc
       rw [hc.2] at hdc
       have HLC := Lib.hid hlc
       have HDC := Lib.hid hdc
       clear hc hlc hdc hcc
       go_wp2_with fail
       refine HLC.out.mono ?_
       rintro e w' ⟨rfl, rfl⟩
       go_wp2_with fail
       refine HDC.out.mono ?_
       rintro e w' ⟨rfl, rfl⟩
       go_wp2
       go_ret
       exact ⟨by rw [E2.out]; rfl, rfl⟩
      ·have hkn := hcc.2 hc
       have HPY := Lib.hid (HYES.out k hlt hc)
       unfold bY at hc
       cases hll : dQ s[k].toNat
       ·rw [hll] at hc hlc
        rw [Bool.false_or] at hc
        rw [hc] at hdc
        have HLC := Lib.hid hlc
        have HDC := Lib.hid hdc
        clear hlc hdc hc hll hcc
        go_wp2_with fail
        refine HLC.out.mono ?_
        rintro e w' ⟨rfl, rfl⟩
        go_wp2_with fail
        refine HDC.out.mono ?_
        rintro e w' ⟨rfl, rfl⟩
        go_wp2
        go_round
        case rel =>
         refine ⟨k + 1, by omega, by go_num, ?_⟩
         show n = k + 1 + pre bY (s.data.toList.drop (k + 1))
         have := HPY.out; have := hpre.out; omega
        case measure => simp [intOf]; omega
       ·rw [hll] at hlc
        have HLC := Lib.hid hlc
        clear hlc hdc hc hll hcc
        go_wp2_with fail
        refine HLC.out.mono ?_
        rintro e w' ⟨rfl, rfl⟩
        go_wp2
        go_round
        case rel =>
         refine ⟨k + 1, by omega, by go_num, ?_⟩
         show n = k + 1 + pre bY (s.data.toList.drop (k + 1))
         have := HPY.out; have := hpre.out; omega
        case measure => simp [intOf]; omega
     ·have hkI : ¬ (k : Int) < (s.size : Int) := by omega
      have E2 := Lib.hid (show dN s.data.toList = true by rw [E.out]; simp; omega)
      go_wp2
      go_ret
      exact ⟨by rw [E2.out]; rfl, rfl⟩
 ·obtain rfl := nZ (show s.size = 0 by omega)
  go_enter Tryz.func104, Tryz.ntmps104
  go_wp2
  go_ret
  exact ⟨rfl, rfl⟩

set_option maxHeartbeats 1000000 in
theorem ru (s : ByteArray) (w : World) : Calls Tryz.prog 71 #[.string s] w fun e w' => e = .returned (.bool (bO s)) ∧ Below w.heap.size w w' := by
 have hl := isName6 s w
 have hr := xI s w
 unfold bO
 cases h : dN s.data.toList
 ·rw [h] at hl
  have HL := Lib.hid hl
  clear hl hr h
  go_enter Tryz.func71, Tryz.ntmps71
  go_wp2_with fail
  refine HL.out.mono ?_
  rintro e w' ⟨rfl, rfl⟩
  go_wp2
  go_ret
  exact ⟨rfl, Below.refl _ _⟩
 ·rw [h] at hl
  have HL := Lib.hid hl
  have HR := Lib.hid hr
  clear hl hr h
  go_enter Tryz.func71, Tryz.ntmps71
  go_wp2_with fail
  refine HL.out.mono ?_
  rintro e w' ⟨rfl, rfl⟩
  go_wp2_with fail
  refine HR.out.mono ?_
  rintro e w' ⟨rfl, hb⟩
  go_wp2
  go_ret
  exact ⟨by rw [Bool.true_and]; rfl, hb⟩

set_option maxHeartbeats 1000000 in
theorem Dw (n : Int) (w : World) : Calls Tryz.prog 103 #[.int .i64 n] w fun e w' => e = .returned (.bool (small n)) ∧ w = w' := by
 have key : ∀ r : Bool, (r = true ↔ (0 ≤ n ∧ n ≤ 100000)) → r = small n := by
  intro r h
  rw [Bool.eq_iff_iff, h]
  simp [small]
 have HK := Lib.hid key
 clear key
 go_enter Tryz.func103, Tryz.ntmps103
 go_wp2
 all_goals go_ret
 all_goals refine ⟨congrArg (fun b => Ending.returned (.bool b)) (HK.out _ ?_), rfl⟩
 all_goals simp
 all_goals omega

set_option maxRecDepth 100000 in
set_option maxHeartbeats 1000000 in
theorem GN (l : List ByteArray) (A : Option Addr) (c : Nat) (w : World) (S : Nat → Prop) (h : aN w S 1 A l.length (l.map Value.string)) (hS : ∀ g, S g → g < w.heap.size) (hl : l.length ≤ 1000000000000) :
  Calls Tryz.prog 72 #[.slice A l.length c] w fun e w' => e = .returned (.bool (bD l)) ∧ Below w.heap.size w w' := by
 have H := Lib.hid h
 clear h
 go_enter Tryz.func72, Tryz.ntmps72
 go_wp2
 go_loopw [3] (fun x wr => ∃ k : Nat, k ≤ l.length ∧ x = .int .i64 k ∧ Below w.heap.size w wr ∧ Hid (bD l = bD (l.drop k))) (fun x _ => l.length - (intOf x).toNat)
 case atStart => exact ⟨0, Nat.zero_le _, rfl, Below.refl _ _, rfl⟩
 case round =>
  obtain ⟨k, hk, rfl, hb, hd⟩ := hrel
  by_cases hlt : k < l.length
  ·obtain ⟨g1, o1, rfl, hS1, k1⟩ := one_cell (H.out.keep (aA hb hS)) hlt
   have hg1 : g1 < wr.heap.size := World.block_lt_of_cell? wr _ k1
   have hdk : bD (l.drop k) = (bO l[k] && bD (l.drop (k + 1))) := by rw [List.drop_eq_getElem_cons hlt]; rfl
   generalize l[k] = u at k1 hdk
   have hn := ru u wr
   have hkI : (k : Int) < (l.length : Int) := by omega
   have hk0 : (0 : Int) ≤ (k : Int) := by omega
   cases hu : bO u
   ·rw [hu] at hn hdk
    have HN := Lib.hid hn
    have E := Lib.hid (show bD l = false by rw [hd.out, hdk]; rfl)
    clear hn hdk hu
    go_wp2_with fail
    refine HN.out.mono ?_
    rintro e w' ⟨rfl, hb2⟩
    go_wp2
    go_ret
    exact ⟨by rw [E.out]; rfl, hb.trans (hb2.mono hb.size)⟩
   ·rw [hu] at hn hdk
    have HN := Lib.hid hn
    have E := Lib.hid (show bD l = bD (l.drop (k + 1)) by rw [hd.out, hdk]; rfl)
    clear hn hdk hu
    go_wp2_with fail
    refine HN.out.mono ?_
    rintro e w' ⟨rfl, hb2⟩
    go_wp2
    go_roundw
    case rel => exact ⟨k + 1, by omega, by go_num, hb.trans (hb2.mono hb.size), E.out⟩
    case measure => simp [intOf]; omega
  ·obtain rfl : k = l.length := by omega
   have hkI : ¬ (l.length : Int) < (l.length : Int) := by omega
   have E := Lib.hid (show bD l = true by rw [hd.out, List.drop_length]; rfl)
   go_wp2
   go_ret
   exact ⟨by rw [E.out]; rfl, hb⟩

set_option maxHeartbeats 2000000 in
theorem blank_ref (op need : Int) (nm : ByteArray) (wA kA : Option Addr) (wn wc kn kc : Nat) (w : World) (hw : wn ≤ 1000000000000) (hk : kn ≤ 1000000000000) :
  Calls Tryz.prog 74 #[.agg #[.int .i64 op, .string nm, .int .i64 need, .slice wA wn wc, .slice kA kn kc]] w fun e w' => e = .returned (.bool (decide (op = 0) && decide (nm.size = 0) && (decide (need = 0) && decide (wn + kn = 0)))) ∧ Below w.heap.size w w' := by
 have hb : ∀ o, Below w.heap.size w (w.alloc o) := fun o => (Below.refl _ _).alloc (Nat.le_refl _) o
 by_cases ho : op = 0
 ·subst ho
  by_cases hm : nm.size = 0
  ·obtain rfl := nZ hm
   by_cases h0 : need = 0
   ·subst h0
    have hz : (((wn : Int) + (kn : Int)) == 0) = decide (wn + kn = 0) := by rw [Bool.eq_iff_iff]; simp; omega
    have e : (decide ((0 : Int) = 0) && decide ((⟨#[]⟩ : ByteArray).size = 0) && (decide ((0 : Int) = 0) && decide (wn + kn = 0))) = decide (wn + kn = 0) := rfl
    have HZ := Lib.hid hz
    rw [e]
    clear e hz
    go_enter Tryz.func74, Tryz.ntmps74
    go_wp2
    go_ret
    refine ⟨?_, hb _⟩
    rw [← HZ.out]; rfl
   ·have hz : (need == 0) = false := by rw [beq_eq_false_iff_ne]; exact h0
    have e : (decide ((0 : Int) = 0) && decide ((⟨#[]⟩ : ByteArray).size = 0) && (decide (need = 0) && decide (wn + kn = 0))) = false := by simp [h0]
    rw [e]
    clear e h0
    go_enter Tryz.func74, Tryz.ntmps74
    go_wp2
    go_ret
    exact ⟨rfl, hb _⟩
  ·have hne := bg (show 0 < nm.size by omega)
   have e : (decide ((0 : Int) = 0) && decide (nm.size = 0) && (decide (need = 0) && decide (wn + kn = 0))) = false := by simp [hm]
   rw [e]
   clear e
   go_enter Tryz.func74, Tryz.ntmps74
   go_wp2
   go_ret
   exact ⟨rfl, hb _⟩
 ·have hz : (op == 0) = false := by rw [beq_eq_false_iff_ne]; exact ho
  have e : (decide (op = 0) && decide (nm.size = 0) && (decide (need = 0) && decide (wn + kn = 0))) = false := by simp [ho]
  rw [e]
  clear e
  go_enter Tryz.func74, Tryz.ntmps74
  go_wp2
  go_ret
  exact ⟨rfl, hb _⟩
end Go.Proofs.YtbmglebipepdmaaGreatDoor
namespace Go.Proofs.YtbmglebipepdmaaGreatDoor
open Go.RowKit
theorem Jr (op : Int) (nm : ByteArray) (nd : Int) (ws : List Int) (ks : List Tm) : bX (.mk op nm nd ws ks) =
  bif op == 1 then bO nm && ((nd == 0) && decide (ws.length + ks.length = 0))
  else bif op == 2 then nm.toList.isEmpty && small nd && decide (0 < ks.length) && (decide (ws.length = 0) || decide (ws.length = ks.length))
  else bif op == 3 || op == 4 then nm.toList.isEmpty && (nd == 0) && decide (ws.length = 0) && decide (2 ≤ ks.length)
  else bif op == 5 then nm.toList.isEmpty && (nd == 0) && decide (ws.length = 0) && decide (ks.length = 1)
  else bif op == 6 || op == 7 || op == 8 then (bO nm || nm.toList == [115, 101, 114, 118, 101, 114, 115]) && ((nd == 0) && decide (ws.length + ks.length = 0)) else false := by
 have e : (nm.toList == [115, 101, 114, 118, 101, 114, 115]) = (nm == (⟨#[115, 101, 114, 118, 101, 114, 115]⟩ : ByteArray)) := by rw [← jD, ByteArray.toList_eq ((⟨#[115, 101, 114, 118, 101, 114, 115]⟩ : ByteArray))]
 have e0 : (nd == 0) = decide (nd = 0) := nT nd 0
 rw [e, ← ko, e0]
 rcases gQ op 1 with q1 | rfl
 rcases gQ op 2 with q2 | rfl
 rcases gQ op 3 with q3 | rfl
 rcases gQ op 4 with q4 | rfl
 rcases gQ op 5 with q5 | rfl
 rcases gQ op 6 with q6 | rfl
 rcases gQ op 7 with q7 | rfl
 rcases gQ op 8 with q8 | rfl
 ·simp only [beq_eq_false_iff_ne] at *
  simp [bX, Tm.op, *]
 all_goals rfl
def ITOk (t : Tm) : Prop := ∀ (v : Value) (w : World) (S : Nat → Prop), eH w S t v → (∀ g, S g → g < w.heap.size) → av t ≤ 1000000000000 →
 Calls Tryz.prog 73 #[v] w fun e w' => e = .returned (.bool (jf t)) ∧ Below w.heap.size w w'

set_option maxRecDepth 100000 in
set_option maxHeartbeats 16000000 in
theorem Gd (t : Tm) (ih : ∀ k ∈ t.kids, ITOk k) : ITOk t := by
 intro v w S hv hS hsz
 have hss := eP t
 cases hv with
 |mk op nm need ws kids wA kA cw kc vs hw hwc hk hkc hl h =>
 replace hss : av (.mk op nm need ws kids) = 1 + nm.size + ws.length + aZ kids := hss
 have hkl := jJ kids
 have G := fun (W : World) (hb : Below w.heap.size w W) g (hg : S g) => Nat.lt_of_lt_of_le (hS g hg) hb.size
 have IH := Lib.hid (fun k (hk : k < kids.length) v (W : World) (hb : Below w.heap.size w W) (h : eH W S kids[k] v) => ih _ (List.getElem_mem hk) v W S h (G W hb) (by have := dh (List.getElem_mem hk); omega))
 have HL := Lib.hid (fun (W : World) (hb : Below w.heap.size w W) => (show aU (eH w S) w S 5 kA kids from ⟨vs, hl, hk, h⟩).keep (P' := eH W S) (aA hb hS) (fun _ _ h => h.keep (aA hb hS)))
 have HWS := Lib.hid (fun (W : World) (hb : Below w.heap.size w W) => hw.keep (aA hb hS))
 have hkw : kids.length + ws.length < 1000000000000 := by omega
 have HOK := Lib.hid (show jf (.mk op nm need ws kids) = (bX (.mk op nm need ws kids) && ws.all small && kids.all jf) from FY _)
 obtain ⟨R, hR⟩ : ∃ R, jf (.mk op nm need ws kids) = R := ⟨_, rfl⟩
 rw [hR] at HOK ⊢
 clear hR
 have HN := Lib.hid (fun W => ru nm W)
 have HM := Lib.hid (fun n W => Dw n W)
 clear ih hw hk hl h hss hkl hsz G hS
 go_enter Tryz.func73, Tryz.ntmps73
 go_wp2
 obtain ⟨W, hW⟩ : ∃ W : World, W = w.alloc (.cells #[.int .i64 op, .string nm, .int .i64 need, .slice wA ws.length cw, .slice kA kids.length kc] 39) := ⟨_, rfl⟩
 have hb : Below w.heap.size w W := by rw [hW]; exact (Below.refl _ _).alloc (Nat.le_refl _) _
 have hr := Lib.hid (uZ hW)
 rw [← hW]
 clear hW
 go_loopw [3] (fun x wr => ∃ k : Nat, k ≤ kids.length ∧ x = .int .i64 k ∧ Below W.heap.size W wr ∧ Hid (kids.all jf = (kids.drop k).all jf)) (fun x _ => kids.length - (intOf x).toNat)
 case atStart => exact ⟨0, Nat.zero_le _, rfl, Below.refl _ _, rfl⟩
 case round =>
 obtain ⟨k, hk, rfl, h, hd⟩ := hrel
 obtain ⟨hb, hr⟩ := row_step hb hr h
 obtain ⟨c0, c1, c2, c3, c4, -⟩ := jm hr.out
 by_cases hlt : k < kids.length
 ·obtain ⟨g, o, op1, nm1, nd1, wA1, wn1, wc1, kA1, kn1, kc1, rfl, hSg, htm, k0, k1, k2, k3, k4, -⟩ := fI (HL.out wr hb) hlt
  have hkI : (k : Int) < (kids.length : Int) := by omega
  have hdk := Lib.hid (show (kids.drop k).all jf = (jf kids[k] && (kids.drop (k + 1)).all jf) by rw [List.drop_eq_getElem_cons hlt, List.all_cons])
  have HC := Lib.hid (IH.out k hlt _ wr hb htm)
  clear htm
  go_wp2_with fail
  refine HC.out.mono ?_
  rintro e W2 ⟨rfl, h2⟩
  rcases pG (jf kids[k]) with q | q <;> rw [q] at hdk ⊢ <;> go_wp2
  ·go_roundw
   case rel => exact ⟨k + 1, by omega, by go_num, h.trans (h2.mono h.size), Lib.hid (by rw [hd.out, hdk.out]; rfl)⟩
   case measure => simp [intOf]; omega
  ·go_ret
   exact ⟨by rw [HOK.out, hd.out, hdk.out]; simp, hb.trans (h2.mono hb.size)⟩
 obtain rfl : k = kids.length := by omega
 have hkI : ¬ (kids.length : Int) < (kids.length : Int) := by omega
 rw [hd.out, List.drop_length] at HOK
 obtain ⟨w1, hw1⟩ : ∃ w1 : World, w1 = wr := ⟨_, rfl⟩
 rw [← hw1] at hb hr c0 c1 c2 c3 c4 ⊢
 clear hd hw1 h
 go_wp2
 go_loopw [4] (fun x wr => ∃ k : Nat, k ≤ ws.length ∧ x = .int .i64 k ∧ wr = w1 ∧ Hid (ws.all small = (ws.drop k).all small)) (fun x _ => ws.length - (intOf x).toNat)
 case atStart => exact ⟨0, Nat.zero_le _, rfl, by trivial, by trivial⟩
 case round =>
 obtain ⟨k, hk, rfl, rfl, hd⟩ := hrel
 by_cases hlt : k < ws.length
 ·obtain ⟨g1, o1, rfl, hS1, k1⟩ := one_cell (HWS.out wr hb) hlt
  have hdk := Lib.hid (show (ws.drop k).all small = (small ws[k] && (ws.drop (k + 1)).all small) by rw [List.drop_eq_getElem_cons hlt, List.all_cons])
  generalize ws[k] = u at k1 hdk
  have hkI2 : (k : Int) < (ws.length : Int) := by omega
  go_wp2_with fail
  refine (HM.out u wr).mono ?_
  rintro e w' ⟨rfl, rfl⟩
  rcases pG (small u) with q | q <;> rw [q] at hdk ⊢ <;> go_wp2
  ·go_roundw
   case rel => exact ⟨k + 1, by omega, by go_num, by trivial, Lib.hid (by rw [hd.out, hdk.out]; rfl)⟩
   case measure => simp [intOf]; omega
  ·go_ret
   exact ⟨by rw [HOK.out, hd.out, hdk.out]; simp, hb⟩
 obtain rfl : k = ws.length := by omega
 have hkI2 : ¬ (ws.length : Int) < (ws.length : Int) := by omega
 rw [hd.out, List.drop_length, Jr] at HOK
 have z1 : (((ws.length : Int) + (kids.length : Int)) == 0) = decide (ws.length + kids.length = 0) := by rw [nT]; exact decide_eq_decide.2 (by omega)
 have z2 : decide ((0 : Int) < (kids.length : Int)) = decide (0 < kids.length) := decide_eq_decide.2 (by omega)
 have z3 : ((ws.length : Int) == 0) = decide (ws.length = 0) := by rw [nT]; exact decide_eq_decide.2 (by omega)
 have z4 : ((ws.length : Int) == (kids.length : Int)) = decide (ws.length = kids.length) := by rw [nT]; exact decide_eq_decide.2 (by omega)
 have z5 : decide ((2 : Int) ≤ (kids.length : Int)) = decide (2 ≤ kids.length) := decide_eq_decide.2 (by omega)
 have z6 : ((kids.length : Int) == 1) = decide (kids.length = 1) := by rw [nT]; exact decide_eq_decide.2 (by omega)
 generalize decide (ws.length + kids.length = 0) = a1 at z1 HOK
 generalize decide (0 < kids.length) = a2 at z2 HOK
 generalize decide (ws.length = 0) = a3 at z3 HOK
 generalize decide (ws.length = kids.length) = a4 at z4 HOK
 generalize decide (2 ≤ kids.length) = a5 at z5 HOK
 generalize decide (kids.length = 1) = a6 at z6 HOK
 clear hd
 go_wp2_with (first
  |((with_reducible refine (HN.out _).mono ?_); rintro e W2 ⟨rfl, h2⟩; obtain ⟨-, hr⟩ := row_step hb hr h2; obtain ⟨e0, e1, e2, e3, e4, -⟩ := jm hr.out)
  |((with_reducible refine (HM.out _ _).mono ?_); rintro e W3 ⟨rfl, rfl⟩))
 all_goals
  go_ret
  refine ⟨by rw [HOK.out]; simp_all, ?_⟩
  first | exact hb.trans (h2.mono hb.size) | exact hb
theorem qZ (t : Tm) : ITOk t := by
 have : ∀ (n : Nat) (t : Tm), av t ≤ n → ITOk t := by
  intro n
  induction n with
  |zero => intro t ht; exact absurd ht (by cases t; rw [av]; omega)
  |succ n ih => intro t ht; exact Gd t (fun k hk => ih k (by have := fO hk; omega))
 exact this _ t (Nat.le_refl _)
end Go.Proofs.YtbmglebipepdmaaGreatDoor
namespace Go.Proofs.YtbmglebipepdmaaGreatDoor
open Go.RowKit
theorem rT (l : List (List UInt8)) (sep : List UInt8) (k : Nat) (h : k < l.length) : Lib.join (l.take (k + 1)) sep = Lib.join (l.take k) sep ++ (if k = 0 then [] else sep) ++ l[k] := by
 match l, h with
 |x :: r, h =>
  cases k with
  |zero => simp [Lib.join_one, Lib.join_nil]
  |succ k =>
   simp only [List.length_cons] at h
   have e := Lib.joinTail_take_succ sep r k r[k] (List.getElem?_eq_getElem (by omega))
   rw [List.take_succ_cons, List.take_succ_cons, Lib.join_cons, Lib.join_cons, e]
   simp
theorem nC (l : List (List UInt8)) (sep : List UInt8) (k : Nat) : (Lib.join (l.take k) sep).length ≤ (Lib.join l sep).length := by
 match l with
 |[] => simp
 |x :: r =>
  cases k with
  |zero => simp [Lib.join_nil]
  |succ k =>
   have := Lib.joinTail_take_le sep r k
   rw [List.take_succ_cons, Lib.join_cons, Lib.join_cons, List.length_append, List.length_append]
   omega
theorem jO (l : List (List UInt8)) (sep : List UInt8) (h : 0 < l.length) : Lib.join (l.take (0 + 1)) sep = Lib.join (l.take 0) sep ++ l[0] := by rw [rT l sep 0 h]; simp
theorem jZ (l : List (List UInt8)) (sep : List UInt8) (k : Nat) (h : k < l.length) (hk : 0 < k) : Lib.join (l.take (k + 1)) sep = Lib.join (l.take k) sep ++ sep ++ l[k] := by rw [rT l sep k h, if_neg (by omega)]

set_option maxRecDepth 100000 in
set_option maxHeartbeats 2000000 in
theorem uE (l : List ByteArray) (A : Option Addr) (c : Nat) (w : World) (S : Nat → Prop) (h : aN w S 1 A l.length (l.map Value.string)) (hS : ∀ g, S g → g < w.heap.size) (hl : 2 * l.length + tot l ≤ 48000000000) :
  Calls Tryz.prog 75 #[.slice A l.length c] w fun e w' => e = .returned (.string (bs (dJ l))) ∧ w = w' := by
 have H := Lib.hid h
 have hjl := jY l [44, 32]
 have hlen : (lst l).length = l.length := by simp [lst]
 have HLE := Lib.hid (show ∀ k, (Lib.join ((lst l).take k) [44, 32]).length ≤ 48000000000 from fun k => by have := nC (lst l) [44, 32] k; unfold joined at hjl; simp only [List.length_cons, List.length_nil] at hjl; omega)
 have HLL := Lib.hid hlen
 clear h hjl hlen
 go_enter Tryz.func75, Tryz.ntmps75
 go_wp2
 go_loop [3, 4] (fun o x => ∃ k : Nat, k ≤ l.length ∧ x = .int .i64 k ∧ o = .string (bs (Lib.join ((lst l).take k) [44, 32]))) (fun _ x => l.length - (intOf x).toNat)
 case atStart => exact ⟨0, Nat.zero_le _, rfl, rfl⟩
 case round =>
  obtain ⟨k, hk, rfl, rfl⟩ := hrel
  obtain ⟨T, hT⟩ : ∃ T, T = bs (Lib.join ((lst l).take k) [44, 32]) := ⟨_, rfl⟩
  have hTs : T.size ≤ 48000000000 := by rw [hT, bZ]; exact HLE.out k
  rw [← hT]
  have HT := Lib.hid hT
  clear hT
  by_cases hlt : k < l.length
  ·obtain ⟨g1, o1, rfl, hS1, k1⟩ := one_cell H.out hlt
   have hg1 : g1 < w.heap.size := hS g1 hS1
   have hkI : (k : Int) < (l.length : Int) := by omega
   have hk0 : (0 : Int) ≤ (k : Int) := by omega
   have hkl : k < (lst l).length := by rw [HLL.out]; exact hlt
   have hq : (lst l)[k] = l[k].data.toList := by simp [lst]
   have hus : l[k].size ≤ 48000000000 := by
    have := IB l k
    rw [List.getD_eq_getElem?_getD, List.getElem?_eq_getElem hlt] at this
    simp at this
    omega
   by_cases hz : 0 < k
   ·have hzI : (0 : Int) < (k : Int) := by omega
    have HS := Lib.hid (jZ (lst l) [44, 32] k hkl hz)
    rw [hq] at HS
    generalize l[k] = u at k1 hus HS
    clear hq hz
    go_wp2
    go_round
    case rel =>
     refine ⟨k + 1, by omega, by go_num, ?_⟩
     rw [HS.out, HT.out, ← dY u, show (⟨#[44, 32]⟩ : ByteArray) = bs [44, 32] from rfl]
     simp only [bS, gm, List.append_assoc]
    case measure => simp [intOf]; omega
   ·obtain rfl : k = 0 := by omega
    have HS := Lib.hid (jO (lst l) [44, 32] hkl)
    rw [hq] at HS
    generalize l[0] = u at k1 hus HS
    rw [Nat.add_zero] at k1
    clear hq hz
    go_wp2
    go_round
    case rel =>
     refine ⟨0 + 1, by omega, by go_num, ?_⟩
     rw [HS.out, HT.out, ← dY u]
     simp only [bS, gm]
    case measure => simp [intOf]; omega
  ·obtain rfl : k = l.length := by omega
   have hkI : ¬ (l.length : Int) < (l.length : Int) := by omega
   have HE := Lib.hid (show T = bs (dJ l) by rw [HT.out, ← HLL.out, List.take_length]; rfl)
   go_wp2
   go_ret
   exact ⟨by rw [← HE.out]; rfl, rfl⟩

def vT (b : Bool) : List Int := if b then [4] else [3, 4]
def TTOk (t : Tm) : Prop := ∀ (v : Value) (w : World) (S : Nat → Prop), eH w S t v → (∀ g, S g → g < w.heap.size) → jf t = true → av t ≤ 1000000000 → Pow w →
 Calls Tryz.prog 77 #[v] w fun e w' => e = .returned (.string (bs (aS t))) ∧ Below w.heap.size w w'

theorem Hg (t : Tm) (b : Bool) (x : List UInt8) (h : t.op = 4 ∨ b = false ∧ t.op = 3) : par (vT b) t x = [40] ++ x ++ [41] := by
 unfold par vT
 rcases h with h | ⟨rfl, h⟩
 ·rw [h]; cases b <;> rfl
 ·rw [h]; rfl
theorem zT (t : Tm) (b : Bool) (x : List UInt8) (h4 : t.op ≠ 4) (h3 : b = true ∨ t.op ≠ 3) : par (vT b) t x = x := by
 have key : (vT b).contains t.op = false := by
  cases b
  ·have h3 : t.op ≠ 3 := by
    rcases h3 with h | h
    ·simp at h
    ·exact h
   show ([3, 4] : List Int).contains t.op = false
   rw [List.contains_eq_mem, decide_eq_false_iff_not]
   simp; omega
  ·show ([4] : List Int).contains t.op = false
   rw [List.contains_eq_mem, decide_eq_false_iff_not]
   simp; omega
 unfold par
 rw [key, if_neg (by simp)]

set_option maxRecDepth 100000 in
set_option maxHeartbeats 8000000 in
theorem JM (l : List Tm) (b : Bool) (sep : ByteArray) (S : Nat → Prop) (A : Option Addr) (c : Nat) (w : World) (hl : aU (eH w S) w S 5 A l) (hS : ∀ g, S g → g < w.heap.size)
  (hok : ∀ k ∈ l, jf k = true) (hT : ∀ k ∈ l, TTOk k) (hsz : aZ l ≤ 1000000000) (hsep : sep.size ≤ 3) (hpw : Pow w) :
  Calls Tryz.prog 107 #[.slice A l.length c, .string sep, .bool b] w fun e w' => e = .returned (.string (bs (Lib.join (l.map fun k => par (vT b) k (aS k)) sep.data.toList))) ∧ Below w.heap.size w w' := by
 have HL := Lib.hid hl
 have HK := Lib.hid hok
 have HIH := Lib.hid hT
 have HP := Lib.hid hpw
 have hll := jJ l
 obtain ⟨Q, hQ⟩ : ∃ Q, Q = l.map fun k => par (vT b) k (aS k) := ⟨_, rfl⟩
 have hQl : Q.length = l.length := by rw [hQ, List.length_map]
 have hpl := H7 hok (vT b) sep.data.toList (by simpa using hsep)
 rw [← hQ] at hpl ⊢
 have HLE := Lib.hid (show ∀ k, (Lib.join (Q.take k) sep.data.toList).length ≤ 48000000000 from fun k => by have := nC Q sep.data.toList k; omega)
 have HQ := Lib.hid (show ∀ k (h : k < l.length) (h2 : k < Q.length), Q[k] = par (vT b) l[k] (aS l[k]) from fun k h h2 => by simp [hQ])
 have HQL := Lib.hid hQl
 clear hl hok hT hpw hQ hQl hpl
 go_enter Tryz.func107, Tryz.ntmps107
 go_wp2
 go_loopw [7, 8] (fun o x wr => ∃ k : Nat, k ≤ l.length ∧ x = .int .i64 k ∧ o = .string (bs (Lib.join (Q.take k) sep.data.toList)) ∧ Below w.heap.size w wr) (fun _ x _ => l.length - (intOf x).toNat)
 case atStart => exact ⟨0, Nat.zero_le _, rfl, by simp [Lib.join_nil]; rfl, Below.refl _ _⟩
 case round =>
  obtain ⟨k, hk, rfl, rfl, hb⟩ := hrel
  have hsr := hb.size
  obtain ⟨T, hTd⟩ : ∃ T, T = bs (Lib.join (Q.take k) sep.data.toList) := ⟨_, rfl⟩
  have hTs : T.size ≤ 48000000000 := by rw [hTd, bZ]; exact HLE.out k
  rw [← hTd]
  have HT := Lib.hid hTd
  clear hTd
  by_cases hlt : k < l.length
  ·obtain ⟨g, o, op1, nm1, nd1, wA1, wn1, wc1, kA1, kn1, kc1, rfl, hSg, htm, k0, k1, k2, k3, k4, hop⟩ := fI (HL.out.keep (P' := eH wr S) (aA hb hS) (fun _ _ h => h.keep (aA hb hS))) hlt
   have hgs : g < wr.heap.size := World.block_lt_of_cell? wr _ k0
   have hkI : (k : Int) < (l.length : Int) := by omega
   have hk0 : (0 : Int) ≤ (k : Int) := by omega
   have hmem : l[k] ∈ l := List.getElem_mem hlt
   have hkl : k < Q.length := by rw [HQL.out]; exact hlt
   have hts := dh hmem
   have htl := eY (HK.out _ hmem)
   have hC := HIH.out _ hmem _ wr S htm (fun g hg => by have := hS g hg; omega) (HK.out _ hmem) (by omega) (HP.out.below hb)
   have hq := HQ.out k hlt hkl
   have hus : (bs (aS l[k])).size ≤ 48000000000 := by rw [bZ]; omega
   obtain ⟨t, ht⟩ : ∃ t, t = l[k] := ⟨_, rfl⟩
   rw [← ht] at hC hq hop hus
   obtain ⟨U, hU⟩ : ∃ U, U = bs (aS t) := ⟨_, rfl⟩
   rw [← hU] at hC hus
   have HU := Lib.hid hU
   have HC := Lib.hid hC
   have HOP := Lib.hid hop
   clear htm htl hts hC ht hU hop hmem
   by_cases h4 : op1 = 4
   ·have q4 : (op1 == 4) = true := by rw [h4]; rfl
    rw [Hg _ _ _ (.inl (HOP.out.symm.trans h4))] at hq
    clear h4
    by_cases hz : 0 < k
    ·have hzI : (0 : Int) < (k : Int) := by omega
     have HS : Hid (Lib.join (Q.take (k + 1)) sep.data.toList = Lib.join (Q.take k) sep.data.toList ++ sep.data.toList ++ Q[k]) := jZ Q _ k hkl hz
     rw [hq] at HS
     clear hq hz
     go_wp2_with fail
     refine HC.out.mono ?_
     rintro e W2 ⟨rfl, hb2⟩
     go_wp2
     go_roundw
     case rel =>
      refine ⟨k + 1, by omega, by go_num, ?_, hb.trans (hb2.mono (by omega))⟩
      ·rw [HS.out, HT.out, HU.out, ← dY sep, show (⟨#[40]⟩ : ByteArray) = bs [40] from rfl, show (⟨#[41]⟩ : ByteArray) = bs [41] from rfl]
       simp only [bS, gm, List.append_assoc]
     case measure => simp [intOf]; omega
    ·obtain rfl : k = 0 := by omega
     rw [Nat.zero_mul, Nat.add_zero] at k0 k1 k2 k3 k4
     have HS : Hid (Lib.join (Q.take (0 + 1)) sep.data.toList = Lib.join (Q.take 0) sep.data.toList ++ Q[0]) := jO Q _ hkl
     rw [hq] at HS
     clear hq hz
     go_wp2_with fail
     refine HC.out.mono ?_
     rintro e W2 ⟨rfl, hb2⟩
     go_wp2
     go_roundw
     case rel =>
      refine ⟨0 + 1, by omega, by go_num, ?_, hb.trans (hb2.mono (by omega))⟩
      ·rw [HS.out, HT.out, HU.out, show (⟨#[40]⟩ : ByteArray) = bs [40] from rfl, show (⟨#[41]⟩ : ByteArray) = bs [41] from rfl]
       simp only [bS, List.append_assoc]
     case measure => simp [intOf]; omega
   ·have q4 : (op1 == 4) = false := by rw [beq_eq_false_iff_ne]; exact h4
    cases b
    ·by_cases h3 : op1 = 3
     ·have q3 : (op1 == 3) = true := by rw [h3]; rfl
      rw [Hg _ _ _ (.inr ⟨rfl, HOP.out.symm.trans h3⟩)] at hq
      clear h3 h4
      by_cases hz : 0 < k
      ·have hzI : (0 : Int) < (k : Int) := by omega
       have HS : Hid (Lib.join (Q.take (k + 1)) sep.data.toList = Lib.join (Q.take k) sep.data.toList ++ sep.data.toList ++ Q[k]) := jZ Q _ k hkl hz
       rw [hq] at HS
       clear hq hz
       go_wp2_with fail
       refine HC.out.mono ?_
       rintro e W2 ⟨rfl, hb2⟩
       go_wp2
       go_roundw
       case rel =>
        refine ⟨k + 1, by omega, by go_num, ?_, hb.trans (hb2.mono (by omega))⟩
        ·rw [HS.out, HT.out, HU.out, ← dY sep, show (⟨#[40]⟩ : ByteArray) = bs [40] from rfl, show (⟨#[41]⟩ : ByteArray) = bs [41] from rfl]
         simp only [bS, gm, List.append_assoc]
       case measure => simp [intOf]; omega
      ·obtain rfl : k = 0 := by omega
       rw [Nat.zero_mul, Nat.add_zero] at k0 k1 k2 k3 k4
       have HS : Hid (Lib.join (Q.take (0 + 1)) sep.data.toList = Lib.join (Q.take 0) sep.data.toList ++ Q[0]) := jO Q _ hkl
       rw [hq] at HS
       clear hq hz
       go_wp2_with fail
       refine HC.out.mono ?_
       rintro e W2 ⟨rfl, hb2⟩
       go_wp2
       go_roundw
       case rel =>
        refine ⟨0 + 1, by omega, by go_num, ?_, hb.trans (hb2.mono (by omega))⟩
        ·rw [HS.out, HT.out, HU.out, show (⟨#[40]⟩ : ByteArray) = bs [40] from rfl, show (⟨#[41]⟩ : ByteArray) = bs [41] from rfl]
         simp only [bS, List.append_assoc]
       case measure => simp [intOf]; omega
     ·have q3 : (op1 == 3) = false := by rw [beq_eq_false_iff_ne]; exact h3
      rw [zT _ _ _ (by rw [← HOP.out]; exact h4) (.inr (by rw [← HOP.out]; exact h3))] at hq
      clear h3 h4
      by_cases hz : 0 < k
      ·have hzI : (0 : Int) < (k : Int) := by omega
       have HS : Hid (Lib.join (Q.take (k + 1)) sep.data.toList = Lib.join (Q.take k) sep.data.toList ++ sep.data.toList ++ Q[k]) := jZ Q _ k hkl hz
       rw [hq] at HS
       clear hq hz
       go_wp2_with fail
       refine HC.out.mono ?_
       rintro e W2 ⟨rfl, hb2⟩
       go_wp2
       go_roundw
       case rel =>
        refine ⟨k + 1, by omega, by go_num, ?_, hb.trans (hb2.mono (by omega))⟩
        ·rw [HS.out, HT.out, HU.out, ← dY sep]
         simp only [bS, gm, List.append_assoc]
       case measure => simp [intOf]; omega
      ·obtain rfl : k = 0 := by omega
       rw [Nat.zero_mul, Nat.add_zero] at k0 k1 k2 k3 k4
       have HS : Hid (Lib.join (Q.take (0 + 1)) sep.data.toList = Lib.join (Q.take 0) sep.data.toList ++ Q[0]) := jO Q _ hkl
       rw [hq] at HS
       clear hq hz
       go_wp2_with fail
       refine HC.out.mono ?_
       rintro e W2 ⟨rfl, hb2⟩
       go_wp2
       go_roundw
       case rel =>
        refine ⟨0 + 1, by omega, by go_num, ?_, hb.trans (hb2.mono (by omega))⟩
        ·rw [HS.out, HT.out, HU.out]
         simp only [bS]
       case measure => simp [intOf]; omega
    ·rw [zT _ _ _ (by rw [← HOP.out]; exact h4) (.inl rfl)] at hq
     clear h4
     by_cases hz : 0 < k
     ·have hzI : (0 : Int) < (k : Int) := by omega
      have HS : Hid (Lib.join (Q.take (k + 1)) sep.data.toList = Lib.join (Q.take k) sep.data.toList ++ sep.data.toList ++ Q[k]) := jZ Q _ k hkl hz
      rw [hq] at HS
      clear hq hz
      go_wp2_with fail
      refine HC.out.mono ?_
      rintro e W2 ⟨rfl, hb2⟩
      go_wp2
      go_roundw
      case rel =>
       refine ⟨k + 1, by omega, by go_num, ?_, hb.trans (hb2.mono (by omega))⟩
       ·rw [HS.out, HT.out, HU.out, ← dY sep]
        simp only [bS, gm, List.append_assoc]
      case measure => simp [intOf]; omega
     ·obtain rfl : k = 0 := by omega
      rw [Nat.zero_mul, Nat.add_zero] at k0 k1 k2 k3 k4
      have HS : Hid (Lib.join (Q.take (0 + 1)) sep.data.toList = Lib.join (Q.take 0) sep.data.toList ++ Q[0]) := jO Q _ hkl
      rw [hq] at HS
      clear hq hz
      go_wp2_with fail
      refine HC.out.mono ?_
      rintro e W2 ⟨rfl, hb2⟩
      go_wp2
      go_roundw
      case rel =>
       refine ⟨0 + 1, by omega, by go_num, ?_, hb.trans (hb2.mono (by omega))⟩
       ·rw [HS.out, HT.out, HU.out]
        simp only [bS]
      case measure => simp [intOf]; omega
  ·obtain rfl : k = l.length := by omega
   have hkI : ¬ (l.length : Int) < (l.length : Int) := by omega
   have HE := Lib.hid (show T = bs (Lib.join Q sep.data.toList) by rw [HT.out, ← HQL.out, List.take_length])
   go_wp2
   go_ret
   exact ⟨by rw [← HE.out]; rfl, hb⟩


theorem Fv (ws : List Int) (ks : List Tm) (k : Nat) (hk : k < ks.length) (hww : ws.length = 0 ∨ ws.length = ks.length) (h : k < (weighed ws (ks.map aS)).length) :
  (weighed ws (ks.map aS))[k] = if h0 : k < ws.length then aS ks[k] ++ ([42] ++ Lib.itoa ws[k]) else aS ks[k] := by
 have key : (weighed ws (ks.map aS))[k]? = some (if h0 : k < ws.length then aS ks[k] ++ ([42] ++ Lib.itoa ws[k]) else aS ks[k]) := by
  unfold weighed
  by_cases hz : ws.length = 0
  ·rw [if_pos hz, dif_neg (by omega)]; simp [hk]
  ·have hw : k < ws.length := by rcases hww with e | e <;> omega
   rw [if_neg hz, dif_pos hw, List.getElem?_zipWith]
   simp [hk, hw]
 rw [List.getElem?_eq_getElem h] at key
 exact Option.some.inj key
theorem Fw (ws : List Int) (ks : List Tm) (hww : ws.length = 0 ∨ ws.length = ks.length) : (weighed ws (ks.map aS)).length = ks.length := by
 unfold weighed
 split
 ·simp
 ·simp; omega

set_option maxRecDepth 100000 in
set_option maxHeartbeats 8000000 in
theorem zm (t : Tm) (ih : ∀ k ∈ t.kids, TTOk k) : TTOk t := by
 intro v w S hv hS hok hsz hpw
 obtain ⟨hhead, hws, hks⟩ := mh hok
 have hss := eP t
 have htl := eY hok
 cases hv with
 |mk op nm need ws kids wA kA cw kc vs hw hwc hk hkc hl h =>
 have hss : av (.mk op nm need ws kids) = 1 + nm.size + ws.length + aZ kids := hss
 have hnm : nm.size ≤ 1000000000 := by omega
 have hkz : aZ kids ≤ 1000000000 := by omega
 have hkl := jJ kids
 have hwl : ws.length ≤ 1000000000 := by omega
 have IH := Lib.hid (show ∀ k ∈ kids, TTOk k from ih)
 have KT := Lib.hid (show ∀ k ∈ kids, jf k = true from hks)
 have HWok := Lib.hid (show ∀ k ∈ ws, small k = true from hws)
 have HH := Lib.hid hhead
 have HWs := Lib.hid hw
 have HL := Lib.hid (show aU (eH w S) w S 5 kA kids from ⟨vs, hl, hk, h⟩)
 have HP := Lib.hid hpw
 have HTL := Lib.hid (show (aS (.mk op nm need ws kids)).length ≤ 48000000000 by omega)
 have hbA : ∀ o, Below w.heap.size w (w.alloc o) := fun o => (Below.refl _ _).alloc (Nat.le_refl _) o
 clear ih hks hws hhead hw hk hl h hpw htl hss hok hsz
 have hbox : ∀ o, aU (eH (w.alloc o) S) (w.alloc o) S 5 kA kids := fun o => HL.out.keep (aA (hbA o) hS) (fun _ _ h => h.keep (aA (hbA o) hS))
 have hj := fun (b : Bool) (sep : ByteArray) (hsep : sep.size ≤ 3) o => JM kids b sep S kA kc (w.alloc o) (hbox o) (fun g hg => by have := hS g hg; simp; omega) KT.out IH.out hkz hsep (HP.out.below (hbA o))
 have HJ := Lib.hid hj
 clear hbox hj
 by_cases h3 : op = 3
 ·subst h3
  have E := Lib.hid (text3 nm need ws kids)
  go_enter Tryz.func77, Tryz.ntmps77
  go_wp2_with fail
  refine (HJ.out false ⟨#[32, 38, 32]⟩ (by decide) _).mono ?_
  rintro e w' ⟨rfl, hb2⟩
  go_wp2
  go_ret
  exact ⟨congrArg (fun b => Ending.returned (.string (bs b))) E.out.symm, (hbA _).trans (hb2.mono (by simp))⟩
 have q3 : (op == 3) = false := by rw [beq_eq_false_iff_ne]; exact h3
 by_cases h4 : op = 4
 ·subst h4
  have E := Lib.hid (text4 nm need ws kids)
  go_enter Tryz.func77, Tryz.ntmps77
  go_wp2_with fail
  refine (HJ.out true ⟨#[32, 124, 32]⟩ (by decide) _).mono ?_
  rintro e w' ⟨rfl, hb2⟩
  go_wp2
  go_ret
  exact ⟨congrArg (fun b => Ending.returned (.string (bs b))) E.out.symm, (hbA _).trans (hb2.mono (by simp))⟩
 have q4 : (op == 4) = false := by rw [beq_eq_false_iff_ne]; exact h4
 clear HJ
 by_cases h5 : op = 5
 ·subst h5
  obtain ⟨k, rfl⟩ : ∃ k, kids = [k] := by
   have h5 := HH.out
   have e : bX (.mk 5 nm need ws kids) = (decide (nm.size = 0) && decide (need = 0) && decide (ws.length = 0) && decide (kids.length = 1)) := rfl
   rw [e] at h5
   simp only [Bool.and_eq_true, decide_eq_true_eq] at h5
   exact List.length_eq_one_iff.1 h5.2
  obtain ⟨g, o, op, nm2, nd, wA2, wn, wc2, kA2, kn, kc2, rfl, hSg, htm, k0, k1, k2, k3, k4, -⟩ := fI (l := [k]) (i := 0) HL.out (by simp)
  rw [Nat.zero_mul, Nat.add_zero] at k0 k1 k2 k3 k4
  have htm : eH w S k _ := htm
  have hgs : g < w.heap.size := hS g hSg
  have hmem : k ∈ [k] := by simp
  have htl := eY (KT.out k hmem)
  have hts := dh hmem
  have HC := Lib.hid (fun o => IH.out k hmem _ (w.alloc o) S (htm.keep (aQ (hbA o))) (fun g hg => by have := hS g hg; simp; omega) (KT.out k hmem) (by omega) (HP.out.below (hbA o)))
  have E := Lib.hid (text5 nm need ws k)
  obtain ⟨T, hTT⟩ : ∃ T : ByteArray, T = bs (aS k) := ⟨_, rfl⟩
  have hTs : T.size ≤ 48000000000 := by rw [hTT, bZ]; omega
  have HTT := Lib.hid hTT
  clear htm hTT
  go_enter Tryz.func77, Tryz.ntmps77
  go_wp2_with fail
  refine (HC.out _).mono ?_
  rintro e w' ⟨rfl, hb2⟩
  rw [← HTT.out]
  go_wp2
  go_ret
  refine ⟨?_, (hbA _).trans (hb2.mono (by simp))⟩
  rw [E.out]
  exact congrArg (fun b => Ending.returned (.string b)) (wm _ _ _ _ _ _ rfl HTT.out rfl)
 have q5 : (op == 5) = false := by rw [beq_eq_false_iff_ne]; exact h5
 by_cases h6 : op = 6
 ·subst h6
  have E := Lib.hid (show (⟨#[109, 97, 106, 111, 114, 105, 116, 121, 40]⟩ : ByteArray) ++ nm ++ (⟨#[41]⟩ : ByteArray) = bs (aS (.mk 6 nm need ws kids)) by
   rw [text6]; exact wm _ _ _ _ _ _ rfl (dY nm).symm rfl)
  go_enter Tryz.func77, Tryz.ntmps77
  go_wp2
  go_ret
  exact ⟨congrArg (fun b => Ending.returned (.string b)) E.out, hbA _⟩
 have q6 : (op == 6) = false := by rw [beq_eq_false_iff_ne]; exact h6
 by_cases h7 : op = 7
 ·subst h7
  have E := Lib.hid (show (⟨#[97, 108, 108, 40]⟩ : ByteArray) ++ nm ++ (⟨#[41]⟩ : ByteArray) = bs (aS (.mk 7 nm need ws kids)) by
   rw [text7]; exact wm _ _ _ _ _ _ rfl (dY nm).symm rfl)
  go_enter Tryz.func77, Tryz.ntmps77
  go_wp2
  go_ret
  exact ⟨congrArg (fun b => Ending.returned (.string b)) E.out, hbA _⟩
 have q7 : (op == 7) = false := by rw [beq_eq_false_iff_ne]; exact h7
 by_cases h8 : op = 8
 ·subst h8
  have E := Lib.hid (show (⟨#[97, 110, 121, 40]⟩ : ByteArray) ++ nm ++ (⟨#[41]⟩ : ByteArray) = bs (aS (.mk 8 nm need ws kids)) by
   rw [text8]; exact wm _ _ _ _ _ _ rfl (dY nm).symm rfl)
  go_enter Tryz.func77, Tryz.ntmps77
  go_wp2
  go_ret
  exact ⟨congrArg (fun b => Ending.returned (.string b)) E.out, hbA _⟩
 have q8 : (op == 8) = false := by rw [beq_eq_false_iff_ne]; exact h8
 by_cases h1 : op = 1
 ·subst h1
  have E := Lib.hid (show nm = bs (aS (.mk 1 nm need ws kids)) by rw [show aS (.mk 1 nm need ws kids) = nm.data.toList by rw [iW]; rfl]; exact (dY nm).symm)
  go_enter Tryz.func77, Tryz.ntmps77
  go_wp2
  go_ret
  exact ⟨congrArg (fun b => Ending.returned (.string b)) E.out, hbA _⟩
 have q1 : (op == 1) = false := by rw [beq_eq_false_iff_ne]; exact h1
 have h2 : op = 2 := by
  have hx := HH.out
  apply Decidable.byContradiction
  intro h2
  unfold bX at hx
  rw [show (Tm.mk op nm need ws kids).op = op from rfl, if_neg h1, if_neg (by omega), if_neg h2, if_neg (by omega), if_neg h5] at hx
  exact absurd hx (by simp)
 subst h2
 obtain ⟨hnd, hk0, hww⟩ : small need = true ∧ 0 < kids.length ∧ (ws.length = 0 ∨ ws.length = kids.length) := by
  have h5 := HH.out
  have e : bX (.mk 2 nm need ws kids) = (decide (nm.size = 0) && small need && decide (0 < kids.length) && (decide (ws.length = 0) || decide (ws.length = kids.length))) := rfl
  rw [e] at h5
  simp only [Bool.and_eq_true, Bool.or_eq_true, decide_eq_true_eq] at h5
  exact ⟨h5.1.1.2, h5.1.2, h5.2⟩
 have htx := text2 nm need ws kids
 have htl := HTL.out
 rw [htx] at htl
 simp only [List.length_append, List.length_cons, List.length_nil] at htl
 obtain ⟨Q, hQ⟩ : ∃ Q, Q = weighed ws (kids.map aS) := ⟨_, rfl⟩
 rw [← hQ] at htx htl
 have HQL := Lib.hid (show Q.length = kids.length by rw [hQ]; exact Fw ws kids hww)
 have HQ := Lib.hid (show ∀ k (h : k < kids.length) (h2 : k < Q.length), Q[k] = if h0 : k < ws.length then aS kids[k] ++ ([42] ++ Lib.itoa ws[k]) else aS kids[k] from fun k h h2 => by subst hQ; exact Fv ws kids k h hww h2)
 have HLE := Lib.hid (show ∀ k, (Lib.itoa need ++ [40] ++ Lib.join (Q.take k) [44, 32]).length ≤ 48000000000 from fun k => by have := nC Q [44, 32] k; simp only [List.length_append, List.length_cons, List.length_nil]; omega)
 have E := Lib.hid htx
 have HND := Lib.hid hnd
 have HWW := Lib.hid hww
 clear hnd hww htx htl hQ h1 h3 h4 h5 h6 h7 h8 q1 q3 q4 q5 q6 q7 q8
 obtain ⟨W0, hW0⟩ : ∃ W0 : World, W0 = w.alloc (.cells #[.int .i64 2, .string nm, .int .i64 need, .slice wA ws.length cw, .slice kA kids.length kc] 39) := ⟨_, rfl⟩
 have hb0 : Below w.heap.size w W0 := by rw [hW0]; exact hbA _
 have hs0 : w.heap.size < W0.heap.size := by rw [hW0]; simp
 have hr0 : W0.heap[w.heap.size]? = some (.cells #[.int .i64 2, .string nm, .int .i64 need, .slice wA ws.length cw, .slice kA kids.length kc] 39 (0, 0)) := by rw [hW0]; exact heap_alloc_new w _
 have HR0 := Lib.hid hr0
 have HW0 := Lib.hid hW0
 have HI := Lib.hid (lZ need HND.out W0 (HP.out.below hb0))
 obtain ⟨I, hI⟩ : ∃ I : ByteArray, I = bs (Lib.itoa need) := ⟨_, rfl⟩
 have hIs : I.size ≤ 21 := by rw [hI, bZ]; exact gu HND.out
 rw [← hI] at HI
 have HIE := Lib.hid hI
 clear hW0 hr0 hI hbA
 go_enter Tryz.func77, Tryz.ntmps77
 go_wp2_with fail
 rw [← HW0.out]
 refine HI.out.mono ?_
 rintro e W1 ⟨rfl, hb1⟩
 have hs1 : w.heap.size < W1.heap.size := Nat.lt_of_lt_of_le hs0 hb1.size
 have oo : Below (w.heap.size + 1) W0 W1 := hb1.mono (by omega)
 go_wp2
 go_loopw [3, 4] (fun o x wr => ∃ k : Nat, k ≤ kids.length ∧ x = .int .i64 k ∧ o = .string (bs (Lib.itoa need ++ [40] ++ Lib.join (Q.take k) [44, 32])) ∧ Below (w.heap.size + 1) W0 wr) (fun _ x _ => kids.length - (intOf x).toNat)
 case atStart => exact ⟨0, Nat.zero_le _, rfl, by rw [HIE.out, List.take_zero, Lib.join_nil, List.append_nil]; exact congrArg Value.string (cat2 _ _ _ _ rfl rfl), oo⟩
 case round =>
  obtain ⟨k, hk, rfl, rfl, hb⟩ := hrel
  have hsr := hb.size
  have hbw : Below w.heap.size w wr := hb0.trans (hb.mono (by omega))
  have hrr := (hb.block _ (by omega)).trans HR0.out
  obtain ⟨c0, c1, c2, c3, c4, -⟩ := jm hrr
  clear hrr
  obtain ⟨X, hX⟩ : ∃ X, X = bs (Lib.itoa need ++ [40] ++ Lib.join (Q.take k) [44, 32]) := ⟨_, rfl⟩
  have hXs : X.size ≤ 48000000000 := by rw [hX, bZ]; exact HLE.out k
  rw [← hX]
  have HX := Lib.hid hX
  clear hX
  by_cases hlt : k < kids.length
  ·obtain ⟨g, o, op1, nm1, nd1, wA1, wn1, wc1, kA1, kn1, kc1, rfl, hSg, htm, k0, k1, k2, k3, k4, -⟩ := fI (HL.out.keep (P' := eH wr S) (aA hbw hS) (fun _ _ h => h.keep (aA hbw hS))) hlt
   have hgs : g < wr.heap.size := World.block_lt_of_cell? wr _ k0
   have hkI : (k : Int) < (kids.length : Int) := by omega
   have hk0 : (0 : Int) ≤ (k : Int) := by omega
   have hmem : kids[k] ∈ kids := List.getElem_mem hlt
   have hql : k < Q.length := by rw [HQL.out]; exact hlt
   have hts := dh hmem
   have htl := eY (KT.out _ hmem)
   have hC := IH.out _ hmem _ wr S htm (fun g hg => by have := hS g hg; omega) (KT.out _ hmem) (by omega) (HP.out.below hbw)
   have hq := HQ.out k hlt hql
   have hus : (bs (aS kids[k])).size ≤ 48000000000 := by rw [bZ]; omega
   obtain ⟨t, ht⟩ : ∃ t, t = kids[k] := ⟨_, rfl⟩
   rw [← ht] at hC hq hus
   obtain ⟨U, hU⟩ : ∃ U, U = bs (aS t) := ⟨_, rfl⟩
   rw [← hU] at hC hus
   have HU := Lib.hid hU
   have HC := Lib.hid hC
   clear htm htl hts hC ht hU hmem
   by_cases hwz : ws.length = 0
   ·have hwI : ¬ (0 : Int) < (ws.length : Int) := by omega
    rw [dif_neg (by omega)] at hq
    clear hwz
    by_cases hz : 0 < k
    ·have hzI : (0 : Int) < (k : Int) := by omega
     have HS : Hid (Lib.join (Q.take (k + 1)) [44, 32] = Lib.join (Q.take k) [44, 32] ++ [44, 32] ++ Q[k]) := jZ Q _ k hql hz
     rw [hq] at HS
     clear hq hz
     go_wp2_with fail
     refine HC.out.mono ?_
     rintro e W2 ⟨rfl, hb2⟩
     have hs2 := hb2.size
     have hbw2 : Below w.heap.size w W2 := hbw.trans (hb2.mono hbw.size)
     have IA : Below (w.heap.size + 1) W0 W2 := hb.trans (hb2.mono (by omega))
     obtain ⟨d0, d1, d2, d3, d4, -⟩ := jm ((IA.block _ (by omega)).trans HR0.out)
     clear c0 c1 c2 c3 c4 k0 k1 k2 k3 k4
     go_wp2
     go_roundw
     case rel =>
      refine ⟨k + 1, by omega, by go_num, ?_, IA⟩
      ·rw [HS.out, HX.out, HU.out, show (⟨#[44, 32]⟩ : ByteArray) = bs [44, 32] from rfl]
       simp only [bS, List.append_assoc]
     case measure => simp [intOf]; omega
    ·obtain rfl : k = 0 := by omega
     rw [Nat.zero_mul, Nat.add_zero] at k0 k1 k2 k3 k4
     have HS : Hid (Lib.join (Q.take (0 + 1)) [44, 32] = Lib.join (Q.take 0) [44, 32] ++ Q[0]) := jO Q _ hql
     rw [hq] at HS
     clear hq hz
     go_wp2_with fail
     refine HC.out.mono ?_
     rintro e W2 ⟨rfl, hb2⟩
     have hs2 := hb2.size
     have hbw2 : Below w.heap.size w W2 := hbw.trans (hb2.mono hbw.size)
     have IA : Below (w.heap.size + 1) W0 W2 := hb.trans (hb2.mono (by omega))
     obtain ⟨d0, d1, d2, d3, d4, -⟩ := jm ((IA.block _ (by omega)).trans HR0.out)
     clear c0 c1 c2 c3 c4 k0 k1 k2 k3 k4
     go_wp2
     go_roundw
     case rel =>
      refine ⟨0 + 1, by omega, by go_num, ?_, IA⟩
      ·rw [HS.out, HX.out, HU.out]
       simp only [bS, List.append_assoc]
     case measure => simp [intOf]; omega
   ·have hwI : (0 : Int) < (ws.length : Int) := by omega
    have hwk : k < ws.length := by rcases HWW.out with h | h <;> omega
    have hwkI : (k : Int) < (ws.length : Int) := by omega
    rw [dif_pos hwk] at hq
    clear hwz
    by_cases hz : 0 < k
    ·have hzI : (0 : Int) < (k : Int) := by omega
     have HS : Hid (Lib.join (Q.take (k + 1)) [44, 32] = Lib.join (Q.take k) [44, 32] ++ [44, 32] ++ Q[k]) := jZ Q _ k hql hz
     rw [hq] at HS
     clear hq hz
     go_wp2_with fail
     refine HC.out.mono ?_
     rintro e W2 ⟨rfl, hb2⟩
     have hs2 := hb2.size
     have hbw2 : Below w.heap.size w W2 := hbw.trans (hb2.mono hbw.size)
     have IA : Below (w.heap.size + 1) W0 W2 := hb.trans (hb2.mono (by omega))
     obtain ⟨d0, d1, d2, d3, d4, -⟩ := jm ((IA.block _ (by omega)).trans HR0.out)
     clear c0 c1 c2 c3 c4 k0 k1 k2 k3 k4
     obtain ⟨g2, o2, rfl, hS2, kw⟩ := one_cell (HWs.out.keep (aA hbw2 hS)) hwk
     have hg2 : g2 < W2.heap.size := World.block_lt_of_cell? W2 _ kw
     obtain ⟨m, hm⟩ : ∃ m, m = ws[k] := ⟨_, rfl⟩
     have hsm : small m = true := by rw [hm]; exact HWok.out _ (List.getElem_mem hwk)
     rw [← hm] at kw HS
     have HIm := Lib.hid (lZ m hsm W2 (HP.out.below hbw2))
     obtain ⟨J, hJ⟩ : ∃ J : ByteArray, J = bs (Lib.itoa m) := ⟨_, rfl⟩
     have hJs : J.size ≤ 21 := by rw [hJ, bZ]; exact gu hsm
     rw [← hJ] at HIm
     have HJE := Lib.hid hJ
     clear hm hsm hJ
     go_wp2_with fail
     refine HIm.out.mono ?_
     rintro e W3 ⟨rfl, hb3⟩
     go_wp2
     go_roundw
     case rel =>
      refine ⟨k + 1, by omega, by go_num, ?_, IA.trans (hb3.mono (by omega))⟩
      ·rw [HS.out, HX.out, HU.out, HJE.out, show (⟨#[42]⟩ : ByteArray) = bs [42] from rfl, show (⟨#[44, 32]⟩ : ByteArray) = bs [44, 32] from rfl]
       simp only [bS, List.append_assoc]
     case measure => simp [intOf]; omega
    ·obtain rfl : k = 0 := by omega
     rw [Nat.zero_mul, Nat.add_zero] at k0 k1 k2 k3 k4
     have HS : Hid (Lib.join (Q.take (0 + 1)) [44, 32] = Lib.join (Q.take 0) [44, 32] ++ Q[0]) := jO Q _ hql
     rw [hq] at HS
     clear hq hz
     go_wp2_with fail
     refine HC.out.mono ?_
     rintro e W2 ⟨rfl, hb2⟩
     have hs2 := hb2.size
     have hbw2 : Below w.heap.size w W2 := hbw.trans (hb2.mono hbw.size)
     have IA : Below (w.heap.size + 1) W0 W2 := hb.trans (hb2.mono (by omega))
     obtain ⟨d0, d1, d2, d3, d4, -⟩ := jm ((IA.block _ (by omega)).trans HR0.out)
     clear c0 c1 c2 c3 c4 k0 k1 k2 k3 k4
     obtain ⟨g2, o2, rfl, hS2, kw⟩ := one_cell (HWs.out.keep (aA hbw2 hS)) hwk
     have hg2 : g2 < W2.heap.size := World.block_lt_of_cell? W2 _ kw
     obtain ⟨m, hm⟩ : ∃ m, m = ws[0] := ⟨_, rfl⟩
     have hsm : small m = true := by rw [hm]; exact HWok.out _ (List.getElem_mem hwk)
     rw [← hm] at kw HS
     rw [Nat.add_zero] at kw
     have HIm := Lib.hid (lZ m hsm W2 (HP.out.below hbw2))
     obtain ⟨J, hJ⟩ : ∃ J : ByteArray, J = bs (Lib.itoa m) := ⟨_, rfl⟩
     have hJs : J.size ≤ 21 := by rw [hJ, bZ]; exact gu hsm
     rw [← hJ] at HIm
     have HJE := Lib.hid hJ
     clear hm hsm hJ
     go_wp2_with fail
     refine HIm.out.mono ?_
     rintro e W3 ⟨rfl, hb3⟩
     go_wp2
     go_roundw
     case rel =>
      refine ⟨0 + 1, by omega, by go_num, ?_, IA.trans (hb3.mono (by omega))⟩
      ·rw [HS.out, HX.out, HU.out, HJE.out, show (⟨#[42]⟩ : ByteArray) = bs [42] from rfl]
       simp only [bS, List.append_assoc]
     case measure => simp [intOf]; omega
  ·obtain rfl : k = kids.length := by omega
   have hkI : ¬ (kids.length : Int) < (kids.length : Int) := by omega
   have HE := Lib.hid (show X ++ (⟨#[41]⟩ : ByteArray) = bs (aS (.mk 2 nm need ws kids)) by rw [HX.out, E.out, ← HQL.out, List.take_length]; exact cat2 _ _ _ _ rfl rfl)
   go_wp2
   go_ret
   exact ⟨by rw [← HE.out]; rfl, hbw⟩
theorem nk (t : Tm) : TTOk t := by
 have : ∀ (n : Nat) (t : Tm), av t ≤ n → TTOk t := by
  intro n
  induction n with
  |zero =>
    intro t ht; have : 0 < av t := by (cases t; rw [av]; omega)
    omega
  |succ n ih => intro t ht; exact zm t (fun k hk => ih k (by have := fO hk; omega))
 exact this _ t (Nat.le_refl _)
end Go.Proofs.YtbmglebipepdmaaGreatDoor
namespace Go.Proofs.YtbmglebipepdmaaGreatDoor
open Go.RowKit
set_option maxRecDepth 100000 in
set_option maxHeartbeats 4000000 in
theorem Dx (s : ByteArray) (w : World) : Calls Tryz.prog 41 #[.string s] w fun e w' => e = .returned (.tuple #[.string (bs (gX s.data.toList).1), .int .i64 (gX s.data.toList).2]) ∧ Below w.heap.size w w' := by
 have HT := Lib.hid (zP s w)
 have hsz : s.data.toList.length = s.size := by simp
 have hso : gX s.data.toList = if (decide (s.size ≤ 65536) && decide ((lex s.data.toList 1 []).2.2 = 0) && decide ((lex s.data.toList 1 []).1.length ≤ 3000)) = true then (s.data.toList, 0) else ([], 3) := by
  unfold gX mF; rw [hsz]
 generalize hR : gX s.data.toList = R at *
 clear hR
 go_enter Tryz.func41, Tryz.ntmps41
 go_wp2_with fail
 refine HT.out.mono ?_
 rintro e W ⟨hb, hk⟩
 generalize lex s.data.toList 1 [] = T at hk hso
 obtain ⟨L, li, er⟩ := T
 simp only at hk hso
 have no : (decide (s.size ≤ 65536) && decide (er = 0) && decide (L.length ≤ 3000)) = false → R = ([], 3) := fun h => by rw [hso, h]; rfl
 have yes : (decide (s.size ≤ 65536) && decide (er = 0) && decide (L.length ≤ 3000)) = true → R = (s.data.toList, 0) := fun h => by rw [hso, h]; rfl
 clear hso hsz
 by_cases h1 : 65536 < s.size
 ·rw [if_pos h1] at hk
  subst hk
  have E := Lib.hid (no (by rw [decide_eq_false (show ¬ s.size ≤ 65536 by omega)]; rfl))
  clear no yes h1
  go_wp2
  go_ret2
  exact ⟨by rw [E.out]; rfl, hb⟩
 ·rw [if_neg h1] at hk
  by_cases h2 : er ≠ 0
  ·rw [if_pos h2] at hk
   subst hk
   have hz : ((er : Int) != 0) = true := gL h2
   have E := Lib.hid (no (by rw [decide_eq_false h2]; simp))
   clear no yes h1 h2
   go_wp2
   go_ret2
   exact ⟨by rw [E.out]; rfl, hb⟩
  ·rw [if_neg h2] at hk
   obtain ⟨A, c, rfl, hc, C8, hlen⟩ := hk
   have h0 : er = 0 := by simpa using h2
   clear C8
   by_cases h3 : 3000 < L.length
   ·have h3i : (3000 : Int) < (L.length : Int) := by omega
    have E := Lib.hid (no (by rw [decide_eq_false (show ¬ L.length ≤ 3000 by omega)]; simp))
    clear no yes h1 h2 h0 h3
    go_wp2
    go_ret2
    exact ⟨by rw [E.out]; rfl, hb⟩
   ·have h3i : ¬ (3000 : Int) < (L.length : Int) := by omega
    have E := Lib.hid (yes (by rw [decide_eq_true (show s.size ≤ 65536 by omega), decide_eq_true h0, decide_eq_true (show L.length ≤ 3000 by omega)]; rfl))
    clear no yes h1 h2 h0 h3
    go_wp2
    go_ret2
    refine ⟨?_, hb⟩
    rw [E.out]
    show _ = Ending.returned (.tuple #[.string (bs s.data.toList), .int .i64 0])
    rw [dY]; rfl

end Go.Proofs.YtbmglebipepdmaaGreatDoor
namespace Go.Proofs.YtbmglebipepdmaaGreatDoor
open Go.RowKit
def pI (w : World) (S : Nat → Prop) (b : Nat) (l : List Dc) : Prop := ∀ t d, l[t]? = some d → ∃ v, fC w S d v ∧ w.rangeAt b (t * 22) (cellsOf v)
theorem dc_one {w : World} {S : Nat → Prop} {d : Dc} {v : Value} (h : fC w S d v) : ∀ u ∈ cellsOf v, u.oneCell' = true := by
 obtain ⟨cs, nA, nc, hcl, hone, rfl, -⟩ := jI h
 intro u hu
 have : u ∈ cs.toArray := by simpa [cellsOf, Value.cells] using hu
 exact Array.all_eq_true_iff_forall_mem.1 hone u this
theorem wp_decls (w : World) {ops : Array Oper} {rest : List Oper} {o : Oper} {a : Act} {Q : Exit → Act → World → Prop} (hgd : o.guard = none) (s x : Operand)
  (ho : o.op = .call { callee := .builtin .append, args := #[s, x], argTypes := #[22, 22] })
  (base : Nat) (v : Value) (n : Nat) (xs : List Value) (hown : w.ownsRow base 41 22 v n xs) (hs : a.eval s = v)
  (g off m c : Nat) (news : List Value) (hx : a.eval x = .slice (some ⟨g, off, none⟩) m c) (hl : news.length = m * 22) (hcells : ∀ j u, news[j]? = some u → w.cell? ⟨g, off + j, none⟩ = some u) (h1 : ∀ u ∈ news, u.oneCell' = true)
  (hlim : n + m ≤ 100000000) (hbase : base ≤ w.heap.size)
  (h : ∀ v' w', w'.ownsRow base 41 22 v' (n + m) (xs ++ news) → w.grownBy w' v.ownBlock → (v'.ownBlock = v.ownBlock ∨ v'.ownBlock = some w.heap.size) → wpList Tryz.prog ops Q rest (a.put o.dst v') w') :
  wpList Tryz.prog ops Q (o :: rest) a w := by
 obtain ⟨i0, hi, hz0, hz1, hz2⟩ := info_parts D9
 refine wpList_plain hgd fun _ hK => ?_
 obtain ⟨v', w', h1', h2, h3, _, h5⟩ := run_append_own_at (P := Tryz.prog) w base 22 o.type 41 i0 _ 22 352 Tryz.underlying22 hi hz0 hz1 hz2 rfl (by decide) v n xs hown ⟨g, off, none⟩ m c news hl (fun j u hu => by rw [Go.WideShapes.add_plain]; exact hcells j u hu) h1 (by unfold maxLen; omega) (by omega) hbase
 unfold Oper.wp execOp
 simp only [ho, resolve, invoke, builtin, Sem.run_bind, Sem.run_pure, Result.andThen_ok, List.map_toArray, List.map_cons, List.map_nil, hs, hx, h1']
 exact hK _ _ (h v' w' h2 h3 h5)
theorem flat22 {vs : List Value} (h : ∀ u ∈ vs, (cellsOf u).length = 22) : (vs.flatMap cellsOf).length = vs.length * 22 := by
 induction vs with
 |nil => simp
 |cons x r ih => rw [List.flatMap_cons, List.length_append, ih (fun u hu => h u (List.mem_cons_of_mem _ hu)), h x (List.mem_cons_self ..), List.length_cons, Nat.succ_mul]; omega
def Fj (S : Nat → Prop) (l : List Dc) (w : World) (e : Ending) (w' : World) : Prop := ∃ b c, e = .returned (.slice (some ⟨b, 0, none⟩) l.length c) ∧ l.length ≤ c ∧ w.heap.size ≤ b ∧ b < w'.heap.size ∧ pI w' S b l ∧ w'.there b 0 (l.length * 22) ∧ Below w.heap.size w w'
set_option maxRecDepth 100000 in
set_option maxHeartbeats 2000000 in
theorem EY (l : List Dc) (A : Option Addr) (c : Nat) (w : World) (S : Nat → Prop) (hl : aU (fC w S) w S 22 A l) (hS : ∀ g, S g → g < w.heap.size) (hl0 : 0 < l.length) (hll : l.length ≤ 10000000) :
  Calls Tryz.prog 15 #[.slice A l.length c] w (Fj S l w) := by
 obtain ⟨vs, h1, h2, h3⟩ := hl
 obtain ⟨g, o, rfl, hSg, hc⟩ := h2.cells hl0
 have hd : ∀ i (h : i < vs.length), ∃ d, l[i]? = some d ∧ fC w S d vs[i] := fun i h => ⟨l[i]'(by omega), List.getElem?_eq_getElem _, h3 i _ _ (List.getElem?_eq_getElem (by omega)) (List.getElem?_eq_getElem h)⟩
 have h22 : ∀ u ∈ vs, (cellsOf u).length = 22 := fun u hu => by
  obtain ⟨i, hi, rfl⟩ := List.getElem_of_mem hu
  obtain ⟨d, -, hd⟩ := hd i hi
  exact jv hd
 have hone : ∀ u ∈ vs.flatMap cellsOf, u.oneCell' = true := fun u hu => by
  obtain ⟨v, hv, hu⟩ := List.mem_flatMap.1 hu
  obtain ⟨i, hi, rfl⟩ := List.getElem_of_mem hv
  obtain ⟨d, -, hd⟩ := hd i hi
  exact dc_one hd u hu
 obtain ⟨flat, zC⟩ : ∃ flat, flat = vs.flatMap cellsOf := ⟨_, rfl⟩
 rw [← zC] at hc hone
 have hlen : flat.length = l.length * 22 := by rw [zC, flat22 h22, h1]
 obtain ⟨X, hX⟩ : ∃ X : World, X = w.alloc (.cells #[] 41 (0, 0)) := ⟨_, rfl⟩
 have hbX : Below w.heap.size w X := by rw [hX]; exact (Below.refl _ _).alloc (Nat.le_refl _) _
 have hzX : w.heap.size ≤ X.heap.size := hbX.size
 have hoX : X.ownsRow w.heap.size 41 22 (.slice (some ⟨w.heap.size, 0, none⟩) 0 0) 0 [] := by rw [hX]; exact World.ownsRow_lit (base := w.heap.size) (e := 41) (size := 22) w #[] 0 (Nat.le_refl _) (by decide) rfl
 have hcX : ∀ j u, flat[j]? = some u → X.cell? ⟨g, o + j, none⟩ = some u := fun j u hu => (hbX.cell (p := ⟨g, o + j, none⟩) (hS g hSg)).trans (hc j u hu)
 have HX := Lib.hid hX
 have HC := Lib.hid hcX
 have CY := Lib.hid hone
 have HLEN := Lib.hid hlen
 have KU := Lib.hid (fun (W : World) (v : Value) (hown : W.ownsRow w.heap.size 41 22 v (0 + l.length) ([] ++ flat)) (hb : Below w.heap.size w W) => show Fj S l w (.returned v) W by
  rw [Nat.zero_add, List.nil_append] at hown
  obtain ⟨k1, k2⟩ := hown
  rcases k2 with ⟨rfl, k2⟩ | ⟨b, cap, cur, rfl, hbb, hh, hcap, -, hcur, htake⟩
  ·omega
  ·refine ⟨b, cap, rfl, hcap, hbb, lt_of_block hh, fun t d ht => ?_, fun j hj => ⟨?_, frozen_of_row _ _ _ _ _ hh⟩, hb⟩
   ·have htl : t < vs.length := by have := (List.getElem?_eq_some_iff.1 ht).1; omega
    refine ⟨vs[t], (h3 t d _ ht (List.getElem?_eq_getElem htl)).keep (aA hb hS), fun j u hu => ?_⟩
    have hj : j < 22 := by rw [← h22 _ (List.getElem_mem htl)]; exact (List.getElem?_eq_some_iff.1 hu).1
    have e := flatN (m := 22) (fun i u hu => h22 u (List.mem_of_getElem? hu)) t j _ (List.getElem?_eq_getElem htl) hj
    rw [cell_of_row W b (t * 22 + j) _ _ _ hh]
    rw [← zC] at e
    have h5 := e.trans hu
    rw [← htake, List.getElem?_take] at h5
    split at h5
    ·simpa using h5
    ·cases h5
   ·rw [cell_of_row W b (0 + j) _ _ _ hh, Nat.zero_add]
    have : j < cur.size := by rw [hcur]; exact Nat.lt_of_lt_of_le hj (Nat.mul_le_mul_right _ hcap)
    simp [this])
 clear hX hcX hc hone hlen h1 h2 h3 hd h22 zC
 have heq := fun (W : World) => Lib.run_eql_slice_nil (P := Tryz.prog) W 22 41 (some (⟨g, o, none⟩ : Addr)) l.length c 0 0 Tryz.underlying22
 go_enter Tryz.func15, Tryz.ntmps15
 go_upto_region 3 with fail
 go_wp2_with (rw [← HX.out]; refine wp_decls X rfl (.tmp 5) (.tmp 6) rfl w.heap.size _ 0 [] hoX rfl g o l.length c flat rfl HLEN.out HC.out CY.out (by omega) hzX ?_; intro v3 X3 hown3 hg3 hv3)
 go_ret
 exact KU.out X3 v3 hown3 (hbX.trans (aL hoX hg3 hzX))
end Go.Proofs.YtbmglebipepdmaaGreatDoor
namespace Go.Proofs.YtbmglebipepdmaaGreatDoor
open Go.RowKit
theorem vQ {w W : World} {S : Nat → Prop} {b : Nat} {l : List Dc} (h : pI w S b l) (hb : Below w.heap.size w W) (hS : ∀ g, S g → g < w.heap.size) (hbl : b < w.heap.size) : pI W S b l := fun t d ht => by
 obtain ⟨v, h1, h2⟩ := h t d ht
 exact ⟨v, h1.keep (aA hb hS), fun j u hu => (hb.cell (p := ⟨b, t * 22 + j, none⟩) hbl).trans (h2 j u hu)⟩
end Go.Proofs.YtbmglebipepdmaaGreatDoor
namespace Go.Proofs.YtbmglebipepdmaaGreatDoor
open Go.RowKit
theorem But.setCells {b : Nat} : ∀ (vs : List Value) (o : Nat) (a w : World), But (fun g => g = b) a w → But (fun g => g = b) a (w.setCells b o vs)
  | [], _, _, _, h => h
  | v :: r, o, a, _w, h => But.setCells r (o + 1) a _ (h.setCell rfl o v)
theorem xH {W : World} {S : Nat → Prop} {b : Nat} {l : List Dc} (h : pI W S b l) : aU (fC W S) W (fun g => g = b) 22 (some ⟨b, 0, none⟩) l := by
  have hex : ∀ i : Fin l.length, ∃ v, fC W S l[i] v ∧ W.rangeAt b (i.1 * 22) (cellsOf v) := fun i => h i.1 _ (List.getElem?_eq_getElem i.2)
  obtain ⟨f, hf⟩ := Classical.axiomOfChoice hex
  have hvl : (List.ofFn f).length = l.length := by simp
  have hget : ∀ (i : Nat) (v : Value), (List.ofFn f)[i]? = some v → ∃ hi : i < l.length, v = f ⟨i, hi⟩ := fun i v hv => by
    obtain ⟨h1, h2⟩ := List.getElem?_eq_some_iff.1 hv
    rw [hvl] at h1
    exact ⟨h1, by rw [← h2]; simp⟩
  have h22 : ∀ (i : Nat) (u : Value), (List.ofFn f)[i]? = some u → (cellsOf u).length = 22 := fun i u hu => by
    obtain ⟨hi, rfl⟩ := hget i u hu
    exact jv (hf ⟨i, hi⟩).1
  have hfl : ((List.ofFn f).flatMap cellsOf).length = l.length * 22 := by
    rw [flat22 (fun u hu => by obtain ⟨i, hi, rfl⟩ := List.getElem_of_mem hu; exact h22 i _ (List.getElem?_eq_getElem hi)), hvl]
  refine ⟨List.ofFn f, hvl, ⟨hfl, fun _ => ⟨b, 0, rfl, rfl, fun j u hu => ?_⟩⟩, fun i x v hx hv => ?_⟩
  · have hj := (List.getElem?_eq_some_iff.1 hu).1
    rw [hfl] at hj
    have hq : j / 22 < l.length := by omega
    have hr : j % 22 < 22 := Nat.mod_lt _ (by decide)
    have e := flatN (m := 22) h22 (j / 22) (j % 22) _ (List.getElem?_eq_getElem (by rw [hvl]; exact hq)) hr
    rw [Nat.div_add_mod' j 22] at e
    rw [e] at hu
    simp only [List.getElem_ofFn] at hu
    have := (hf ⟨j / 22, hq⟩).2 (j % 22) u hu
    rw [Nat.zero_add]
    rwa [Nat.div_add_mod' j 22] at this
  · obtain ⟨hi, rfl⟩ := hget i v hv
    obtain ⟨h1, h2⟩ := List.getElem?_eq_some_iff.1 hx
    rw [← h2]
    exact (hf ⟨i, hi⟩).1
structure oK (x : ByteArray) (l : List Dc) (b : Nat) (S : Nat → Prop) (w wr : World) (j : Nat) : Prop where
  but : But (fun g => g = b) w wr
  th : wr.there b 0 (l.length * 22)
  done : pI wr S b (without x (l.take j))
  rest : ∀ t d, j ≤ t → l[t]? = some d → ∃ v, fC wr S d v ∧ wr.rangeAt b (t * 22) (cellsOf v)
section
variable {x : ByteArray} {l : List Dc} {b : Nat} {S : Nat → Prop} {w wr W : World} {j : Nat}
theorem oK.below (h : oK x l b S w wr j) (hb : Below wr.heap.size wr W) (hS : ∀ g, S g → g < wr.heap.size) (hbl : b < wr.heap.size) : oK x l b S w W j :=
  ⟨h.but.trans (.of_below hb), fun i hi => ⟨by rw [hb.cell (p := ⟨b, 0 + i, none⟩) hbl]; exact (h.th i hi).1, by rw [hb.frozen (p := ⟨b, 0 + i, none⟩) hbl]; exact (h.th i hi).2⟩, vQ h.done hb hS hbl, fun t d h1 h2 => by
    obtain ⟨v, h3, h4⟩ := h.rest t d h1 h2
    exact ⟨v, h3.keep (aA hb hS), fun i u hu => (hb.cell (p := ⟨b, t * 22 + i, none⟩) hbl).trans (h4 i u hu)⟩⟩
theorem kW (x : ByteArray) (l : List Dc) (d : Dc) : without x (l ++ [d]) = without x l ++ if d.name = x then [] else [d] := by
  unfold without
  rw [List.filter_append]
  congr 1
  by_cases h : d.name = x
  · rw [if_pos h, List.filter_cons, if_neg (by rw [(fo _ _).2 h]; simp)]; rfl
  · rw [if_neg h, List.filter_cons, if_pos (by simp only [Bool.not_eq_true']; cases e : (d.name == x); rfl; exact absurd ((fo _ _).1 e) h)]; rfl
theorem oK.skip (h : oK x l b S w wr j) (hj : j < l.length) (hx : l[j].name = x) : oK x l b S w wr (j + 1) := by
  refine ⟨h.but, h.th, ?_, fun t d h1 h2 => h.rest t d (by omega) h2⟩
  rw [nY l j hj, kW, if_pos hx, List.append_nil]
  exact h.done
end
end Go.Proofs.YtbmglebipepdmaaGreatDoor
namespace Go.Proofs.YtbmglebipepdmaaGreatDoor
def pg (nl : Bool) (p : Pc) : Bool := match p with | .gap g => g == [32] || (nl && g == [10]) | _ => true
def gP (nl : Bool) (l : List Pc) : Bool := l.all (pg nl)
section
variable {nl : Bool}
theorem dU (a b : List Pc) : gP nl (a ++ b) = (gP nl a && gP nl b) := by simp [gP]
theorem xO (l : List (List Pc)) (sep : List Pc) (hs : gP nl sep = true) (h : ∀ x ∈ l, gP nl x = true) : gP nl (nQ l sep) = true := by
 cases l with
 |nil => rfl
 |cons x r =>
  rw [nQ, dU, h x (by simp), Bool.true_and]
  have hr : ∀ y ∈ r, gP nl y = true := fun y hy => h y (by simp [hy])
  clear h
  induction r with
  |nil => rfl
  |cons y r ih => rw [List.flatMap_cons, dU, dU, hs, hr y (by simp), ih fun z hz => hr z (by simp [hz])]; rfl
theorem pg_par (ops : List Int) (t : Tm) (x : List Pc) (h : gP nl x = true) : gP nl (og ops t x) = true := by
 unfold og
 split
 ·rw [dU, dU, h]; rfl
 ·exact h
theorem pg_zip (ops : List Int) (ks : List Tm) : ∀ (l : List (List Pc)), (∀ x ∈ l, gP nl x = true) → ∀ y ∈ List.zipWith (og ops) ks l, gP nl y = true := by
 induction ks with
 |nil => intro l _ y hy; simp at hy
 |cons k r ih =>
  intro l h y hy
  cases l with
  |nil => simp at hy
  |cons x l =>
   rw [List.zipWith_cons_cons] at hy
   rcases List.mem_cons.1 hy with rfl | hy
   ·exact pg_par _ _ _ (h x (by simp))
   ·exact ih l (fun z hz => h z (by simp [hz])) y hy
theorem Jp (ws : List Int) (l : List (List Pc)) (h : ∀ x ∈ l, gP nl x = true) : ∀ y ∈ jw ws l, gP nl y = true := by
 intro y hy
 obtain ⟨z, hz, e | ⟨u, -, e⟩⟩ := vP hy
 ·subst e; exact h _ hz
 ·subst e; rw [dU, h z hz]; rfl
theorem pg_tm : ∀ (n : Nat) (t : Tm), av t ≤ n → gP nl (dB t) = true := by
 intro n
 induction n with
 |zero =>
   intro t ht; have : 0 < av t := by (cases t; rw [av]; omega)
   omega
 |succ n ih =>
  intro t ht
  have hk : ∀ x ∈ t.kids.map dB, gP nl x = true := by
   intro x hx
   obtain ⟨k, hk, rfl⟩ := List.mem_map.1 hx
   refine ih k ?_
   have := dh hk
   have := eP t
   omega
  rw [kP]
  unfold headP
  split
  ·exact xO _ _ (by cases nl <;> rfl) (pg_zip _ _ _ hk)
  split
  ·exact xO _ _ (by cases nl <;> rfl) (pg_zip _ _ _ hk)
  split
  ·rw [dU, dU]
   have : gP nl ((t.kids.map dB).headD []) = true := by
    cases e : t.kids.map dB with
    |nil => rfl
    |cons x r => exact hk x (by rw [e]; simp)
   rw [this]; rfl
  split
  ·rfl
  split
  ·rfl
  split
  ·rfl
  split
  ·rw [dU, dU, xO _ _ (by cases nl <;> rfl) (Jp _ _ hk)]; rfl
  ·rfl
theorem pg_tmP (t : Tm) : gP nl (dB t) = true := pg_tm _ t (Nat.le_refl _)
theorem wM (l : List ByteArray) : gP nl (iJ l) = true := xO _ _ (by cases nl <;> rfl) (fun x hx => by obtain ⟨y, -, rfl⟩ := List.mem_map.1 hx; rfl)
theorem nO (p : Pc) (l : List Pc) : gP nl (p :: l) = (pg nl p && gP nl l) := rfl
theorem sF (b : List UInt8) : pg nl (.word b) = true := rfl
theorem xL (c : UInt8) : pg nl (.sym c) = true := rfl
theorem FV : pg nl (.gap [32]) = true := rfl
theorem xM : gP nl [] = true := rfl
theorem uj (w : List UInt8) (l : List ByteArray) : gP nl (mR w l) = true := by
 unfold mR
 simp only [dU, nO, sF, xL, FV, xM, wM, Bool.and_self]
theorem pg_ft (f : Ft) : gP nl (ftP f) = true := by
 unfold ftP
 split
 ·rfl
 split
 ·rfl
 split
 ·rfl
 split
 ·rfl
 split
 ·unfold Jj
  split
  ·exact uj _ _
  split
  ·exact uj _ _
  ·rw [dU, nO, uj, uj]; rfl
 ·rfl
theorem pg_dc (d : Dc) : gP nl (dcP d) = true := by
 unfold dcP
 split
 ·simp only [dU, nO, sF, xL, FV, xM, wM, Bool.and_self]
 split
 ·have := xO (nl := nl) (d.faults.map ftP) um (by cases nl <;> rfl) (fun x hx => by obtain ⟨y, -, rfl⟩ := List.mem_map.1 hx; exact pg_ft y)
  simp only [dU, nO, sF, xL, FV, xM, this, Bool.and_self]
 split
 ·simp only [dU, nO, sF, xL, FV, xM, pg_tmP, Bool.and_self]
 split
 ·simp only [dU, nO, sF, xL, FV, xM, pg_tmP, Bool.and_self]
 split
 ·simp only [dU, nO, sF, xL, FV, xM, wM, Bool.and_self]
 split
 ·simp only [dU, nO, sF, xL, FV, xM, wM, Bool.and_self]
 split
 ·rfl
 ·rfl
end
theorem pg_dcs (l : List Dc) : gP true (sS l) = true := by
 unfold sS
 induction l with
 |nil => rfl
 |cons d r ih => rw [List.flatMap_cons, dU, dU, pg_dc, ih]; rfl

end Go.Proofs.YtbmglebipepdmaaGreatDoor
namespace Go.Proofs.YtbmglebipepdmaaGreatDoor
def j5 : Nat → List Pc → aW
 |_, [] => []
 |n, .word b :: r => (aF b, n) :: j5 n r
 |n, .int i :: r => (iE i, n) :: j5 n r
 |n, .sym c :: r => (iB c, n) :: j5 n r
 |n, .gap g :: r => j5 (if g = [10] then n + 1 else n) r
theorem lex_lines : ∀ (ps : List Pc) (b : Bool), pY b ps = true → (∀ x ∈ ps, x.ok) → gP true ps = true → ∀ line acc, lex (bytesOf ps) line acc = (acc ++ j5 line ps, 0, 0) := by
 intro ps
 induction ps with
 |nil => intro b _ _ _ line acc; rw [tq, lex_nil, j5, List.append_nil]
 |cons x r ih =>
  intro b hs hok hg line acc
  have hx := hok x (by simp)
  have hr : ∀ y ∈ r, y.ok := fun y hy => hok y (by simp [hy])
  have hsr : pY x.xD r = true := by simp [pY] at hs; exact hs.2
  rw [nO, Bool.and_eq_true] at hg
  rw [lG]
  cases x with
  |word w => rw [show (Pc.word w).bytes = w from rfl, Ih hx _ (IX hsr hr), ih _ hsr hr hg.2, j5]; simp
  |int n => rw [show (Pc.int n).bytes = Lib.itoa n from rfl, lex_int hx _ (IX hsr hr), ih _ hsr hr hg.2, j5]; simp
  |sym c => rw [show (Pc.sym c).bytes = [c] from rfl, List.singleton_append, lex_sym hx, ih _ hsr hr hg.2, j5]; simp
  |gap g =>
   have hgg : g = [32] ∨ g = [10] := by simpa [pg] using hg.1
   rcases hgg with rfl | rfl
   ·rw [show (Pc.gap [32]).bytes = [32] from rfl, List.singleton_append, qm 32 _ _ _ (by decide), if_neg (by decide), ih _ hsr hr hg.2, j5, if_neg (by decide)]
   ·rw [show (Pc.gap [10]).bytes = [10] from rfl, List.singleton_append, qm 10 _ _ _ (by decide), if_pos rfl, ih _ hsr hr hg.2, j5, if_pos rfl]
theorem JF {ps : List Pc} (h : gP false ps = true) (n : Nat) (r : List Pc) : j5 n (ps ++ r) = (aK ps).map (fun t => (t, n)) ++ j5 n r := by
 induction ps with
 |nil => rfl
 |cons p q ih =>
  rw [nO, Bool.and_eq_true] at h
  rw [List.cons_append, dS, List.map_append, List.append_assoc]
  cases p with
  |word b => rw [j5, ih h.2]; rfl
  |int i => rw [j5, ih h.2]; rfl
  |sym c => rw [j5, ih h.2]; rfl
  |gap g =>
   have hg : g = [32] := by simpa [pg] using h.1
   subst hg
   rw [j5, if_neg (by decide), ih h.2]; rfl
theorem yh (d : Dc) (l : List Dc) (n : Nat) : j5 n (sS (d :: l)) = (aK (dcP d)).map (fun t => (t, n)) ++ j5 (n + 1) (sS l) := by
 have e : sS (d :: l) = dcP d ++ (.gap [10] :: sS l) := by
  unfold sS; rw [List.flatMap_cons, List.append_assoc]; rfl
 rw [e, JF (pg_dc d), j5, if_pos rfl]
def numbered : Nat → List Dc → List Dc
 |_, [] => []
 |n, d :: r => { d with line := n } :: numbered (n + 1) r
theorem qg (l : List Dc) : ∀ n, (numbered n l).length = l.length := by
 induction l with
 |nil => intro n; rfl
 |cons d r ih => intro n; rw [numbered, List.length_cons, ih, List.length_cons]
theorem Cy {L : aW} (x : Int) : ∀ (l : List Dc), l.all kE = true → ∀ (f : Nat) (acc : List Dc) (p n : Nat), l.length ≤ f → L.drop p = j5 n (sS l) →
  eG L x f acc ⟨p, 0⟩ = (acc ++ numbered n l, ⟨p + ((l.map fun d => aK (dcP d)).flatten).length, 0⟩) := by
 intro l
 induction l with
 |nil =>
  intro _ f acc p n _ hh
  have hp : L.length ≤ p := by
   have := congrArg List.length hh
   have e : j5 n (sS []) = [] := rfl
   rw [e] at this
   simp at this
   omega
  cases f with
  |zero => simp [eG, numbered]
  |succ f => rw [eG, if_neg (by simp; omega)]; simp [numbered]
 |cons d l ih =>
  intro hok f acc p n hf hh
  rw [List.all_cons, Bool.and_eq_true] at hok
  cases f with
  |zero => simp at hf
  |succ f =>
   rw [yh] at hh
   have hm : ∀ (l : List Dc) n, (j5 n (sS l)).map (·.1) = (l.map fun d => aK (dcP d)).flatten := by
    intro l
    induction l with
    |nil => intro n; rfl
    |cons d r ih => intro n; rw [yh, List.map_append, ih, List.map_cons, List.flatten_cons, List.map_map]; simp [Function.comp_def]
   have hh1 : here L p = aK (dcP d) ++ (l.map fun d => aK (dcP d)).flatten := by
    unfold here
    rw [hh, List.map_append, hm, List.map_map]
    simp [Function.comp_def]
   have hpos := sU L hok.1 hh1
   have hlt : p < L.length := by
    have := congrArg List.length hh1
    simp [here] at this
    omega
   have hd := Az x hok.1 hh1
   have hline : fB L p = n := by
    have h0 : L[p]? = (L.drop p)[0]? := by rw [List.getElem?_drop]; simp
    unfold fB
    rw [h0, hh, List.getElem?_append_left (by simpa using hpos), List.getElem?_map, List.getElem?_eq_getElem hpos]
    rfl
   have hnext : L.drop (p + (aK (dcP d)).length) = j5 (n + 1) (sS l) := by
    rw [← List.drop_drop, hh, List.drop_left' (by simp)]
   have h1 := ih hok.2 f (acc ++ [{ d with line := (n : Int) }]) _ (n + 1) (by simpa using hf) hnext
   rw [eG, if_pos ⟨rfl, hlt⟩, hd]
   simp only
   rw [hline, h1, numbered]
   simp only [List.map_cons, List.flatten_cons, List.length_append, List.append_assoc, List.singleton_append]
   refine Prod.ext rfl ?_
   show (⟨_, 0⟩ : St) = ⟨_, 0⟩
   congr 1; omega
theorem toks_some (d : Dc) : 0 < (aK (dcP d)).length := by
 unfold dcP
 split
 ·simp [aK, Pc.toks]
 split
 ·simp [aK, Pc.toks]
 split
 ·simp [aK, Pc.toks]
 split
 ·simp [aK, Pc.toks]
 split
 ·simp [aK, Pc.toks]
 split
 ·simp [aK, Pc.toks]
 split
 ·simp [aK, Pc.toks]
 ·simp [aK, Pc.toks]
theorem FW (x : Int) {l : List Dc} (h : (cB l).2 = 0) : dH x (cB l).1 = (numbered 1 l, 0, 0) := by
 obtain ⟨h0, h1, h3⟩ := sO h
 have e : (cB l).1 = cZ l := by
  unfold cB
  rw [if_pos h0]
  unfold gX
  rw [if_pos (by rw [xE h0]; simp only [Bool.and_eq_true, decide_eq_true_eq]; exact ⟨h1, h3⟩)]
 have hn := CB h0
 have hb := yN h0
 have hl := lex_lines (sS l) false hn.1 hn.2 (pg_dcs l) 1 []
 rw [hb, List.nil_append] at hl
 have hm : ∀ (l : List Dc) n, (j5 n (sS l)).map (·.1) = (l.map fun d => aK (dcP d)).flatten := by
  intro l
  induction l with
  |nil => intro n; rfl
  |cons d r ih => intro n; rw [yh, List.map_append, ih, List.map_cons, List.flatten_cons, List.map_map]; simp [Function.comp_def]
 have hlen : (j5 1 (sS l)).length = (aK (sS l)).length := by rw [← List.length_map (f := (·.1)), hm, uT]
 have hll : l.length ≤ (j5 1 (sS l)).length := by
  rw [hlen, uT]
  have : ∀ (q : List Dc), q.all kE = true → q.length ≤ ((q.map fun d => aK (dcP d)).flatten).length := by
   intro q
   induction q with
   |nil => intro _; simp
   |cons d r ih =>
    intro hq
    rw [List.all_cons, Bool.and_eq_true] at hq
    have a := toks_some d
    have b := ih hq.2
    simp only [List.map_cons, List.flatten_cons, List.length_append, List.length_cons]
    omega
  exact this l h0
 have hg := Cy (L := j5 1 (sS l)) x l h0 _ [] 0 1 hll rfl
 rw [e]
 unfold dH
 rw [hl]
 simp only
 rw [if_neg (by omega), if_neg (by simp), if_neg (by omega), hg]
 rfl
end Go.Proofs.YtbmglebipepdmaaGreatDoor
