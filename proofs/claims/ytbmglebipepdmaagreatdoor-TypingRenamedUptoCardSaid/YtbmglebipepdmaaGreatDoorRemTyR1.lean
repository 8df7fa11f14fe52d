/- What this closing text needs beyond the base: parts of the texts on typing and on the syntax; the conditions stand at each theorem. -/
import Derived.Lib.Join
import Derived.Laws.Concat
import Derived.Lib.ItoaNum
import Derived.Lib.ItoaLen
import Derived.KernelRfl
import Derived.WalkKit
import Derived.WalkLawsBesides
import Derived.Lib.Hide
import Derived.Maps.AppendAt
import Derived.Deep.Draws
import Derived.Deep.AppendLies
import Derived.OneCell
import Derived.Laws.Rows
import Derived.Test.YtbmglebipepdmaaGreatDoorProg
import Derived.Maps.OwnSet
import Derived.WideKeyEntry
import Derived.Deep.RegionHeld
import Derived.Laws.Append
import Derived.Shelf.Strings.Builder1
import Derived.Shelf.Strings.Builder2
import Derived.Shelf.Strings.OnBuilder
import Derived.Shelf.Strconv.Itoa0
import Derived.Shelf.Strconv.Itoa1
import Derived.Shelf.LaysM
import Derived.Shelf.Strconv.Itoa2
import Derived.Shelf.Strconv.Itoa3
import Derived.Shelf.Strings.Search1
import Derived.Shelf.Strings.Search2
import Derived.Shelf.Strings.Search3
import Derived.Shelf.Strings.Count
import Derived.Shelf.Strings.Shaped
import Derived.Shelf.Slices.Turned
import Derived.Shelf.Slices.Equal
import Derived.Deep.MidRow
import Derived.WalkSpells
import Derived.Test.YtbmglebipepdmaaGreatDoorPkPlain
import Derived.Test.YtbmglebipepdmaaGreatDoorPkRound
import Derived.Test.YtbmglebipepdmaaGreatDoorPkTyp
import Derived.Test.YtbmglebipepdmaaGreatDoorPkMem
import Derived.Test.YtbmglebipepdmaaGreatDoorPkPara
import Derived.Test.YtbmglebipepdmaaGreatDoorPkParb
import Derived.Test.YtbmglebipepdmaaGreatDoorPkLex
import Derived.Test.YtbmglebipepdmaaGreatDoorPkPare
import Derived.Test.YtbmglebipepdmaaGreatDoorPkVala
import Derived.Test.YtbmglebipepdmaaGreatDoorPkValb
import Derived.Test.YtbmglebipepdmaaGreatDoorPkValc
import Derived.Test.YtbmglebipepdmaaGreatDoorPkFmta
import Derived.Test.YtbmglebipepdmaaGreatDoorPkFmtb
import Derived.Test.YtbmglebipepdmaaGreatDoorPkNms
import Derived.Test.YtbmglebipepdmaaGreatDoorPkTya
import Derived.Test.YtbmglebipepdmaaGreatDoorPkTyb
import Derived.Test.YtbmglebipepdmaaGreatDoorPkOpen
import Derived.Test.YtbmglebipepdmaaGreatDoorPkCheck
import Derived.Test.YtbmglebipepdmaaGreatDoorPkRefl
import Derived.Test.YtbmglebipepdmaaGreatDoorPkRefa
import Derived.Test.YtbmglebipepdmaaGreatDoorPkRefb
import Derived.Test.YtbmglebipepdmaaGreatDoorPkRefc
import Derived.Test.YtbmglebipepdmaaGreatDoorPkRefd
import Derived.Test.YtbmglebipepdmaaGreatDoorPkEq
import Derived.Test.YtbmglebipepdmaaGreatDoorPkHead
import Derived.Test.YtbmglebipepdmaaGreatDoorPkUses
import Derived.Test.YtbmglebipepdmaaGreatDoorPkAwt
namespace Go.Proofs.YtbmglebipepdmaaGreatDoor
def mem (s : Nat) : List Nat := (List.range 16).filter (fun i => s.testBit i)

def low (s : Nat) : Nat := (mem s).headD 0

end Go.Proofs.YtbmglebipepdmaaGreatDoor
namespace Go.Proofs.YtbmglebipepdmaaGreatDoor
theorem bs_inj {a b : List UInt8} : bs a = bs b ↔ a = b := ⟨fun h => by rw [← eZ a, h, eZ], fun h => by rw [h]⟩

theorem Kk (ss : List ByteArray) (i : Nat) : (ss.getD i ByteArray.empty).data.toList.length ≤ tot ss := by
 induction ss generalizing i with
 |nil => simp [tot]
 |cons x r ih =>
  cases i with
  |zero => simp [tot]
  |succ i => have := ih i; simp [tot] at this ⊢; omega
end Go.Proofs.YtbmglebipepdmaaGreatDoor
namespace Go.Proofs.YtbmglebipepdmaaGreatDoor
theorem lex_nil (line : Nat) (acc : List (Tok × Nat)) : lex [] line acc = (acc, 0, 0) := rfl
end Go.Proofs.YtbmglebipepdmaaGreatDoor
namespace Go.Proofs.YtbmglebipepdmaaGreatDoor
end Go.Proofs.YtbmglebipepdmaaGreatDoor
namespace Go.Proofs.YtbmglebipepdmaaGreatDoor
end Go.Proofs.YtbmglebipepdmaaGreatDoor
namespace Go.Proofs.YtbmglebipepdmaaGreatDoor
mutual
def dI : Tm → Nat
 |.mk _ _ _ _ kids => fI kids + 1
def fI : List Tm → Nat
 |[] => 0
 |t :: r => max (dI t) (fI r)
end
end Go.Proofs.YtbmglebipepdmaaGreatDoor
namespace Go.Proofs.YtbmglebipepdmaaGreatDoor
end Go.Proofs.YtbmglebipepdmaaGreatDoor
namespace Go.Proofs.YtbmglebipepdmaaGreatDoor
end Go.Proofs.YtbmglebipepdmaaGreatDoor
namespace Go.Proofs.YtbmglebipepdmaaGreatDoor
def bytesOf (l : List Pc) : List UInt8 := l.flatMap Pc.bytes
theorem aV (a b : List Pc) : bytesOf (a ++ b) = bytesOf a ++ bytesOf b := by simp [bytesOf]
theorem aI (a b : List Pc) : aK (a ++ b) = aK a ++ aK b := by simp [aK]
theorem mF (x : Pc) (r : List Pc) : bytesOf (x :: r) = x.bytes ++ bytesOf r := rfl
theorem dN (x : Pc) (r : List Pc) : aK (x :: r) = x.toks ++ aK r := rfl
theorem uS : bytesOf [] = [] := rfl
theorem ni (b : Bool) (c : UInt8) (r : List Pc) : rJ b (.sym c :: r) = rJ false r := by simp [rJ, Pc.zk]
theorem nk (b : Bool) (g : List UInt8) (r : List Pc) : rJ b (.gap g :: r) = rJ false r := by simp [rJ, Pc.zk]
theorem Dm (b : Bool) : rJ b [] = true := rfl

def brk (l : List UInt8) : Prop := ∀ c r, l = c :: r → cu c.toNat = false
theorem zh : ∀ c ∈ Fe, fG c.toNat = false ∧ dX c.toNat = false ∧ isDigit c.toNat = false ∧ c ≠ 34 := by decide
theorem KA {r : List Pc} (h : rJ true r = true) (hok : ∀ x ∈ r, x.ok) : brk (bytesOf r) := by
 cases r with
 |nil => intro c r e; simp [bytesOf] at e
 |cons x r =>
  have hx := hok x (by simp)
  intro c s e
  rw [mF] at e
  cases x with
  |word b => simp [rJ, Pc.zk] at h
  |int n => simp [rJ, Pc.zk] at h
  |sym d =>
   have e1 : d = c := by simp [Pc.bytes] at e; exact e.1
   subst e1
   have := zh d hx.1
   unfold cu; rw [this.2.1, this.2.2.1]; rfl
  |gap g =>
   obtain ⟨⟨d, q, rfl, hd⟩, -⟩ := hx
   have e1 : d = c := by simp [Pc.bytes] at e; exact e.1
   subst e1; exact hd

theorem BM (p : Nat → Bool) (a r : List UInt8) (ha : ∀ c ∈ a, p c.toNat = true) (hr : ∀ c s, r = c :: s → p c.toNat = false) : pre p (a ++ r) = a.length := by
 induction a with
 |nil =>
  cases r with
  |nil => rfl
  |cons c s => unfold pre; simp [hr c s rfl]
 |cons c a ih =>
  have h0 := ha c (by simp)
  have h1 := ih (fun d hd => ha d (by simp [hd]))
  unfold pre at h1 ⊢
  rw [List.cons_append, List.takeWhile_cons, if_pos h0, List.length_cons, h1, List.length_cons]
theorem nW : ∀ i, i < 10 → (UInt8.ofNat (48 + i)).toNat = 48 + i := by
 intro i h
 rw [UInt8.toNat_ofNat']; omega
theorem MI (n : Nat) : ∀ u, u ≤ n → ∀ c ∈ Lib.decDigits u, isDigit c.toNat = true := by
 induction n with
 |zero =>
  intro u hu c hc
  have : u = 0 := by omega
  subst this
  rw [Lib.decDigits_one (by omega)] at hc
  simp at hc; subst hc; decide
 |succ n ih =>
  intro u hu c hc
  rw [Lib.decDigits] at hc
  split at hc
  ·rename_i h
   obtain rfl := List.mem_singleton.1 hc
   unfold isDigit; rw [nW u h]; simp; omega
  ·rename_i h
   rcases List.mem_append.1 hc with hc | hc
   ·exact ih (u / 10) (by omega) c hc
   ·obtain rfl := List.mem_singleton.1 hc
    have : u % 10 < 10 := Nat.mod_lt _ (by omega)
    unfold isDigit; rw [nW _ this]; simp; omega
theorem FD (a b : List UInt8) : ∀ v, mh v (a ++ b) = (mh v a).bind fun x => mh x b := by
 induction a with
 |nil => intro v; rfl
 |cons c r ih =>
  intro v
  rw [List.cons_append, mh, mh]
  split
  ·rfl
  ·exact ih _
theorem numGo_dec (n : Nat) : ∀ u, u ≤ n → u ≤ 100000 → mh 0 (Lib.decDigits u) = some u := by
 induction n with
 |zero =>
  intro u hu _
  have : u = 0 := by omega
  subst this
  rw [Lib.decDigits_one (by omega)]; rfl
 |succ n ih =>
  intro u hu hl
  rw [Lib.decDigits]
  split
  ·rename_i h
   rw [mh, nW u h, if_neg (by omega), mh]
   congr 1; omega
  ·rename_i h
   have hm : u % 10 < 10 := Nat.mod_lt _ (by omega)
   rw [FD, ih (u / 10) (by omega) (by omega)]
   show mh (u / 10) [UInt8.ofNat (48 + u % 10)] = some u
   rw [mh, nW _ hm, if_neg (by omega), mh]
   congr 1; omega
theorem Ky (n : Nat) : ∀ u, u ≤ n → ∃ c r, Lib.decDigits u = c :: r ∧ (0 < u → c ≠ 48) := by
 induction n with
 |zero =>
  intro u hu
  have : u = 0 := by omega
  subst this
  rw [Lib.decDigits_one (by omega)]; exact ⟨_, _, rfl, fun h => by omega⟩
 |succ n ih =>
  intro u hu
  rw [Lib.decDigits]
  split
  ·rename_i h
   refine ⟨_, _, rfl, fun h0 e => ?_⟩
   have := congrArg UInt8.toNat e
   rw [nW u h] at this
   have e48 : (48 : UInt8).toNat = 48 := rfl
   omega
  ·rename_i h
   obtain ⟨c, r, e, hc⟩ := ih (u / 10) (by omega)
   rw [e]
   exact ⟨c, r ++ _, rfl, fun _ => hc (by omega)⟩
theorem num_dec (u : Nat) (h : u ≤ 100000) : num (Lib.decDigits u) = some u := by
 unfold num
 rw [if_neg, numGo_dec u u (Nat.le_refl _) h]
 rintro ⟨h1, h2⟩
 by_cases h10 : u < 10
 ·rw [Lib.decDigits_one h10] at h1; simp at h1
 ·obtain ⟨c, r, e, hc⟩ := Ky u u (Nat.le_refl _)
  rw [e] at h2; simp at h2
  exact hc (by omega) h2
theorem itoa_nat {n : Int} (h : small n = true) : Lib.itoa n = Lib.decDigits n.toNat := by
 have := nK h
 unfold Lib.itoa; rw [if_neg (by omega)]

theorem FM {c : Nat} (h : dX c = true) : fG c = false ∧ c ≠ 47 := by
 unfold dX at h
 unfold fG
 simp only [Bool.or_eq_true, Bool.and_eq_true, beq_iff_eq, decide_eq_true_eq] at h
 refine ⟨?_, by omega⟩
 simp only [Bool.or_eq_false_iff, beq_eq_false_iff_ne]
 omega
theorem Jd {c : Nat} (h : isDigit c = true) : fG c = false ∧ c ≠ 47 ∧ dX c = false := by
 unfold isDigit at h
 unfold fG dX
 simp only [Bool.and_eq_true, decide_eq_true_eq] at h
 refine ⟨?_, by omega, ?_⟩
 ·simp only [Bool.or_eq_false_iff, beq_eq_false_iff_ne]; omega
 ·simp only [Bool.or_eq_false_iff, Bool.and_eq_false_iff, beq_eq_false_iff_ne, decide_eq_false_iff_not]; omega
theorem J6 {b : List UInt8} (h : dR b = true) (r : List UInt8) (hr : brk r) (line : Nat) (acc : List (Tok × Nat)) : lex (b ++ r) line acc = lex r line (acc ++ [(aG b, line)]) := by
 obtain ⟨c, s, rfl, hc, hl, hall⟩ := kU h
 obtain ⟨h1, h2⟩ := FM hc
 have hp : pre cu (c :: s ++ r) = (c :: s).length := BM cu _ _ hall hr
 have e : gZ (c :: s ++ r) = some (aG (c :: s), (c :: s).length) := by
  rw [List.cons_append] at hp ⊢
  rw [gZ, if_pos hc, hp, if_neg (by omega)]
  rw [← List.cons_append, List.take_left]; rfl
 rw [List.cons_append] at e ⊢
 rw [nM c (s ++ r) line acc _ _ h1 (fun hh => h2 (by rw [hh.1]; rfl)) e, ← List.cons_append, List.drop_left]
theorem lex_int {n : Int} (h : small n = true) (r : List UInt8) (hr : brk r) (line : Nat) (acc : List (Tok × Nat)) : lex (Lib.itoa n ++ r) line acc = lex r line (acc ++ [(iV n, line)]) := by
 have hn := nK h
 rw [itoa_nat h]
 have hd := MI n.toNat n.toNat (Nat.le_refl _)
 have hv := num_dec n.toNat (by omega)
 obtain ⟨c, s, ec, -⟩ := Ky n.toNat n.toNat (Nat.le_refl _)
 rw [ec] at hd hv ⊢
 have hc := hd c (by simp)
 obtain ⟨h1, h2, h3⟩ := Jd hc
 have hp : pre isDigit (c :: s ++ r) = (c :: s).length := BM isDigit _ _ hd (fun c' s' e' => by
  have := hr c' s' e'
  unfold cu at this
  simp only [Bool.or_eq_false_iff] at this
  exact this.2)
 have e : gZ (c :: s ++ r) = some (iV n, (c :: s).length) := by
  rw [List.cons_append] at hp ⊢
  rw [gZ, if_neg (by rw [h3]; simp), if_pos hc, hp, ← List.cons_append, List.take_left, hv]; rfl
 rw [List.cons_append] at e ⊢
 rw [nM c (s ++ r) line acc _ _ h1 (fun hh => h2 (by rw [hh.1]; rfl)) e, ← List.cons_append, List.drop_left]
theorem lex_sym {c : UInt8} (h : c ∈ Fe ∧ c ≠ 47) (r : List UInt8) (line : Nat) (acc : List (Tok × Nat)) : lex (c :: r) line acc = lex r line (acc ++ [(iR c, line)]) := by
 obtain ⟨h1, h2, h3, h4⟩ := zh c h.1
 have e : gZ (c :: r) = some (iR c, 1) := by
  rw [gZ, if_neg (by rw [h2]; simp), if_neg (by rw [h3]; simp), if_neg h4, if_pos h.1]; rfl
 rw [nM c r line acc _ _ h1 (fun hh => h.2 hh.1) e]; rfl

theorem DU : ∀ (ps : List Pc) (b : Bool), rJ b ps = true → (∀ x ∈ ps, x.ok) → ∀ line acc, ∃ L : aW, lex (bytesOf ps) line acc = (acc ++ L, 0, 0) ∧ L.map (·.1) = aK ps := by
 intro ps
 induction ps with
 |nil => intro b _ _ line acc; exact ⟨[], by rw [uS, lex_nil, List.append_nil], rfl⟩
 |cons x r ih =>
  intro b hs hok line acc
  have hx := hok x (by simp)
  have hr : ∀ y ∈ r, y.ok := fun y hy => hok y (by simp [hy])
  have hsr : rJ x.zk r = true := by simp [rJ] at hs; exact hs.2
  rw [mF]
  cases x with
  |word w =>
   obtain ⟨L, h1, h2⟩ := ih _ hsr hr line (acc ++ [(aG w, line)])
   refine ⟨(aG w, line) :: L, ?_, by rw [dN, List.map_cons, h2]; rfl⟩
   rw [show (Pc.word w).bytes = w from rfl, J6 hx _ (KA hsr hr), h1]; simp
  |int n =>
   obtain ⟨L, h1, h2⟩ := ih _ hsr hr line (acc ++ [(iV n, line)])
   refine ⟨(iV n, line) :: L, ?_, by rw [dN, List.map_cons, h2]; rfl⟩
   rw [show (Pc.int n).bytes = Lib.itoa n from rfl, lex_int hx _ (KA hsr hr), h1]; simp
  |sym c =>
   obtain ⟨L, h1, h2⟩ := ih _ hsr hr line (acc ++ [(iR c, line)])
   refine ⟨(iR c, line) :: L, ?_, by rw [dN, List.map_cons, h2]; rfl⟩
   rw [show (Pc.sym c).bytes = [c] from rfl, List.singleton_append, lex_sym hx, h1]; simp
  |gap g =>
   obtain ⟨line', hl⟩ := hx.2 (bytesOf r) line acc
   obtain ⟨L, h1, h2⟩ := ih _ hsr hr line' acc
   exact ⟨L, by rw [show (Pc.gap g).bytes = g from rfl, hl, h1], by rw [dN, h2]; rfl⟩

theorem Kl : GapOk [10] := ⟨⟨_, _, rfl, by decide⟩, FX [10] (by decide)⟩
end Go.Proofs.YtbmglebipepdmaaGreatDoor
namespace Go.Proofs.YtbmglebipepdmaaGreatDoor
theorem KQ (l : List Tm) : JI l = l.map dx := by
 induction l with
 |nil => rfl
 |cons t r ih => rw [JI, ih]; rfl
theorem j4 (t : Tm) : dx t = LV t (t.kids.map dx) := by
 cases t with
 |mk op name need ws kids => rw [dx, KQ]; rfl

theorem MR (r : List (List Pc)) (sep : List Pc) : bytesOf (r.flatMap (sep ++ ·)) = Lib.joinTail (bytesOf sep) (r.map bytesOf) := by
 induction r with
 |nil => rfl
 |cons x r ih =>
  rw [List.flatMap_cons, aV, ih, aV]
  simp [Lib.joinTail]
theorem ql (l : List (List Pc)) (sep : List Pc) : bytesOf (kL l sep) = Lib.join (l.map bytesOf) (bytesOf sep) := by
 cases l with
 |nil => rfl
 |cons x r => rw [kL, aV, MR, List.map_cons, Lib.join_cons]
theorem bytes_par (ops : List Int) (t : Tm) (x : List Pc) : bytesOf (mR ops t x) = par ops t (bytesOf x) := by
 unfold mR par
 split
 ·rw [aV, aV]; rfl
 ·rfl
theorem Eu (ws : List Int) : ∀ (l : List (List Pc)), (iw ws l).map bytesOf = weighed ws (l.map bytesOf) := by
 intro l
 unfold iw weighed
 split
 ·rfl
 ·induction l generalizing ws with
  |nil => simp
  |cons x r ih =>
   cases ws with
   |nil => simp
   |cons w ws =>
    rw [List.zipWith_cons_cons, List.map_cons, List.map_cons, List.zipWith_cons_cons]
    congr 1
    ·rw [aV]; simp [bytesOf, Pc.bytes]
    ·by_cases h0 : ws.length = 0
     ·have : ws = [] := List.length_eq_zero_iff.1 h0
      subst this; simp
     ·exact ih _ h0
theorem GQ (ops : List Int) (ks : List Tm) : ∀ (l : List (List Pc)), (List.zipWith (mR ops) ks l).map bytesOf = List.zipWith (par ops) ks (l.map bytesOf) := by
 induction ks with
 |nil => intro l; simp
 |cons k r ih =>
  intro l
  cases l with
  |nil => simp
  |cons x l => rw [List.zipWith_cons_cons, List.map_cons, List.map_cons, List.zipWith_cons_cons, ih, bytes_par]
theorem MS (t : Tm) (l : List (List Pc)) : bytesOf (LV t l) = wF t (l.map bytesOf) := by
 unfold LV wF
 split
 ·rw [ql, GQ]; rfl
 split
 ·rw [ql, GQ]; rfl
 split
 ·rw [aV, aV]
  cases l <;> rfl
 split
 ·simp [bytesOf, Pc.bytes]
 split
 ·simp [bytesOf, Pc.bytes]
 split
 ·simp [bytesOf, Pc.bytes]
 split
 ·rw [aV, aV, ql, Eu]
  simp [bytesOf, Pc.bytes, qV]
 ·simp [bytesOf, Pc.bytes]
theorem tm_bytes : ∀ (n : Nat) (t : Tm), au t ≤ n → bytesOf (dx t) = aU t := by
 intro n
 induction n with
 |zero =>
   intro t ht; have : 0 < au t := by (cases t; rw [au]; omega)
   omega
 |succ n ih =>
  intro t ht
  rw [j4, jy, MS, List.map_map]
  congr 1
  refine List.map_congr_left fun k hk => ih k ?_
  have := bI hk
  have := dU t
  omega
theorem uj (t : Tm) : bytesOf (dx t) = aU t := tm_bytes _ t (Nat.le_refl _)

theorem neat_line : dG [.gap [10]] := ⟨rfl, fun x hx => by simp at hx; subst hx; exact Kl⟩
theorem mr {b : List UInt8} (h : dR b = true) : dG [.word b] := ⟨rfl, fun x hx => by simp at hx; subst hx; exact h⟩
theorem yL {n : Int} (h : small n = true) : dG [.int n] := ⟨rfl, fun x hx => by simp at hx; subst hx; exact h⟩
theorem dG.oP {w : List UInt8} {c : UInt8} {b : List Pc} (hw : dR w = true) (hb : dG (.sym c :: b)) : dG (.word w :: .sym c :: b) := dG.ahead (a := [.word w]) (mr hw) hb (fun d => by rw [ni]; have := hb.1; rwa [ni] at this)
theorem dG.gJ {w : List UInt8} {c : List UInt8} {b : List Pc} (hw : dR w = true) (hb : dG (.gap c :: b)) : dG (.word w :: .gap c :: b) := dG.ahead (a := [.word w]) (mr hw) hb (fun d => by rw [nk]; have := hb.1; rwa [nk] at this)
theorem dG.intSym {w : Int} {c : UInt8} {b : List Pc} (hw : small w = true) (hb : dG (.sym c :: b)) : dG (.int w :: .sym c :: b) := dG.ahead (a := [.int w]) (yL hw) hb (fun d => by rw [ni]; have := hb.1; rwa [ni] at this)
theorem dG.intGap {w : Int} {c : List UInt8} {b : List Pc} (hw : small w = true) (hb : dG (.gap c :: b)) : dG (.int w :: .gap c :: b) := dG.ahead (a := [.int w]) (yL hw) hb (fun d => by rw [nk]; have := hb.1; rwa [nk] at this)
theorem dG.yo {a b : List Pc} {c : UInt8} (ha : dG a) (hb : dG (.sym c :: b)) : dG (a ++ .sym c :: b) := ha.ahead hb (fun d => by rw [ni]; have := hb.1; rwa [ni] at this)
theorem dG.CR {a b : List Pc} {c : List UInt8} (ha : dG a) (hb : dG (.gap c :: b)) : dG (a ++ .gap c :: b) := ha.ahead hb (fun d => by rw [nk]; have := hb.1; rwa [nk] at this)

def SepOk (sep : List Pc) : Prop := dG sep ∧ (∀ b, rJ b sep = true) ∧ (∀ b, ends b sep = false)
theorem andSep_ok : SepOk yt := ⟨(dG.sym sO).gap, fun b => by simp [yt, nk, ni, Dm], fun b => rfl⟩
theorem JX : SepOk rM := ⟨(dG.sym sO).gap, fun b => by simp [rM, nk, ni, Dm], fun b => rfl⟩
theorem GI : SepOk qV := ⟨dG.sym sO, fun b => by simp [qV, nk, ni, Dm], fun b => rfl⟩
theorem neat_tail {sep : List Pc} (hs : SepOk sep) (r : List (List Pc)) (h : ∀ x ∈ r, dG x) : dG (r.flatMap (sep ++ ·)) ∧ ∀ b, rJ b (r.flatMap (sep ++ ·)) = true := by
 induction r with
 |nil => exact ⟨.nil, fun _ => rfl⟩
 |cons x r ih =>
  obtain ⟨h1, h2⟩ := ih (fun y hy => h y (by simp [hy]))
  have hx : dG (sep ++ x) := hs.1.behind (h x (by simp)) (hs.2.2 _)
  rw [List.flatMap_cons]
  refine ⟨hx.ahead h1 h2, fun b => ?_⟩
  rw [qF, qF, hs.2.1, hs.2.2, (h x (by simp)).1, h2]; rfl
theorem rQ {sep : List Pc} (hs : SepOk sep) (l : List (List Pc)) (h : ∀ x ∈ l, dG x) : dG (kL l sep) := by
 cases l with
 |nil => exact .nil
 |cons x r =>
  obtain ⟨h1, h2⟩ := neat_tail hs r (fun y hy => h y (by simp [hy]))
  exact (h x (by simp)).ahead h1 h2
theorem J2 (ops : List Int) (t : Tm) (x : List Pc) (h : dG x) : dG (mR ops t x) := by
 unfold mR
 split
 ·rw [List.append_assoc]; exact dG.sym (h.yo iI)
 ·exact h
theorem cO {x : ByteArray} (h : bG x = true) : dR x.data.toList = true := by
 unfold bG at h
 rw [Bool.and_eq_true] at h
 exact h.1
theorem Ia : dR ((⟨#[115, 101, 114, 118, 101, 114, 115]⟩ : ByteArray)).data.toList = true := by decide
theorem pU {x : ByteArray} (h : (bG x || x == (⟨#[115, 101, 114, 118, 101, 114, 115]⟩ : ByteArray)) = true) : dR x.data.toList = true := by
 rw [Bool.or_eq_true] at h
 rcases h with h | h
 ·exact cO h
 ·rw [(eF _ _).1 h]; exact Ia
theorem wE (nm : ByteArray) (nd : Int) (ws : List Int) (ks : List Tm) : bY (.mk 1 nm nd ws ks) = (bG nm && bare (.mk 1 nm nd ws ks)) := rfl
theorem wD (nm : ByteArray) (nd : Int) (ws : List Int) (ks : List Tm) : bY (.mk 2 nm nd ws ks) = (decide (nm.size = 0) && small nd && decide (0 < ks.length) && (decide (ws.length = 0) || decide (ws.length = ks.length))) := rfl
theorem D7 (nm : ByteArray) (nd : Int) (ws : List Int) (ks : List Tm) : bY (.mk 3 nm nd ws ks) = (decide (nm.size = 0) && decide (nd = 0) && decide (ws.length = 0) && decide (2 ≤ ks.length)) := rfl
theorem D6 (nm : ByteArray) (nd : Int) (ws : List Int) (ks : List Tm) : bY (.mk 4 nm nd ws ks) = (decide (nm.size = 0) && decide (nd = 0) && decide (ws.length = 0) && decide (2 ≤ ks.length)) := rfl
theorem wC (nm : ByteArray) (nd : Int) (ws : List Int) (ks : List Tm) : bY (.mk 5 nm nd ws ks) = (decide (nm.size = 0) && decide (nd = 0) && decide (ws.length = 0) && decide (ks.length = 1)) := rfl
theorem wB (nm : ByteArray) (nd : Int) (ws : List Int) (ks : List Tm) : bY (.mk 6 nm nd ws ks) = ((bG nm || nm == (⟨#[115, 101, 114, 118, 101, 114, 115]⟩ : ByteArray)) && bare (.mk 6 nm nd ws ks)) := rfl
theorem wu (nm : ByteArray) (nd : Int) (ws : List Int) (ks : List Tm) : bY (.mk 7 nm nd ws ks) = ((bG nm || nm == (⟨#[115, 101, 114, 118, 101, 114, 115]⟩ : ByteArray)) && bare (.mk 7 nm nd ws ks)) := rfl
theorem wm (nm : ByteArray) (nd : Int) (ws : List Int) (ks : List Tm) : bY (.mk 8 nm nd ws ks) = ((bG nm || nm == (⟨#[115, 101, 114, 118, 101, 114, 115]⟩ : ByteArray)) && bare (.mk 8 nm nd ws ks)) := rfl
theorem Al {op : Int} {nm : ByteArray} {nd : Int} {ws : List Int} {ks : List Tm} (h : bY (.mk op nm nd ws ks) = true) : op = 1 ∨ op = 2 ∨ op = 3 ∨ op = 4 ∨ op = 5 ∨ op = 6 ∨ op = 7 ∨ op = 8 := by
 apply Decidable.byContradiction
 intro hn
 have e : bY (.mk op nm nd ws ks) = false := by
  unfold bY
  show (if op = 1 then _ else if op = 6 ∨ op = 7 ∨ op = 8 then _ else if op = 2 then _ else if op = 3 ∨ op = 4 then _ else if op = 5 then _ else false) = false
  rw [if_neg (by omega), if_neg (by omega), if_neg (by omega), if_neg (by omega), if_neg (by omega)]
 rw [e] at h; cases h
theorem pcs1 (nm : ByteArray) (nd : Int) (ws : List Int) (ks : List Tm) : dx (.mk 1 nm nd ws ks) = [.word nm.data.toList] := by rw [j4]; rfl
theorem pcs2 (nm : ByteArray) (nd : Int) (ws : List Int) (ks : List Tm) : dx (.mk 2 nm nd ws ks) = [.int nd, .sym 40] ++ kL (iw ws (ks.map dx)) qV ++ [.sym 41] := by rw [j4]; rfl
theorem zipP {α : Type} (f : Tm → List Pc → α) (g : Tm → List Pc) (l : List Tm) : List.zipWith f l (l.map g) = l.map (fun k => f k (g k)) := by
 induction l with
 |nil => rfl
 |cons x r ih => simp [ih]
theorem pcs3 (nm : ByteArray) (nd : Int) (ws : List Int) (ks : List Tm) : dx (.mk 3 nm nd ws ks) = kL (ks.map fun k => mR [3, 4] k (dx k)) yt := by rw [j4]; show kL (List.zipWith (mR [3, 4]) ks (ks.map dx)) yt = _; rw [zipP]
theorem pcs4 (nm : ByteArray) (nd : Int) (ws : List Int) (ks : List Tm) : dx (.mk 4 nm nd ws ks) = kL (ks.map fun k => mR [4] k (dx k)) rM := by rw [j4]; show kL (List.zipWith (mR [4]) ks (ks.map dx)) rM = _; rw [zipP]
theorem pcs5 (nm : ByteArray) (nd : Int) (ws : List Int) (k : Tm) : dx (.mk 5 nm nd ws [k]) = [.word [100, 117, 97, 108], .sym 40] ++ dx k ++ [.sym 41] := by rw [j4]; rfl
theorem pcs6 (nm : ByteArray) (nd : Int) (ws : List Int) (ks : List Tm) : dx (.mk 6 nm nd ws ks) = [.word [109, 97, 106, 111, 114, 105, 116, 121], .sym 40, .word nm.data.toList, .sym 41] := by rw [j4]; rfl
theorem pcs7 (nm : ByteArray) (nd : Int) (ws : List Int) (ks : List Tm) : dx (.mk 7 nm nd ws ks) = [.word [97, 108, 108], .sym 40, .word nm.data.toList, .sym 41] := by rw [j4]; rfl
theorem pcs8 (nm : ByteArray) (nd : Int) (ws : List Int) (ks : List Tm) : dx (.mk 8 nm nd ws ks) = [.word [97, 110, 121], .sym 40, .word nm.data.toList, .sym 41] := by rw [j4]; rfl
theorem rD {ws : List Int} {ls : List (List Pc)} {x : List Pc} (h : x ∈ iw ws ls) : ∃ y ∈ ls, x = y ∨ ∃ w ∈ ws, x = y ++ [.sym 42, .int w] := by
 unfold iw at h
 split at h
 ·exact ⟨x, h, Or.inl rfl⟩
 ·obtain ⟨i, hi, rfl⟩ := List.mem_iff_getElem.1 h
  rw [List.length_zipWith] at hi
  exact ⟨ls[i], List.getElem_mem _, Or.inr ⟨ws[i], List.getElem_mem _, by simp⟩⟩
theorem tm_neat : ∀ (n : Nat) (t : Tm), au t ≤ n → iZ t = true → dG (dx t) := by
 intro n
 induction n with
 |zero =>
   intro t ht; have : 0 < au t := by (cases t; rw [au]; omega)
   omega
 |succ n ih =>
  intro t ht hok
  obtain ⟨h1, h2, h3⟩ := nE hok
  have hs := dU t
  obtain ⟨op, nm, nd, ws, ks⟩ := t
  have hk : ∀ k ∈ ks, dG (dx k) := fun k hk => ih k (by have := bI hk; have hs : au (.mk op nm nd ws ks) = 1 + nm.size + ws.length + aX ks := hs; omega) (h3 k hk)
  have h2 : ∀ w ∈ ws, small w = true := h2
  rcases Al h1 with rfl | rfl | rfl | rfl | rfl | rfl | rfl | rfl
  ·rw [wE, Bool.and_eq_true] at h1
   rw [pcs1]; exact mr (cO h1.1)
  ·rw [wD] at h1
   simp only [Bool.and_eq_true] at h1
   rw [pcs2, List.append_assoc]
   refine dG.intSym h1.1.1.2 (dG.sym ?_)
   refine dG.yo (rQ GI _ fun x hx => ?_) iI
   obtain ⟨y, hy, hxy⟩ := rD hx
   obtain ⟨k, hkk, rfl⟩ := List.mem_map.1 hy
   rcases hxy with rfl | ⟨w, hw, rfl⟩
   ·exact hk k hkk
   ·exact (hk k hkk).yo (dG.sym (yL (h2 w hw)))
  ·rw [pcs3]
   refine rQ andSep_ok _ fun x hx => ?_
   obtain ⟨k, hkk, rfl⟩ := List.mem_map.1 hx
   exact J2 _ _ _ (hk k hkk)
  ·rw [pcs4]
   refine rQ JX _ fun x hx => ?_
   obtain ⟨k, hkk, rfl⟩ := List.mem_map.1 hx
   exact J2 _ _ _ (hk k hkk)
  ·rw [wC] at h1
   simp only [Bool.and_eq_true, decide_eq_true_eq] at h1
   obtain ⟨k, rfl⟩ := List.length_eq_one_iff.1 h1.2
   rw [pcs5, List.append_assoc]
   exact dG.oP (by decide) (dG.sym ((hk k (by simp)).yo iI))
  ·rw [wB, Bool.and_eq_true] at h1
   rw [pcs6]; exact dG.oP (by decide) (dG.sym (dG.oP (pU h1.1) iI))
  ·rw [wu, Bool.and_eq_true] at h1
   rw [pcs7]; exact dG.oP (by decide) (dG.sym (dG.oP (pU h1.1) iI))
  ·rw [wm, Bool.and_eq_true] at h1
   rw [pcs8]; exact dG.oP (by decide) (dG.sym (dG.oP (pU h1.1) iI))
theorem pz {t : Tm} (h : iZ t = true) : dG (dx t) := tm_neat _ t (Nat.le_refl _) h
end Go.Proofs.YtbmglebipepdmaaGreatDoor
namespace Go.Proofs.YtbmglebipepdmaaGreatDoor
theorem j5 {x : ByteArray} (h : x.size = 0) : x = bs [] := by
 rw [← dS x]
 have : x.data.toList.length = 0 := by simpa using h
 rw [List.length_eq_zero_iff.1 this]
end Go.Proofs.YtbmglebipepdmaaGreatDoor
namespace Go.Proofs.YtbmglebipepdmaaGreatDoor
def nameP (x : ByteArray) : List Pc := [.word x.data.toList]
def iy (l : List ByteArray) : List Pc := kL (l.map nameP) qV
def jV (w : List UInt8) (l : List ByteArray) : List Pc := [.word w, .gap [32], .sym 123, .gap [32]] ++ (iy l ++ [.gap [32], .sym 125])
def Fs (f : Ft) : List Pc :=
 if f.ay.length = 0 then jV [99, 114, 97, 115, 104] f.ak
 else if f.ak.length = 0 then jV [98, 121, 122] f.ay
 else jV [98, 121, 122] f.ay ++ (.gap [32] :: jV [99, 114, 97, 115, 104] f.ak)
def ftP (f : Ft) : List Pc :=
 if f.op = 1 then [.word [110, 111, 110, 101]]
 else if f.op = 2 then [.word [116, 104, 114, 101, 115, 104, 111, 108, 100], .gap [32], .int f.byz, .gap [32], .int f.je]
 else if f.op = 4 then [.word [115, 105, 116, 101], .gap [32], .word f.name.data.toList, .gap [32], .word [98, 121, 122]]
 else if f.op = 5 then [.word [115, 105, 116, 101], .gap [32], .word f.name.data.toList, .gap [32], .word [99, 114, 97, 115, 104]]
 else if f.op = 3 then Fs f
 else [.word f.name.data.toList]
def dcP (d : Dc) : List Pc :=
 if d.kind = 1 then [.word [115, 105, 116, 101], .gap [32], .word d.name.data.toList, .gap [32], .sym 123, .gap [32]] ++ (iy d.names ++ [.gap [32], .sym 125, .sym 59])
 else if d.kind = 2 then [.word [102, 97, 117, 108, 116, 115], .gap [32], .word d.name.data.toList, .gap [32], .sym 61, .gap [32]] ++ (kL (d.faults.map ftP) rM ++ [.sym 59])
 else if d.kind = 3 then [.word [113, 117, 111, 114, 117, 109], .gap [32], .word d.name.data.toList, .gap [32], .sym 61, .gap [32]] ++ (dx d.term ++ [.sym 59])
 else if d.kind = 4 then [.word [99, 111, 110, 102, 105, 103], .gap [32], .word d.name.data.toList, .gap [32], .word d.proto.data.toList, .gap [32], .word [114, 101, 97, 100], .gap [32]] ++ (dx d.read ++ (.gap [32] :: .word [119, 114, 105, 116, 101] :: .gap [32] :: (dx d.write ++ [.gap [32], .word [102, 97, 117, 108, 116, 115], .gap [32], .word d.use.data.toList, .sym 59])))
 else if d.kind = 5 then [.word [119, 105, 116, 110, 101, 115, 115], .gap [32]] ++ (iy d.names ++ [.sym 59])
 else if d.kind = 7 then [.word [99, 104, 97, 105, 110], .gap [32]] ++ (iy d.names ++ [.sym 59])
 else if d.use.size = 0 then [.word [99, 108, 105, 101, 110, 116], .gap [32], .word d.name.data.toList, .sym 59]
 else [.word [99, 108, 105, 101, 110, 116], .gap [32], .word d.name.data.toList, .gap [32], .word [102, 97, 117, 108, 116, 115], .gap [32], .word d.use.data.toList, .sym 59]
def rA (l : List Dc) : List Pc := l.flatMap fun d => dcP d ++ [.gap [10]]

theorem qJ (l : List ByteArray) : bytesOf (iy l) = dV l := by
 unfold iy dV joined
 rw [ql]
 have e : (l.map nameP).map bytesOf = lst l := by
  unfold lst
  rw [List.map_map]
  refine List.map_congr_left fun x _ => ?_
  simp [nameP, bytesOf, Pc.bytes]
 rw [e]; rfl
theorem oM (w : List UInt8) (l : List ByteArray) : bytesOf (jV w l) = mH w l := by
 unfold jV mH
 rw [aV, aV, qJ]
 simp [bytesOf, Pc.bytes]
theorem ft_bytes {f : Ft} (h : jG f = true) : bytesOf (ftP f) = iB f := by
 unfold ftP iB
 split
 ·rfl
 split
 ·simp [bytesOf, Pc.bytes]
 split
 ·simp [bytesOf, Pc.bytes]
 split
 ·simp [bytesOf, Pc.bytes]
 split
 ·rename_i h1 h2 h4 h5 h3
  have hn : 0 < f.ay.length + f.ak.length := by
   unfold jG at h
   rw [if_neg h1, if_neg h2, if_pos h3] at h
   simp only [Bool.and_eq_true, jD, decide_eq_true_eq] at h
   exact h.1.1.2
  unfold Fs qE
  by_cases hb : f.ay.length = 0
  ·have hc : f.ak.length ≠ 0 := by omega
   rw [if_pos hb, if_pos hb, if_neg hc, oM, List.nil_append, Lib.join_one]
  ·rw [if_neg hb, if_neg hb]
   by_cases hc : f.ak.length = 0
   ·rw [if_pos hc, if_pos hc, oM, List.append_nil, Lib.join_one]
   ·rw [if_neg hc, if_neg hc, aV, mF, oM, oM, List.singleton_append, Lib.join_cons]
    simp [Lib.joinTail, Pc.bytes]
 ·simp [bytesOf, Pc.bytes]
theorem dc_bytes {d : Dc} (h : d.faults.all jG = true) : bytesOf (dcP d) = fP d := by
 unfold dcP fP
 split
 ·rw [aV, aV, qJ]; simp [bytesOf, Pc.bytes]
 split
 ·rw [aV, aV, ql, List.map_map]
  have e : d.faults.map (bytesOf ∘ ftP) = d.faults.map iB := List.map_congr_left fun f hf => ft_bytes (List.all_eq_true.1 h f hf)
  rw [e]; simp [bytesOf, Pc.bytes, rM]
 split
 ·rw [aV, aV, uj]; simp [bytesOf, Pc.bytes]
 split
 ·simp only [aV, mF, uS, uj]; simp [Pc.bytes]
 split
 ·rw [aV, aV, qJ]; simp [bytesOf, Pc.bytes]
 split
 ·rw [aV, aV, qJ]; simp [bytesOf, Pc.bytes]
 split
 ·simp [bytesOf, Pc.bytes]
 ·simp [bytesOf, Pc.bytes]

theorem uG {l : List ByteArray} (h : bg l = true) : ∀ x ∈ l, bG x = true := List.all_eq_true.1 h
theorem sP {l : List ByteArray} (h : bg l = true) : dG (iy l) := by
 refine rQ GI _ fun x hx => ?_
 obtain ⟨y, hy, rfl⟩ := List.mem_map.1 hx
 exact mr (cO (uG h y hy))
theorem qR {w : List UInt8} {l : List ByteArray} (hw : dR w = true) (h : bg l = true) : dG (jV w l) :=
 dG.gJ hw (dG.gap (dG.sym (dG.gap ((sP h).CR (dG.gap iI)))))
theorem ft_ok {f : Ft} (h : jG f = true) : (f.op = 1 ∧ f = ⟨1, bs [], 0, 0, [], []⟩) ∨ (f.op = 2 ∧ small f.byz = true ∧ small f.je = true ∧ f = ⟨2, bs [], f.byz, f.je, [], []⟩) ∨
  (f.op = 3 ∧ 0 < f.ay.length + f.ak.length ∧ bg f.ay = true ∧ bg f.ak = true ∧ f = ⟨3, bs [], 0, 0, f.ay, f.ak⟩) ∨
  ((f.op = 4 ∨ f.op = 5 ∨ f.op = 6) ∧ bG f.name = true ∧ f = ⟨f.op, f.name, 0, 0, [], []⟩) := by
 obtain ⟨op, nm, x, y, bl, cl⟩ := f
 unfold jG at h
 simp only at h
 have named : ∀ (o : Int), jD ⟨o, nm, x, y, bl, cl⟩ = false → bl = [] ∧ cl = [] := by
  intro o ho
  have : ¬ 0 < bl.length + cl.length := of_decide_eq_false ho
  exact ⟨List.length_eq_zero_iff.1 (by omega), List.length_eq_zero_iff.1 (by omega)⟩
 have numbered : ∀ (o : Int), gQ ⟨o, nm, x, y, bl, cl⟩ = false → x = 0 ∧ y = 0 := by
  intro o ho
  have : (!decide (x = 0) || !decide (y = 0)) = false := ho
  simpa using this
 split at h
 ·rename_i h1
  subst h1
  simp only [Bool.and_eq_true, decide_eq_true_eq, Bool.not_eq_true'] at h
  obtain ⟨rfl, rfl⟩ := named _ h.2
  obtain ⟨rfl, rfl⟩ := numbered _ h.1.2
  exact Or.inl ⟨rfl, by rw [j5 h.1.1]⟩
 split at h
 ·rename_i h1
  subst h1
  simp only [Bool.and_eq_true, decide_eq_true_eq, Bool.not_eq_true'] at h
  obtain ⟨rfl, rfl⟩ := named _ h.2
  exact Or.inr (Or.inl ⟨rfl, h.1.1.2, h.1.2, by rw [j5 h.1.1.1]⟩)
 split at h
 ·rename_i h1
  subst h1
  simp only [Bool.and_eq_true, decide_eq_true_eq, Bool.not_eq_true'] at h
  obtain ⟨rfl, rfl⟩ := numbered _ h.1.1.1.2
  exact Or.inr (Or.inr (Or.inl ⟨rfl, of_decide_eq_true h.1.1.2, h.1.2, h.2, by rw [j5 h.1.1.1.1]⟩))
 split at h
 ·rename_i h1
  simp only [Bool.and_eq_true, Bool.not_eq_true'] at h
  obtain ⟨rfl, rfl⟩ := named _ h.2
  obtain ⟨rfl, rfl⟩ := numbered _ h.1.2
  exact Or.inr (Or.inr (Or.inr ⟨h1, h.1.1, rfl⟩))
 ·cases h
theorem sets_neat {f : Ft} (h1 : bg f.ay = true) (h2 : bg f.ak = true) : dG (Fs f) := by
 unfold Fs
 split
 ·exact qR (by decide) h2
 split
 ·exact qR (by decide) h1
 ·exact (qR (by decide) h1).CR (dG.gap (qR (by decide) h2))
theorem ft_neat {f : Ft} (h : jG f = true) : dG (ftP f) := by
 rcases ft_ok h with ⟨h1, -⟩ | ⟨h1, h2, h3, -⟩ | ⟨h1, -, h3, h4, -⟩ | ⟨h1, h2, -⟩
 ·unfold ftP; rw [if_pos h1]; exact mr (by decide)
 ·unfold ftP; rw [if_neg (by omega), if_pos h1]
  exact dG.gJ (by decide) (dG.gap (dG.intGap h2 (dG.gap (yL h3))))
 ·unfold ftP; rw [if_neg (by omega), if_neg (by omega), if_neg (by omega), if_neg (by omega), if_pos h1]
  exact sets_neat h3 h4
 ·unfold ftP
  rcases h1 with h1 | h1 | h1
  ·rw [if_neg (by omega), if_neg (by omega), if_pos h1]
   exact dG.gJ (by decide) (dG.gap (dG.gJ (cO h2) (dG.gap (mr (by decide)))))
  ·rw [if_neg (by omega), if_neg (by omega), if_neg (by omega), if_pos h1]
   exact dG.gJ (by decide) (dG.gap (dG.gJ (cO h2) (dG.gap (mr (by decide)))))
  ·rw [if_neg (by omega), if_neg (by omega), if_neg (by omega), if_neg (by omega), if_neg (by omega)]
   exact mr (cO h2)
theorem dc_neat {d : Dc} (h0 : jK d = true) : dG (dcP d) := by
 have h := wO h0
 unfold dcP
 rcases sj h with hk | hk | hk | hk | hk | hk | hk
 ·rw [if_pos hk]
  have hn := dY h (by rw [hk]; rfl)
  exact dG.gJ (by decide) (dG.gap (dG.gJ (cO hn) (dG.gap (dG.sym (dG.gap ((sP h.names).CR (dG.gap (dG.sym iI))))))))
 ·rw [if_neg (by omega), if_pos hk]
  have hn := dY h (by rw [hk]; rfl)
  refine dG.gJ (by decide) (dG.gap (dG.gJ (cO hn) (dG.gap (dG.sym (dG.gap (dG.yo (rQ JX _ fun x hx => ?_) iI))))))
  obtain ⟨f, hf, rfl⟩ := List.mem_map.1 hx
  exact ft_neat (List.all_eq_true.1 h.faults f hf)
 ·rw [if_neg (by omega), if_neg (by omega), if_pos hk]
  have hn := dY h (by rw [hk]; rfl)
  have ht : iZ d.term = true := by have := h.term; rw [hk] at this; exact this
  exact dG.gJ (by decide) (dG.gap (dG.gJ (cO hn) (dG.gap (dG.sym (dG.gap ((pz ht).yo iI))))))
 ·rw [if_neg (by omega), if_neg (by omega), if_neg (by omega), if_pos hk]
  have hn := dY h (by rw [hk]; rfl)
  obtain ⟨hp, hr, hw, hu⟩ := xK h (by rw [hk]; rfl)
  exact dG.gJ (by decide) (dG.gap (dG.gJ (cO hn) (dG.gap (dG.gJ (vF hp) (dG.gap (dG.gJ (by decide) (dG.gap
   ((pz hr).CR (dG.gap (dG.gJ (by decide) (dG.gap ((pz hw).CR (dG.gap (dG.gJ (by decide) (dG.gap (dG.oP (cO hu) iI))))))))))))))))
 ·rw [if_neg (by omega), if_neg (by omega), if_neg (by omega), if_neg (by omega), if_pos hk]
  exact dG.gJ (by decide) (dG.gap ((sP h.names).yo iI))
 ·rw [if_neg (by omega), if_neg (by omega), if_neg (by omega), if_neg (by omega), if_neg (by omega), if_neg (by omega)]
  have hn := dY h (by rw [hk]; rfl)
  split
  ·exact dG.gJ (by decide) (dG.gap (dG.oP (cO hn) iI))
  ·rename_i hu
   have hu2 : bG d.use = true := by
     rcases h.use with h | h
     ·exact absurd h hu
     ·exact h
   exact dG.gJ (by decide) (dG.gap (dG.gJ (cO hn) (dG.gap (dG.gJ (by decide) (dG.gap (dG.oP (cO hu2) iI))))))
 ·rw [if_neg (by omega), if_neg (by omega), if_neg (by omega), if_neg (by omega), if_neg (by omega), if_pos hk]
  exact dG.gJ (by decide) (dG.gap ((sP h.names).yo iI))
theorem wN {l : List Dc} (h : l.all jK = true) : bytesOf (rA l) = dm l := by
 unfold rA dm
 induction l with
 |nil => rfl
 |cons d r ih =>
  rw [List.all_cons, Bool.and_eq_true] at h
  rw [List.flatMap_cons, List.flatMap_cons, aV, aV, ih h.2, dc_bytes (wO h.1).faults]; rfl
theorem En {l : List Dc} (h : l.all jK = true) : dG (rA l) := by
 unfold rA
 induction l with
 |nil => exact .nil
 |cons d r ih =>
  rw [List.all_cons, Bool.and_eq_true] at h
  rw [List.flatMap_cons]
  refine dG.behind ((dc_neat h.1).CR neat_line) (ih h.2) ?_
  have : ∀ (l : List Pc) b, ends b (l ++ [.gap [10]]) = false := by
   intro l
   induction l with
   |nil => intro b; rfl
   |cons x r ih => intro b; exact ih _
  exact this _ _
end Go.Proofs.YtbmglebipepdmaaGreatDoor
namespace Go.Proofs.YtbmglebipepdmaaGreatDoor
end Go.Proofs.YtbmglebipepdmaaGreatDoor
namespace Go.Proofs.YtbmglebipepdmaaGreatDoor
end Go.Proofs.YtbmglebipepdmaaGreatDoor
namespace Go.Proofs.YtbmglebipepdmaaGreatDoor
theorem ba_beq (a b : ByteArray) : (a == b) = decide (a = b) := by rw [Bool.eq_iff_iff, eF, decide_eq_true_iff]
def fK (c : Bool) (d : Dc) : Bool := decide (d.kind = 2) || decide (d.kind = 3) || (decide (d.kind = 4) && c)
def fZ (l : List Dc) : List ByteArray := l.flatMap fun d => if fK (dw l) d = true ∧ tyUses l d.name = [] then [d.name] else []

end Go.Proofs.YtbmglebipepdmaaGreatDoor
namespace Go.Proofs.YtbmglebipepdmaaGreatDoor
theorem zm {l : List Dc} (h : l.all jK = true) : nL (dm l) = (decide ((dm l).length ≤ 65536) && decide ((aK (rA l)).length ≤ 3000)) := by
 have hn := En h
 obtain ⟨L, h1, h2⟩ := DU (rA l) false hn.1 hn.2 1 []
 have hll : L.length = (aK (rA l)).length := by rw [← List.length_map (f := (·.1)), h2]
 rw [wN h, List.nil_append] at h1
 unfold nL
 rw [h1, ← hll]
 simp
theorem nR {l : List Dc} (h : (bH l).2 = 0) : l.all jK = true ∧ (dm l).length ≤ 65536 ∧ (aK (rA l)).length ≤ 3000 := by
 unfold bH at h
 by_cases ho : l.all jK = true
 ·rw [if_pos ho] at h
  unfold iK at h
  by_cases hs : nL (dm l) = true
  ·rw [zm ho] at hs
   simp only [Bool.and_eq_true, decide_eq_true_eq] at hs
   exact ⟨ho, hs⟩
  ·rw [if_neg hs] at h; simp at h
 ·rw [if_neg ho] at h; simp at h
theorem F6 {l : List Dc} (h : l.all jK = true) (h1 : (dm l).length ≤ 65536) (h2 : (aK (rA l)).length ≤ 3000) : (bH l).2 = 0 := by
 unfold bH
 rw [if_pos h]
 unfold iK
 rw [if_pos (by rw [zm h]; simp only [Bool.and_eq_true, decide_eq_true_eq]; exact ⟨h1, h2⟩)]
end Go.Proofs.YtbmglebipepdmaaGreatDoor
namespace Go.Proofs.YtbmglebipepdmaaGreatDoor
mutual
def dL (ρ : ByteArray → ByteArray) : Tm → Tm
 |.mk op name nd ws kids => .mk op (ρ name) nd ws (vk ρ kids)
def vk (ρ : ByteArray → ByteArray) : List Tm → List Tm
 |[] => []
 |t :: r => dL ρ t :: vk ρ r
end
theorem jJ (ρ : ByteArray → ByteArray) (l : List Tm) : vk ρ l = l.map (dL ρ) := by
 induction l with
 |nil => rfl
 |cons t r ih => rw [vk, ih]; rfl
def pW (ρ : ByteArray → ByteArray) (f : Ft) : Ft := ⟨f.op, ρ f.name, f.byz, f.je, f.ay.map ρ, f.ak.map ρ⟩
def iO (ρ : ByteArray → ByteArray) (d : Dc) : Dc := ⟨d.kind, d.line, ρ d.name, d.names.map ρ, d.faults.map (pW ρ), dL ρ d.term, d.proto, dL ρ d.read, dL ρ d.write, ρ d.use⟩

section
variable {ρ : ByteArray → ByteArray} {Y : ByteArray → Prop} {t t' : List (ByteArray × Int)}
theorem Ah {y : ByteArray} (h : dZ t' (ρ y) = dZ t y) (ks : List Int) : isE t' (ρ y) ks = isE t y ks := by unfold isE; rw [h]
theorem KR (f : Tm → Tm) (ns : Nat) (l : List Tm) (h : ∀ k ∈ l, jA t' ns (f k) = jA t ns k) : kG t' ns (l.map f) = kG t ns l := by
 induction l with
 |nil => rfl
 |cons x r ih => rw [List.map_cons, kG, kG, h x (by simp), ih fun k hk => h k (by simp [hk])]
theorem termE_map (hk : ∀ y, Y y → dZ t' (ρ y) = dZ t y) (h0 : ∀ y, y.size = 0 → Y y) (hsv : ∀ y, ρ y = (⟨#[115, 101, 114, 118, 101, 114, 115]⟩ : ByteArray) ↔ y = (⟨#[115, 101, 114, 118, 101, 114, 115]⟩ : ByteArray)) (ns : Nat) :
  ∀ (n : Nat) (x : Tm), au x ≤ n → (∀ y ∈ bB x, Y y) → jA t' ns (dL ρ x) = jA t ns x := by
 intro n
 induction n with
 |zero =>
   intro t ht; have : 0 < au t := by (cases t; rw [au]; omega)
   omega
 |succ n ih =>
  intro x hx hY
  cases x with
  |mk op nm nd ws ks =>
   have hs : au (.mk op nm nd ws ks) = 1 + nm.size + ws.length + aX ks := rfl
   have hn : Y nm := by
    by_cases h : nm.size = 0
    ·exact h0 nm h
    ·exact hY nm (by rw [bB, if_neg h]; simp)
   have ho : Iy t' ns op (ρ nm) nd ws ks.length = Iy t ns op nm nd ws ks.length := by
    unfold Iy
    rw [Ah (hk nm hn), Ah (hk nm hn)]
    simp only [hsv nm]
   have hks : kG t' ns (ks.map (dL ρ)) = kG t ns ks := KR _ ns ks fun k hk2 => ih k (by have := bI hk2; omega) fun y hy => hY y (by
    rw [bB, gK, List.mem_append]
    exact Or.inr (List.mem_flatMap.2 ⟨k, hk2, hy⟩))
   rw [dL, jJ, jA, jA, List.length_map, ho, hks]
theorem Aw (hk : ∀ y, Y y → dZ t' (ρ y) = dZ t y) (hi : ∀ a b, ρ a = ρ b ↔ a = b) (k : Int) : ∀ (l seen : List ByteArray), (∀ y ∈ l, Y y) → kM t' k (seen.map ρ) (l.map ρ) = kM t k seen l := by
 intro l
 induction l with
 |nil => intro seen _; rfl
 |cons x r ih =>
  intro seen hY
  have hc : (seen.map ρ).contains (ρ x) = seen.contains x := by
   rw [Bool.eq_iff_iff, nZ, nZ, List.mem_map]
   constructor
   ·rintro ⟨y, hy, e⟩; rw [hi] at e; exact e ▸ hy
   ·intro h; exact ⟨x, h, rfl⟩
  have := ih (seen ++ [x]) fun y hy => hY y (by simp [hy])
  rw [List.map_append, List.map_singleton] at this
  rw [List.map_cons, kM, kM, Ah (hk x (hY x (by simp))), hc, this]
theorem Mi (hk : ∀ y, Y y → dZ t' (ρ y) = dZ t y) (hi : ∀ a b, ρ a = ρ b ↔ a = b) (ns : Nat) (f : Ft) (hY : ∀ y ∈ f.ay ++ f.ak ++ [f.name], Y y) : nU t' ns (pW ρ f) = nU t ns f := by
 have hn : Y f.name := hY _ (by simp)
 have he := Aw (t := t) (t' := t') hk hi 2 (f.ay ++ f.ak) [] (fun y hy => hY y (by rw [List.mem_append]; exact Or.inl hy))
 rw [List.map_nil, List.map_append] at he
 unfold nU pW
 simp only [Ah (hk _ hn), he]
theorem I9 (hk : ∀ y, Y y → dZ t' (ρ y) = dZ t y) (hi : ∀ a b, ρ a = ρ b ↔ a = b) (ns : Nat) (l : List Ft) (hY : ∀ f ∈ l, ∀ y ∈ f.ay ++ f.ak ++ [f.name], Y y) : jT t' ns (l.map (pW ρ)) = jT t ns l := by
 induction l with
 |nil => rfl
 |cons f r ih => rw [List.map_cons, jT, jT, Mi hk hi ns f (hY f (by simp)), ih fun g hg => hY g (by simp [hg])]
theorem siteE_map (hk : ∀ y, Y y → dZ t' (ρ y) = dZ t y) (hi : ∀ a b, ρ a = ρ b ↔ a = b) (ns : Nat) (nm : ByteArray) : ∀ (l pre : List ByteArray), (∀ y ∈ l, Y y) → rG t' ns (ρ nm) (pre.map ρ) (l.map ρ) = rG t ns nm pre l := by
 intro l
 induction l with
 |nil => intro pre _; rfl
 |cons x r ih =>
  intro pre hY
  have hc : (pre.map ρ).contains (ρ x) = pre.contains x := by
   rw [Bool.eq_iff_iff, nZ, nZ, List.mem_map]
   constructor
   ·rintro ⟨y, hy, e⟩; rw [hi] at e; exact e ▸ hy
   ·intro h; exact ⟨x, h, rfl⟩
  have := ih (pre ++ [x]) fun y hy => hY y (by simp [hy])
  rw [List.map_append, List.map_singleton] at this
  rw [List.map_cons, rG, rG, hk x (hY x (by simp)), hc, this, List.length_map]
  simp only [hi x nm]
end
def nJ (d : Dc) : List ByteArray := d.name :: d.names ++ fq d
theorem Gr {ρ : ByteArray → ByteArray} {Y : ByteArray → Prop} {l l' : List Dc} (h : Maps ρ Y l l') (h0 : ∀ y, y.size = 0 → Y y) (hsv : ∀ y, ρ y = (⟨#[115, 101, 114, 118, 101, 114, 115]⟩ : ByteArray) ↔ y = (⟨#[115, 101, 114, 118, 101, 114, 115]⟩ : ByteArray)) (hi : ∀ a b, ρ a = ρ b ↔ a = b) (hz : ∀ y, (ρ y).size = 0 ↔ y.size = 0)
  (d : Dc) (hY : ∀ y ∈ nJ d, Y y) (ho : d.kind = 1 → dA l' = dA l) (h4 : d.kind = 4 → (6 ≤ eT 4 l' ↔ 6 ≤ eT 4 l)) (h6 : d.kind = 6 → (6 ≤ eT 6 l' ↔ 6 ≤ eT 6 l)) :
  jv l' (iO ρ d) = jv l d := by
 have hu : ∀ y ∈ fq d, Y y := fun y hy => hY y (by unfold nJ; simp [hy])
 have hnm : Y d.name := hY _ (by unfold nJ; simp)
 have hns : ∀ y ∈ d.names, Y y := fun y hy => hY y (by unfold nJ; simp [hy])
 have hus : Y d.use := hu _ (by unfold fq; simp)
 have hT : ∀ (x : Tm), (∀ y ∈ bB x, y ∈ fq d) → jA (tab l') (aN l') (dL ρ x) = jA (tab l) (aN l) x := fun x hx => by
  rw [h.servers]; exact termE_map h.kinds h0 hsv _ _ x (Nat.le_refl _) fun y hy => hu y (hx y hy)
 have ht := hT d.term fun y hy => by unfold fq; simp [hy]
 have hr := hT d.read fun y hy => by unfold fq; simp [hy]
 have hw := hT d.write fun y hy => by unfold fq; simp [hy]
 have hf : jT (tab l') (aN l') (d.faults.map (pW ρ)) = jT (tab l) (aN l) d.faults := by
  rw [h.servers]
  exact I9 h.kinds hi _ _ fun f hf y hy => hu y (by unfold fq; simp only [List.mem_append]; exact Or.inl (Or.inr (List.mem_flatMap.2 ⟨f, hf, hy⟩)))
 have hs : rG (tab l') (aN l') (ρ d.name) [] (d.names.map ρ) = rG (tab l) (aN l) d.name [] d.names := by
  rw [h.servers]
  have := siteE_map (t := tab l) (t' := tab l') h.kinds hi (aN l) d.name d.names [] hns
  exact this
 have he5 : kM (tab l') 2 (dO 5 l') (d.names.map ρ) = kM (tab l) 2 (dO 5 l) d.names := by rw [h.seen]; exact Aw h.kinds hi 2 _ _ hns
 have he7 : kM (tab l') 5 [] (d.names.map ρ) = kM (tab l) 5 [] d.names := Aw (t := tab l) (t' := tab l') h.kinds hi 5 d.names [] hns
 have hkn := h.kinds _ hnm
 have hiu := Ah (h.kinds _ hus) [3]
 have hbu := h.byz _ hus
 have hzu := hz d.use
 have hch := h.chain
 obtain ⟨kind, line, name, names, faults, term, proto, read, write, use⟩ := d
 simp only at *
 unfold jv iO
 simp only
 rw [hkn, hs, hf, ht, hr, hw, hiu, hbu, he5, he7, hch]
 by_cases k1 : kind = 1
 ·rw [ho k1]; simp only [k1]; simp
 ·by_cases k4 : kind = 4
  ·simp only [h4 k4, k4]; simp
  ·by_cases k6 : kind = 6
   ·simp only [h6 k6, k6, hzu]; simp
   ·simp only [k1, k4, k6, false_and, if_false]
end Go.Proofs.YtbmglebipepdmaaGreatDoor
namespace Go.Proofs.YtbmglebipepdmaaGreatDoor
section
variable {x : ByteArray} {m : List Dc}
end
end Go.Proofs.YtbmglebipepdmaaGreatDoor
namespace Go.Proofs.YtbmglebipepdmaaGreatDoor
end Go.Proofs.YtbmglebipepdmaaGreatDoor
namespace Go.Proofs.YtbmglebipepdmaaGreatDoor
open Go.RowKit
section
variable {w w' : World} {B B' size n : Nat} {A : Option Addr} {xs : List Value}
end
section
variable {P : Program}
end
end Go.Proofs.YtbmglebipepdmaaGreatDoor
namespace Go.Proofs.YtbmglebipepdmaaGreatDoor
open Go.RowKit
section
variable {w w' : World} {S S' : Nat → Prop} {size n : Nat} {A : Option Addr} {xs : List Value}
end
end Go.Proofs.YtbmglebipepdmaaGreatDoor
namespace Go.Proofs.YtbmglebipepdmaaGreatDoor
open Go.RowKit
end Go.Proofs.YtbmglebipepdmaaGreatDoor
namespace Go.Proofs.YtbmglebipepdmaaGreatDoor
open Go.RowKit
section
variable {α : Type} {P : World → (Nat → Prop) → α → Value → Prop} {w w' : World} {S S' : Nat → Prop} {base e size : Nat} {v : Value} {acc : List α}
end
theorem K7 (w : World) {ops : Array Oper} {rest : List Oper} {o : Oper} {a : Act} {Q : Exit → Act → World → Prop} (hgd : o.guard = none) (s x : Operand)
  (ho : o.op = .call { callee := .builtin .append, args := #[s, x], argTypes := #[35, 35] })
  (base : Nat) (v : Value) (n : Nat) (xs : List Value) (hown : w.ownsRow base 82 6 v n xs) (hs : a.eval s = v)
  (op : Int) (nm : ByteArray) (by_ cr : Int) (bA : Option Addr) (bn bc : Nat) (cA : Option Addr) (cn cc : Nat) (hx : a.eval x = .slice (some ⟨w.heap.size, 0, none⟩) 1 1)
  (hlim : n ≤ 100000000000) (hbase : base ≤ w.heap.size)
  (h : ∀ v' w', w'.ownsRow base 82 6 v' (n + 1) (xs ++ [.int .i64 op, .string nm, .int .i64 by_, .int .i64 cr, .slice bA bn bc, .slice cA cn cc]) → w.grownBy w' v.ownBlock → (v'.ownBlock = v.ownBlock ∨ v'.ownBlock = some (w.heap.size + 1)) → wpList Tryz.prog ops Q rest (a.put o.dst v') w') :
  wpList Tryz.prog ops Q (o :: rest) a (w.alloc (.cells #[.int .i64 op, .string nm, .int .i64 by_, .int .i64 cr, .slice bA bn bc, .slice cA cn cc] 82)) := by
 obtain ⟨i0, hi, hz0, hz1, hz2⟩ := info_parts Cb
 exact iq w hgd s x _ ho base 82 i0 _ 6 88 Tryz.underlying35 hi hz0 hz1 hz2 rfl (by decide) v n xs hown hs [.int .i64 op, .string nm, .int .i64 by_, .int .i64 cr, .slice bA bn bc, .slice cA cn cc] hx rfl (by simp [Value.oneCell']) (by omega) (by omega) hbase h

end Go.Proofs.YtbmglebipepdmaaGreatDoor
namespace Go.Proofs.YtbmglebipepdmaaGreatDoor
open Go.Maps (Keyed)
open Go.RowKit
section
variable {P : Program} {w w' : World} {k t e : TypeId} {b n : Nat} {f : ByteArray → Option Value}
end
section
variable {P : Program} (w : World) {ops : Array Oper} {rest : List Oper} {o : Oper} {a : Act} {Q : Exit → Act → World → Prop} {K : Act → World → Prop} {E : Prop}
end
end Go.Proofs.YtbmglebipepdmaaGreatDoor
namespace Go.Proofs.YtbmglebipepdmaaGreatDoor
open Go.Maps (Keyed)
open Go.RowKit
section
variable {P : Program} {w w' : World} {k t e : TypeId} {b n : Nat} {f : Int → Option Value}
end
section
variable {P : Program} (w : World) {ops : Array Oper} {rest : List Oper} {o : Oper} {a : Act} {Q : Exit → Act → World → Prop} {K : Act → World → Prop} {E : Prop}
end
end Go.Proofs.YtbmglebipepdmaaGreatDoor
namespace Go.Proofs.YtbmglebipepdmaaGreatDoor
open Go.RowKit
section
variable {P : Program} {w w' : World} {k : TypeId} {b n : Nat} {f : ByteArray → Option Value}
end
section
variable {P : Program} {ty : TypeId} {w w' : World} {S : Nat → Prop} {b kb db wb cb zb n zn : Nat} {t : Tab} {ns nc nl : Nat} {oth chn : Bool} {W C : List ByteArray} {Z : ByteArray → Option Bool}
end
section
variable {P : Program} {ty : TypeId} {w w1 w2 : World} {S : Nat → Prop} {b kb db wb cb zb n zn : Nat} {t : Tab} {ns nc nl : Nat} {oth chn : Bool} {W C : List ByteArray} {Z : ByteArray → Option Bool}
end
end Go.Proofs.YtbmglebipepdmaaGreatDoor
namespace Go.Proofs.YtbmglebipepdmaaGreatDoor
section
variable {P : Program} {ops : Array Oper} {Q : Exit → Act → World → Prop} {md : Region.Mode} {S S' : World → Prop} {Z : List Nat} {i : Nat} {l : List Nat} {oi : Oper} {fuel : Nat} {listed : Array Bool} {a : Act} {w : World}
end
end Go.Proofs.YtbmglebipepdmaaGreatDoor
namespace Go.Proofs.YtbmglebipepdmaaGreatDoor
open Go.RowKit
set_option maxRecDepth 100000 in
set_option maxHeartbeats 8000000 in
theorem IG (t : Tm) (ih : ∀ k ∈ t.kids, NmOk 90 k) : NmOk 90 t := by
 intro v w S hv hS hsz
 have hss := dU t
 cases hv with
 |mk op nm need ws kids wA kA cw kc vs hw hwc hk hkc hl h =>
 have hss : au (.mk op nm need ws kids) = 1 + nm.size + ws.length + aX kids := hss
 have hkl := jI kids
 have HSZ := Lib.hid (show aX kids ≤ 1000000000 by omega)
 have IH := Lib.hid (show ∀ k ∈ kids, NmOk 90 k from ih)
 have HL := Lib.hid (show aT (eG w S) w S 5 kA kids from ⟨vs, hl, hk, h⟩)
 have hkb : kids.length ≤ 1000000000 := by omega
 clear ih hw hk hl h hss hsz
 rw [BA]
 obtain ⟨w0, hw0⟩ : ∃ w0 : World, w0 = w.alloc (.cells #[.int .i64 op, .string nm, .int .i64 need, .slice wA ws.length cw, .slice kA kids.length kc] 39) := ⟨_, rfl⟩
 have hb0 : Below w.heap.size w w0 := by rw [hw0]; exact (Below.refl _ _).alloc (Nat.le_refl _) _
 have hz0 : w0.heap.size = w.heap.size + 1 := by rw [hw0]; simp
 have hr0 : w0.heap[w.heap.size]? = some (.cells #[.int .i64 op, .string nm, .int .i64 need, .slice wA ws.length cw, .slice kA kids.length kc] 39 (0, 0)) := by rw [hw0]; exact heap_alloc_new w _
 have hlt0 : w.heap.size + 1 ≤ w0.heap.size := by omega
 have HW0 := Lib.hid hw0
 have HZ0 := Lib.hid hz0
 have HR0 := Lib.hid hr0
 obtain ⟨c0, c1, c2, c3, c4, -⟩ := jF hr0
 clear hw0 hz0 hr0
 by_cases hn0 : nm.size = 0
 ·obtain rfl : nm = ⟨#[]⟩ := by
   obtain ⟨⟨l⟩⟩ := nm
   have : l = [] := List.eq_nil_of_length_eq_zero (by simpa [ByteArray.size] using hn0)
   rw [this]
  have HE := Lib.hid (show ownName ⟨#[]⟩ = [] from rfl)
  clear hn0
  go_enter Tryz.func90, Tryz.ntmps90
  go_wp2
  rw [← HW0.out]
  go_loopw [3, 4] (fun v x wr => ∃ k : Nat, k ≤ kids.length ∧ x = .int .i64 k ∧ wr.ownsRow (w.heap.size + 1) 9 1 v (ownName ⟨#[]⟩ ++ di (kids.take k)).length (aC (ownName ⟨#[]⟩ ++ di (kids.take k))) ∧ Below (w.heap.size + 1) w0 wr) (fun _ x _ => kids.length - (intOf x).toNat)
  case atStart => exact ⟨0, Nat.zero_le _, rfl, World.ownsRow_nil _ _ _ _, Below.refl _ _⟩
  case round =>
   obtain ⟨k, hk, rfl, hown, hb⟩ := hrel
   have hsr := hb.size
   have hbw : Below w.heap.size w wr := hb0.trans (hb.mono (by omega))
   have hr1 := (hb.block _ (by omega)).trans HR0.out
   obtain ⟨c0, c1, c2, c3, c4, -⟩ := jF hr1
   clear hr1
   by_cases hlt : k < kids.length
   ·have hlr := HL.out.keep (P' := eG wr S) (aA hbw hS) (fun _ _ h => h.keep (aA hbw hS))
    obtain ⟨g, o, op1, nm1, nd1, wA1, wn1, wc1, kA1, kn1, kc1, rfl, hSg, htm, k0, k1, k2, k3, k4, -⟩ := fQ hlr hlt
    have hgs : g < wr.heap.size := World.block_lt_of_cell? wr _ k0
    have hkI : (k : Int) < (kids.length : Int) := by omega
    have hk0 : (0 : Int) ≤ (k : Int) := by omega
    have hmem : kids[k] ∈ kids := List.getElem_mem hlt
    have hts := bI hmem
    have HC := Lib.hid (fun (W : World) (hW : Below wr.heap.size wr W) => IH.out _ hmem _ W S (htm.keep (aP hW)) (fun g hg => by have := hS g hg; have := hbw.size; have := hW.size; omega) (by have := HSZ.out; omega))
    have hsn := mX kids k hlt
    have hln := mW kids (k + 1)
    rw [hsn, List.length_append] at hln
    have hol := sK ⟨#[]⟩
    obtain ⟨ns, hns⟩ : ∃ ns, ns = bB kids[k] := ⟨_, rfl⟩
    rw [← hns] at HC hsn hln
    have HSN := Lib.hid hsn
    have HBZ := Lib.hid HSZ.out
    have hlen2 : (ownName ⟨#[]⟩ ++ di (kids.take k)).length ≤ 1000000001 := by rw [List.length_append]; have := HSZ.out; omega
    have hlen3 : ns.length ≤ 1000000000 := by have := HSZ.out; omega
    clear htm hlr hns hsn hln
    go_wp2_with fail
    refine (HC.out _ (Below.refl _ _)).mono ?_
    rintro e W2 ⟨A2, c2', rfl, hc2, hs2, hb2⟩
    skip
    have hb3 : Below wr.heap.size wr W2 := hb2
    have hown2 := own_below hown hb3 (Nat.le_refl _)
    have hsW := hb3.size
    clear k0 k1 k2 k3 k4 c0 c1 c2 c3 c4 hown hb2 HC
    go_wp2_with (at_builtin; refine jQ W2 rfl (.tmp 20) (.tmp 26) rfl (w.heap.size + 1) _ _ _ hown2 rfl _ A2 ns.length c2' ns rfl rfl hs2 (by omega) (by omega) (by omega) ?_; intro v' W3 hown3 hg3 _)
    have hbl := aM hown2 hg3 (by omega)
    go_roundw
    case rel =>
     refine ⟨k + 1, by omega, by go_num, ?_, hb.trans ((hb3.mono (by omega)).trans hbl)⟩
     rw [HSN.out, ← List.append_assoc, List.length_append (bs := ns), show aC ((ownName ⟨#[]⟩ ++ di (kids.take k)) ++ ns) = aC (ownName ⟨#[]⟩ ++ di (kids.take k)) ++ aC ns by simp [aC]]
     exact hown3
    case measure => simp [intOf]; omega
   ·obtain rfl : k = kids.length := by omega
    rw [List.take_length] at hown
    obtain ⟨A9, c9, rfl, hc9⟩ := aS hown
    have hkI : ¬ (kids.length : Int) < (kids.length : Int) := by omega
    have HO := Lib.hid hown
    clear hown
    go_wp2
    go_ret
    exact ⟨A9, c9, by rw [List.length_append]; rfl, hc9, (aL.own HO.out).mono (fun g hg _ => by omega) (by decide), hbw⟩
 ·have HE := Lib.hid (show ownName nm = [nm] by unfold ownName; rw [if_neg hn0])
  have hne2 := gT (show 0 < nm.size by omega)
  have hne := bP (show 0 < nm.size by omega)
  clear hn0
  go_enter Tryz.func90, Tryz.ntmps90
  go_wp2_with (at_builtin; refine eX _ rfl (.tmp 8) (.tmp 11) rfl (w.heap.size + 1) _ _ _ (World.ownsRow_nil _ _ _ _) rfl nm (by rw [ig]; rfl) (by omega) (by rw [ig]; omega) ?_; intro v' W1 hown1 hg1 _; rw [← HW0.out] at hg1; have hb1 : Below (w.heap.size + 1) w0 W1 := aM (World.ownsRow_nil w0 (w.heap.size + 1) 9 1) hg1 hlt0; obtain ⟨-, -, -, -, d4, -⟩ := jF ((hb1.block _ (by omega)).trans HR0.out))
  go_loopw [3, 4] (fun v x wr => ∃ k : Nat, k ≤ kids.length ∧ x = .int .i64 k ∧ wr.ownsRow (w.heap.size + 1) 9 1 v (ownName nm ++ di (kids.take k)).length (aC (ownName nm ++ di (kids.take k))) ∧ Below (w.heap.size + 1) w0 wr) (fun _ x _ => kids.length - (intOf x).toNat)
  case atStart => exact ⟨0, Nat.zero_le _, rfl, by rw [HE.out]; exact hown1, hb1⟩
  case round =>
   obtain ⟨k, hk, rfl, hown, hb⟩ := hrel
   have hsr := hb.size
   have hbw : Below w.heap.size w wr := hb0.trans (hb.mono (by omega))
   have hr1 := (hb.block _ (by omega)).trans HR0.out
   obtain ⟨c0, c1, c2, c3, c4, -⟩ := jF hr1
   clear hr1
   by_cases hlt : k < kids.length
   ·have hlr := HL.out.keep (P' := eG wr S) (aA hbw hS) (fun _ _ h => h.keep (aA hbw hS))
    obtain ⟨g, o, op1, nm1, nd1, wA1, wn1, wc1, kA1, kn1, kc1, rfl, hSg, htm, k0, k1, k2, k3, k4, -⟩ := fQ hlr hlt
    have hgs : g < wr.heap.size := World.block_lt_of_cell? wr _ k0
    have hkI : (k : Int) < (kids.length : Int) := by omega
    have hk0 : (0 : Int) ≤ (k : Int) := by omega
    have hmem : kids[k] ∈ kids := List.getElem_mem hlt
    have hts := bI hmem
    have HC := Lib.hid (fun (W : World) (hW : Below wr.heap.size wr W) => IH.out _ hmem _ W S (htm.keep (aP hW)) (fun g hg => by have := hS g hg; have := hbw.size; have := hW.size; omega) (by have := HSZ.out; omega))
    have hsn := mX kids k hlt
    have hln := mW kids (k + 1)
    rw [hsn, List.length_append] at hln
    have hol := sK nm
    obtain ⟨ns, hns⟩ : ∃ ns, ns = bB kids[k] := ⟨_, rfl⟩
    rw [← hns] at HC hsn hln
    have HSN := Lib.hid hsn
    have HBZ := Lib.hid HSZ.out
    have hlen2 : (ownName nm ++ di (kids.take k)).length ≤ 1000000001 := by rw [List.length_append]; have := HSZ.out; omega
    have hlen3 : ns.length ≤ 1000000000 := by have := HSZ.out; omega
    clear htm hlr hns hsn hln
    go_wp2_with fail
    refine (HC.out _ (Below.refl _ _)).mono ?_
    rintro e W2 ⟨A2, c2', rfl, hc2, hs2, hb2⟩
    skip
    have hb3 : Below wr.heap.size wr W2 := hb2
    have hown2 := own_below hown hb3 (Nat.le_refl _)
    have hsW := hb3.size
    clear k0 k1 k2 k3 k4 c0 c1 c2 c3 c4 hown hb2 HC
    go_wp2_with (at_builtin; refine jQ W2 rfl (.tmp 20) (.tmp 26) rfl (w.heap.size + 1) _ _ _ hown2 rfl _ A2 ns.length c2' ns rfl rfl hs2 (by omega) (by omega) (by omega) ?_; intro v' W3 hown3 hg3 _)
    have hbl := aM hown2 hg3 (by omega)
    go_roundw
    case rel =>
     refine ⟨k + 1, by omega, by go_num, ?_, hb.trans ((hb3.mono (by omega)).trans hbl)⟩
     rw [HSN.out, ← List.append_assoc, List.length_append (bs := ns), show aC ((ownName nm ++ di (kids.take k)) ++ ns) = aC (ownName nm ++ di (kids.take k)) ++ aC ns by simp [aC]]
     exact hown3
    case measure => simp [intOf]; omega
   ·obtain rfl : k = kids.length := by omega
    rw [List.take_length] at hown
    obtain ⟨A9, c9, rfl, hc9⟩ := aS hown
    have hkI : ¬ (kids.length : Int) < (kids.length : Int) := by omega
    have HO := Lib.hid hown
    clear hown
    go_wp2
    go_ret
    exact ⟨A9, c9, by rw [List.length_append]; rfl, hc9, (aL.own HO.out).mono (fun g hg _ => by omega) (by decide), hbw⟩
theorem zQ (t : Tm) : NmOk 90 t := by
 have : ∀ (n : Nat) (t : Tm), au t ≤ n → NmOk 90 t := by
  intro n
  induction n with
  |zero =>
    intro t ht; have : 0 < au t := by (cases t; rw [au]; omega)
    omega
  |succ n ih => intro t ht; exact IG t (fun k hk => ih k (by have := gI hk; omega))
 exact this _ t (Nat.le_refl _)
end Go.Proofs.YtbmglebipepdmaaGreatDoor
namespace Go.Proofs.YtbmglebipepdmaaGreatDoor
open Go.RowKit
end Go.Proofs.YtbmglebipepdmaaGreatDoor
namespace Go.Proofs
open Go.Shelf
end Go.Proofs
namespace Go.Proofs
open Go.Shelf
end Go.Proofs
namespace Go.Proofs.YtbmglebipepdmaaGreatDoor
theorem dcs_take (l : List Dc) (k : Nat) (h : k < l.length) : dm (l.take (k + 1)) = dm (l.take k) ++ (fP l[k] ++ [10]) := by
 unfold dm
 rw [List.take_succ_eq_append_getElem h, List.flatMap_append]; simp
theorem sum_take (l : List Dc) (k : Nat) : ((l.take k).map bE).sum ≤ (l.map bE).sum := by
 have h := List.take_append_drop k l
 have : (l.map bE).sum = ((l.take k).map bE).sum + ((l.drop k).map bE).sum := by
  rw [← List.sum_append, ← List.map_append, h]
 omega
theorem few_take (l : List Dc) (k : Nat) (h : k < l.length) : ((l.take (k + 1)).map aY).sum = ((l.take k).map aY).sum + aY l[k] := by
 rw [List.take_succ_eq_append_getElem h, List.map_append, List.sum_append]; simp
theorem I7 (l : List Dc) (k : Nat) : ((l.take k).map aY).sum ≤ (l.map aY).sum := by
 have h := List.take_append_drop k l
 have : (l.map aY).sum = ((l.take k).map aY).sum + ((l.drop k).map aY).sum := by
  rw [← List.sum_append, ← List.map_append, h]
 omega
theorem fts_len (l : List Ft) : l.length ≤ (l.map fC).sum := by
 induction l with
 |nil => simp
 |cons f r ih =>
  have c := pV f
  rw [List.map_cons, List.sum_cons, List.length_cons]; omega
theorem few_dc (l : List Dc) : (l.map aY).sum ≤ 10 * (l.map bE).sum := by
 induction l with
 |nil => simp
 |cons d r ih =>
  have n1 := gN d.names
  have n2 := fts_len d.faults
  have e : aY d ≤ 10 * bE d := by unfold aY bE; omega
  rw [List.map_cons, List.map_cons, List.sum_cons, List.sum_cons]; omega
end Go.Proofs.YtbmglebipepdmaaGreatDoor
namespace Go.Proofs.YtbmglebipepdmaaGreatDoor
open Go.RowKit
theorem C9 (l : List Tm) (k : Nat) (h : k < l.length) : fI (l.take (k + 1)) = max (fI (l.take k)) (dI l[k]) := by
 have : ∀ (a : List Tm) (t : Tm), fI (a ++ [t]) = max (fI a) (dI t) := by
  intro a t
  induction a with
  |nil => simp [fI]
  |cons x r ih => simp only [List.cons_append, fI, ih]; omega
 rw [List.take_succ_eq_append_getElem h, this]
theorem EX (l : List Tm) (k : Nat) (h : k < l.length) : aX (l.take (k + 1)) = aX (l.take k) + au l[k] := by
 have : ∀ (a : List Tm) (t : Tm), aX (a ++ [t]) = aX a + au t := by
  intro a t
  induction a with
  |nil => simp [aX]
  |cons x r ih => simp only [List.cons_append, aX, ih]; omega
 rw [List.take_succ_eq_append_getElem h, this]
theorem EW (l : List Tm) (k : Nat) : aX (l.take k) ≤ aX l := by
 have : ∀ (a b : List Tm), aX (a ++ b) = aX a + aX b := by
  intro a b
  induction a with
  |nil => simp [aX]
  |cons x r ih => simp only [List.cons_append, aX, ih]; omega
 have h := this (l.take k) (l.drop k)
 rw [List.take_append_drop] at h; omega
mutual
theorem xg : ∀ t : Tm, dI t ≤ au t
 |.mk op name need ws kids => by
  have h := qB kids
  rw [dI, au]; omega
theorem qB : ∀ l : List Tm, fI l ≤ aX l
 |[] => by simp [fI]
 |t :: r => by
  have h1 := xg t
  have h2 := qB r
  rw [fI, aX]; omega
end
def SzOk (t : Tm) : Prop := ∀ (v : Value) (w : World) (S : Nat → Prop), eG w S t v → (∀ g, S g → g < w.heap.size) → au t ≤ 1000000000 → Calls Tryz.prog 29 #[v] w fun e w' => e = .returned (.tuple #[.int .i64 (au t), .int .i64 (dI t)]) ∧ Below w.heap.size w w'

set_option maxRecDepth 100000 in
set_option maxHeartbeats 4000000 in
theorem size_step (t : Tm) (ih : ∀ k ∈ t.kids, SzOk k) : SzOk t := by
 intro v w S hv hS hsz
 have HSS0 := Lib.hid (dU t)
 cases hv with
 |mk op nm need ws kids wA kA cw kc vs hw hwc hk hkc hl h =>
 have hss : au (.mk op nm need ws kids) = 1 + nm.size + ws.length + aX kids := HSS0.out
 have hdd : dI (.mk op nm need ws kids) = fI kids + 1 := by rw [dI]
 have hkl := jI kids
 have hbig : 1 + nm.size + ws.length + aX kids ≤ 1000000000 := by omega
 have IH := Lib.hid (show ∀ k ∈ kids, SzOk k from ih)
 have HL := Lib.hid (show aT (eG w S) w S 5 kA kids from ⟨vs, hl, hk, h⟩)
 have hkb : kids.length ≤ 1000000000 := by omega
 have HSS := Lib.hid hss
 have HDD := Lib.hid hdd
 clear ih hw hk hl h hss hdd hsz
 obtain ⟨w0, hw0⟩ : ∃ w0 : World, w0 = w.alloc (.cells #[.int .i64 op, .string nm, .int .i64 need, .slice wA ws.length cw, .slice kA kids.length kc] 39) := ⟨_, rfl⟩
 have hb0 : Below w.heap.size w w0 := by rw [hw0]; exact (Below.refl _ _).alloc (Nat.le_refl _) _
 have hz0 : w0.heap.size = w.heap.size + 1 := by rw [hw0]; simp
 have hr0 : w0.heap[w.heap.size]? = some (.cells #[.int .i64 op, .string nm, .int .i64 need, .slice wA ws.length cw, .slice kA kids.length kc] 39 (0, 0)) := by rw [hw0]; exact heap_alloc_new w _
 have hlt0 : w.heap.size + 1 ≤ w0.heap.size := by omega
 have HR0 := Lib.hid hr0
 have hnI : (nm.size : Int) ≤ 1000000000 := by omega
 have hwI : (ws.length : Int) ≤ 1000000000 := by omega
 have HW0 := Lib.hid hw0
 clear hz0 hr0 hw0
 go_enter Tryz.func29, Tryz.ntmps29
 go_wp2
 rw [← HW0.out]
 go_loopw [4, 5, 6] (fun x y z wr => ∃ k : Nat, k ≤ kids.length ∧ z = .int .i64 k ∧ x = .int .i64 ((1 + nm.size + ws.length + aX (kids.take k) : Nat) : Int) ∧ y = .int .i64 (fI (kids.take k) : Nat) ∧ Below (w.heap.size + 1) w0 wr) (fun _ _ z _ => kids.length - (intOf z).toNat)
 case atStart => exact ⟨0, Nat.zero_le _, rfl, by simp [aX], by simp [fI], Below.refl _ _⟩
 case round =>
  obtain ⟨k, hk, rfl, rfl, rfl, hb⟩ := hrel
  have hsr := hb.size
  have hbw : Below w.heap.size w wr := hb0.trans (hb.mono (by omega))
  have hr1 := (hb.block _ (by omega)).trans HR0.out
  obtain ⟨c0, c1, c2, c3, c4, -⟩ := jF hr1
  clear hr1
  by_cases hlt : k < kids.length
  ·have hlr := HL.out.keep (P' := eG wr S) (aA hbw hS) (fun _ _ h => h.keep (aA hbw hS))
   obtain ⟨g, o, op1, nm1, nd1, wA1, wn1, wc1, kA1, kn1, kc1, rfl, hSg, htm, k0, k1, k2, k3, k4, -⟩ := fQ hlr hlt
   have hgs : g < wr.heap.size := World.block_lt_of_cell? wr _ k0
   have hkI : (k : Int) < (kids.length : Int) := by omega
   have hk0 : (0 : Int) ≤ (k : Int) := by omega
   have hmem : kids[k] ∈ kids := List.getElem_mem hlt
   have hts := bI hmem
   have hsn := EX kids k hlt
   have hdn := C9 kids k hlt
   have htk := EW kids (k + 1)
   have hdl := xg kids[k]
   have hdk := qB (kids.take k)
   have HC := Lib.hid (IH.out _ hmem _ wr S htm (fun g hg => by have := hS g hg; have := hbw.size; omega) (by omega))
   obtain ⟨a, ha⟩ : ∃ a, a = au kids[k] := ⟨_, rfl⟩
   obtain ⟨d, hd⟩ : ∃ d, d = dI kids[k] := ⟨_, rfl⟩
   rw [← ha, ← hd] at HC
   rw [← ha] at hsn
   rw [← hd] at hdn
   obtain ⟨p, hp⟩ : ∃ p, p = 1 + nm.size + ws.length + aX (kids.take k) := ⟨_, rfl⟩
   obtain ⟨q, hq⟩ : ∃ q, q = fI (kids.take k) := ⟨_, rfl⟩
   have hpa : p + a ≤ 1000000000 := by omega
   have hqb : q ≤ 1000000000 := by omega
   have hdb : d ≤ 1000000000 := by omega
   have HSN := Lib.hid (show 1 + nm.size + ws.length + aX (kids.take (k + 1)) = p + a by omega)
   have HDN := Lib.hid (show fI (kids.take (k + 1)) = max q d by rw [hdn, hq])
   rw [← hp, ← hq]
   clear htm hlr hsn hdn htk hdl hdk ha hd hp hq hts
   by_cases hqd : q ≤ d
   ·have m1 : (q : Int) ≤ (d : Int) := by omega
    have m2 : ¬ (d : Int) < (q : Int) := by omega
    have HM := Lib.hid (show max q d = d by omega)
    go_wp2_with fail
    refine HC.out.mono ?_
    rintro e W2 ⟨rfl, hb2⟩
    go_wp2
    go_roundw
    case rel => exact ⟨k + 1, by omega, by go_num, by rw [HSN.out]; go_num, by rw [HDN.out, HM.out]; congr 1; omega, hb.trans (hb2.mono (by omega))⟩
    case measure => simp [intOf]; omega
   ·have m1 : ¬ (q : Int) ≤ (d : Int) := by omega
    have m2 : (d : Int) < (q : Int) := by omega
    have HM := Lib.hid (show max q d = q by omega)
    go_wp2_with fail
    refine HC.out.mono ?_
    rintro e W2 ⟨rfl, hb2⟩
    go_wp2
    go_roundw
    case rel => exact ⟨k + 1, by omega, by go_num, by rw [HSN.out]; go_num, by rw [HDN.out, HM.out]; congr 1; omega, hb.trans (hb2.mono (by omega))⟩
    case measure => simp [intOf]; omega
  ·obtain rfl : k = kids.length := by omega
   have hkI : ¬ (kids.length : Int) < (kids.length : Int) := by omega
   rw [List.take_length]
   have hdl := qB kids
   obtain ⟨q, hq⟩ : ∃ q, q = fI kids := ⟨_, rfl⟩
   obtain ⟨p, hp⟩ : ∃ p, p = 1 + nm.size + ws.length + aX kids := ⟨_, rfl⟩
   have HSZ := Lib.hid (HSS.out.trans hp.symm)
   have HDZ := Lib.hid (show dI (.mk op nm need ws kids) = q + 1 by rw [HDD.out, hq])
   have hqb : q ≤ 1000000000 := by omega
   rw [← hp, ← hq]
   clear hq hp hdl
   go_wp2
   go_ret2
   refine ⟨?_, hbw⟩
   rw [HSZ.out, HDZ.out]; rfl
theorem yD (t : Tm) : SzOk t := by
 have : ∀ (n : Nat) (t : Tm), au t ≤ n → SzOk t := by
  intro n
  induction n with
  |zero =>
    intro t ht; have : 0 < au t := by (cases t; rw [au]; omega)
    omega
  |succ n ih => intro t ht; exact size_step t (fun k hk => ih k (by have := gI hk; omega))
 exact this _ t (Nat.le_refl _)
end Go.Proofs.YtbmglebipepdmaaGreatDoor
namespace Go.Proofs.YtbmglebipepdmaaGreatDoor
open Go.RowKit
set_option maxRecDepth 100000 in
set_option maxHeartbeats 4000000 in
theorem uM (l : List Dc) (A : Option Addr) (c : Nat) (w : World) (S : Nat → Prop) (hl : aT (fo w S) w S 22 A l) (hS : ∀ g, S g → g < w.heap.size) (hsz : (l.map bE).sum ≤ 1100000) :
  Calls Tryz.prog 11 #[.slice A l.length c] w fun e w' => e = .returned (.bool (decide ((l.map aY).sum ≤ 10000))) ∧ Below w.heap.size w w' := by
 have HL := Lib.hid hl
 have hll := iD l
 have hlb : l.length ≤ 1100000 := by omega
 have hfd := few_dc l
 have hfb : (l.map aY).sum ≤ 11000000 := by omega
 have HFB := Lib.hid (show ∀ k, ((l.take k).map aY).sum ≤ 11000000 from fun k => by have := I7 l k; omega)
 clear hl hsz hll hfd
 go_enter Tryz.func11, Tryz.ntmps11
 go_wp2
 go_loopw [3, 4] (fun n x wr => ∃ k : Nat, k ≤ l.length ∧ x = .int .i64 k ∧ n = .int .i64 (((l.take k).map aY).sum : Nat) ∧ Below w.heap.size w wr) (fun _ x _ => l.length - (intOf x).toNat)
 case atStart => exact ⟨0, Nat.zero_le _, rfl, rfl, Below.refl _ _⟩
 case round =>
  obtain ⟨k, hk, rfl, rfl, hb⟩ := hrel
  have hsr := hb.size
  by_cases hlt : k < l.length
  ·obtain ⟨g, o, v, rfl, hSg, hp, hc⟩ := fJ (fun _ _ h => jE h) (HL.out.keep (P' := fo wr S) (aA hb hS) (fun _ _ h => h.keep (aA hb hS))) hlt
   have hgs : g < wr.heap.size := by have := hS g hSg; omega
   have hkI : (k : Int) < (l.length : Int) := by omega
   have hk0 : (0 : Int) ≤ (k : Int) := by omega
   have hft := few_take l k hlt
   have hfk := HFB.out (k + 1)
   rw [hft] at hfk
   generalize l[k] = d at hp hft hfk
   obtain ⟨kind, line, name, names, faults, term, proto, read, write, use⟩ := d
   obtain ⟨nA, nc, fA, fc, vt, vr, vw, rfl, h1, h2, h3, h4, h5, h6, h7⟩ := hp
   obtain ⟨o1, m1, d1, wA1, wn1, wc1, kA1, kn1, kc1, rfl⟩ := h5.form
   obtain ⟨o2, m2, d2, wA2, wn2, wc2, kA2, kn2, kc2, rfl⟩ := h6.form
   obtain ⟨o3, m3, d3, wA3, wn3, wc3, kA3, kn3, kc3, rfl⟩ := h7.form
   simp only at h5 h6 h7
   have hfs : aY ⟨kind, line, name, names, faults, term, proto, read, write, use⟩ = au term + au read + au write + name.size + names.length + 10 * faults.length + proto.size + use.size := rfl
   rw [hfs] at hft hfk
   have hc2 : ∀ (j : Nat) (u : Value), ([.int .i64 kind, .int .i64 line, .string name, .slice nA names.length nc, .slice fA faults.length fc, .int .i64 o1, .string m1, .int .i64 d1, .slice wA1 wn1 wc1, .slice kA1 kn1 kc1, .string proto, .int .i64 o2, .string m2, .int .i64 d2, .slice wA2 wn2 wc2, .slice kA2 kn2 kc2, .int .i64 o3, .string m3, .int .i64 d3, .slice wA3 wn3 wc3, .slice kA3 kn3 kc3, .string use] : List Value)[j]? = some u → wr.cell? ⟨g, o + k * 22 + j, none⟩ = some u := fun j u hu => hc j u (by simpa [cellsOf, Value.cells] using hu)
   have hSW : ∀ (W : World), Below wr.heap.size wr W → ∀ g, S g → g < W.heap.size := fun W hW g hg => by have := hS g hg; have := hW.size; omega
   have e1 : au term ≤ 11000000 := by omega
   have e2 : au read ≤ 11000000 := by omega
   have e3 : au write ≤ 11000000 := by omega
   have hs1 := fun (W : World) (hW : Below wr.heap.size wr W) => yD term _ W S (h5.keep (aP hW)) (hSW W hW) (by omega)
   have hs2 := fun (W : World) (hW : Below wr.heap.size wr W) => yD read _ W S (h6.keep (aP hW)) (hSW W hW) (by omega)
   have hs3 := fun (W : World) (hW : Below wr.heap.size wr W) => yD write _ W S (h7.keep (aP hW)) (hSW W hW) (by omega)
   obtain ⟨z1, y1⟩ : ∃ z, z = au term := ⟨_, rfl⟩
   obtain ⟨z2, y2⟩ : ∃ z, z = au read := ⟨_, rfl⟩
   obtain ⟨z3, y3⟩ : ∃ z, z = au write := ⟨_, rfl⟩
   simp only [← y1] at hs1
   simp only [← y2] at hs2
   simp only [← y3] at hs3
   rw [← y1, ← y2, ← y3] at hft hfk
   have HS1 := Lib.hid hs1
   have HS2 := Lib.hid hs2
   have HS3 := Lib.hid hs3
   obtain ⟨p, hp⟩ : ∃ p, p = ((l.take k).map aY).sum := ⟨_, rfl⟩
   rw [← hp] at hft hfk
   rw [← hp]
   have HSN := Lib.hid hft
   have p1 : p ≤ 11000000 := by omega
   have p2 : z1 ≤ 11000000 := by omega
   have p3 : z2 ≤ 11000000 := by omega
   have p4 : z3 ≤ 11000000 := by omega
   have p5 : name.size ≤ 11000000 := by omega
   have p6 : names.length ≤ 11000000 := by omega
   have p7 : faults.length ≤ 11000000 := by omega
   have p8 : proto.size ≤ 11000000 := by omega
   have p9 : use.size ≤ 11000000 := by omega
   clear hft hfk hfs hs1 hs2 hs3 h1 h2 h3 h4 h5 h6 h7 hc y1 y2 y3 hp e1 e2 e3
   have HC := Lib.hid hc2
   have a5 : wr.cell? ⟨g, o + k * 22 + 5, none⟩ = some (.int .i64 o1) := HC.out 5 _ rfl
   have a6 : wr.cell? ⟨g, o + k * 22 + 6, none⟩ = some (.string m1) := HC.out 6 _ rfl
   have a7 : wr.cell? ⟨g, o + k * 22 + 7, none⟩ = some (.int .i64 d1) := HC.out 7 _ rfl
   have a8 : wr.cell? ⟨g, o + k * 22 + 8, none⟩ = some (.slice wA1 wn1 wc1) := HC.out 8 _ rfl
   have a9 : wr.cell? ⟨g, o + k * 22 + 9, none⟩ = some (.slice kA1 kn1 kc1) := HC.out 9 _ rfl
   go_wp2_with fail
   refine (HS1.out wr (Below.refl _ _)).mono ?_
   rintro e W1 ⟨rfl, hb1⟩
   clear a5 a6 a7 a8 a9
   have b11 : W1.cell? ⟨g, o + k * 22 + 11, none⟩ = some (.int .i64 o2) := (hb1.cell (p := ⟨g, o + k * 22 + 11, none⟩) hgs).trans (HC.out 11 _ rfl)
   have b12 : W1.cell? ⟨g, o + k * 22 + 12, none⟩ = some (.string m2) := (hb1.cell (p := ⟨g, o + k * 22 + 12, none⟩) hgs).trans (HC.out 12 _ rfl)
   have b13 : W1.cell? ⟨g, o + k * 22 + 13, none⟩ = some (.int .i64 d2) := (hb1.cell (p := ⟨g, o + k * 22 + 13, none⟩) hgs).trans (HC.out 13 _ rfl)
   have b14 : W1.cell? ⟨g, o + k * 22 + 14, none⟩ = some (.slice wA2 wn2 wc2) := (hb1.cell (p := ⟨g, o + k * 22 + 14, none⟩) hgs).trans (HC.out 14 _ rfl)
   have b15 : W1.cell? ⟨g, o + k * 22 + 15, none⟩ = some (.slice kA2 kn2 kc2) := (hb1.cell (p := ⟨g, o + k * 22 + 15, none⟩) hgs).trans (HC.out 15 _ rfl)
   go_wp2_with fail
   refine (HS2.out W1 hb1).mono ?_
   rintro e W2 ⟨rfl, hb2⟩
   have hx2 : Below wr.heap.size wr W2 := hb1.trans (hb2.mono hb1.size)
   clear b11 b12 b13 b14 b15
   have e16 : W2.cell? ⟨g, o + k * 22 + 16, none⟩ = some (.int .i64 o3) := (hx2.cell (p := ⟨g, o + k * 22 + 16, none⟩) hgs).trans (HC.out 16 _ rfl)
   have e17 : W2.cell? ⟨g, o + k * 22 + 17, none⟩ = some (.string m3) := (hx2.cell (p := ⟨g, o + k * 22 + 17, none⟩) hgs).trans (HC.out 17 _ rfl)
   have e18 : W2.cell? ⟨g, o + k * 22 + 18, none⟩ = some (.int .i64 d3) := (hx2.cell (p := ⟨g, o + k * 22 + 18, none⟩) hgs).trans (HC.out 18 _ rfl)
   have e19 : W2.cell? ⟨g, o + k * 22 + 19, none⟩ = some (.slice wA3 wn3 wc3) := (hx2.cell (p := ⟨g, o + k * 22 + 19, none⟩) hgs).trans (HC.out 19 _ rfl)
   have e20 : W2.cell? ⟨g, o + k * 22 + 20, none⟩ = some (.slice kA3 kn3 kc3) := (hx2.cell (p := ⟨g, o + k * 22 + 20, none⟩) hgs).trans (HC.out 20 _ rfl)
   go_wp2_with fail
   refine (HS3.out W2 hx2).mono ?_
   rintro e W3 ⟨rfl, hb3⟩
   have hx3 : Below wr.heap.size wr W3 := hx2.trans (hb3.mono hx2.size)
   have hgs3 : g < W3.heap.size := Nat.lt_of_lt_of_le hgs hx3.size
   clear e16 e17 e18 e19 e20
   have f2 : W3.cell? ⟨g, o + k * 22 + 2, none⟩ = some (.string name) := (hx3.cell (p := ⟨g, o + k * 22 + 2, none⟩) hgs).trans (HC.out 2 _ rfl)
   have f3 : W3.cell? ⟨g, o + k * 22 + 3, none⟩ = some (.slice nA names.length nc) := (hx3.cell (p := ⟨g, o + k * 22 + 3, none⟩) hgs).trans (HC.out 3 _ rfl)
   have f4 : W3.cell? ⟨g, o + k * 22 + 4, none⟩ = some (.slice fA faults.length fc) := (hx3.cell (p := ⟨g, o + k * 22 + 4, none⟩) hgs).trans (HC.out 4 _ rfl)
   have f10 : W3.cell? ⟨g, o + k * 22 + 10, none⟩ = some (.string proto) := (hx3.cell (p := ⟨g, o + k * 22 + 10, none⟩) hgs).trans (HC.out 10 _ rfl)
   have f21 : W3.cell? ⟨g, o + k * 22 + 21, none⟩ = some (.string use) := (hx3.cell (p := ⟨g, o + k * 22 + 21, none⟩) hgs).trans (HC.out 21 _ rfl)
   go_upto_region 8 with fail
   go_quiet (fail)
   go_wp2
   go_roundw
   case rel =>
    refine ⟨k + 1, by omega, by go_num, ?_, below_drewN (hb.trans (hx3.mono hsr)) _⟩
    rw [HSN.out]
    go_num
   case measure => simp [intOf]; omega
  ·obtain rfl : k = l.length := by omega
   have hkI : ¬ (l.length : Int) < (l.length : Int) := by omega
   rw [List.take_length]
   obtain ⟨n, hn⟩ : ∃ n, n = (l.map aY).sum := ⟨_, rfl⟩
   rw [← hn]
   have HN := Lib.hid hn
   rw [← hn] at hfb
   clear hn
   go_wp2
   go_ret
   refine ⟨?_, hb⟩
   show Ending.returned (.bool (decide ((n : Int) ≤ 10000))) = _
   rw [show decide ((n : Int) ≤ 10000) = decide (n ≤ 10000) by rw [Bool.eq_iff_iff, decide_eq_true_iff, decide_eq_true_iff]; omega, HN.out]
end Go.Proofs.YtbmglebipepdmaaGreatDoor
namespace Go.Proofs.YtbmglebipepdmaaGreatDoor
open Go.RowKit
end Go.Proofs.YtbmglebipepdmaaGreatDoor
namespace Go.Proofs.YtbmglebipepdmaaGreatDoor
open Go.RowKit
theorem LA (s : ByteArray) (h0 : 0 < s.size) : dR s.data.toList = (decide (s.size ≤ 24) && dX s[0].toNat && decide (pre cu s.data.toList = s.size)) := by
 have e : s.data.toList = s[0] :: s.data.toList.drop 1 := cB s 0 h0
 have hl : s.data.toList.length = s.size := by simp
 rw [← hl]
 generalize s.data.toList.drop 1 = r at e
 rw [e]
 rw [Bool.eq_iff_iff]
 simp [dR]

set_option maxRecDepth 100000 in
set_option maxHeartbeats 4000000 in
theorem isName6 (s : ByteArray) (w : World) : Calls Tryz.prog 104 #[.string s] w fun e w' => e = .returned (.bool (dR s.data.toList)) ∧ w = w' := by
 by_cases h0 : 0 < s.size
 ·have hne := bP h0
  have hEq := LA s h0
  by_cases h24 : 24 < s.size
  ·have h24I : (24 : Int) < (s.size : Int) := by omega
   have E := Lib.hid (show dR s.data.toList = false by rw [hEq]; simp; omega)
   clear hEq
   go_enter Tryz.func104, Tryz.ntmps104
   go_wp2
   go_ret
   exact ⟨by rw [E.out]; rfl, rfl⟩
  ·have h24I : ¬ (24 : Int) < (s.size : Int) := by omega
   have h0I : (0 : Int) < (s.size : Int) := by omega
   have hl0 := nH s[0].toNat w
   cases hl : dX s[0].toNat
   ·rw [hl] at hl0
    have HC := Lib.hid hl0
    have E := Lib.hid (show dR s.data.toList = false by rw [hEq, hl]; simp)
    clear hEq hl hl0
    go_enter Tryz.func104, Tryz.ntmps104
    go_wp2_with fail
    refine HC.out.mono ?_
    rintro e w' ⟨rfl, rfl⟩
    go_wp2
    go_ret
    exact ⟨by rw [E.out]; rfl, rfl⟩
   ·rw [hl] at hl0
    have HC := Lib.hid hl0
    obtain ⟨n, hn⟩ : ∃ n, n = pre cu s.data.toList := ⟨_, rfl⟩
    have hplen := xU cu s.data.toList
    rw [show s.data.toList.length = s.size by simp, ← hn] at hplen
    have E := Lib.hid (show dR s.data.toList = decide (n = s.size) by rw [hEq, hl, ← hn]; simp; omega)
    have HPN := Lib.hid hn
    have HCA := Lib.hid (fun k (h : k < s.size) (hk : n = k + pre cu (s.data.toList.drop k)) => (show k < n ↔ cu s[k].toNat = true by rw [hn] at hk ⊢; exact cont_at s k h hk))
    have HYES := Lib.hid (fun k (h : k < s.size) (hc : cu s[k].toNat = true) => lZ cu s k h hc)
    clear hEq hl hl0 hn
    go_enter Tryz.func104, Tryz.ntmps104
    go_wp2_with fail
    refine HC.out.mono ?_
    rintro e w' ⟨rfl, rfl⟩
    go_wp2
    go_loop [3] (fun x => ∃ k : Nat, k ≤ n ∧ x = .int .i64 k ∧ Hid (n = k + pre cu (s.data.toList.drop k))) (fun x => s.size - (intOf x).toNat)
    case atStart => exact ⟨0, Nat.zero_le _, rfl, by show n = 0 + pre cu (s.data.toList.drop 0); rw [HPN.out]; simp⟩
    case round =>
     obtain ⟨k, hk, rfl, hpre⟩ := hrel
     by_cases hlt : k < s.size
     ·have hkI : (k : Int) < (s.size : Int) := by omega
      have hk0 : (0 : Int) ≤ (k : Int) := by omega
      have hlc := nH s[k].toNat w
      have hdc := nV s[k].toNat w
      have hcc := HCA.out k hlt hpre.out
      cases hc : cu s[k].toNat
      ·have hkn : ¬ k < n := fun h => by rw [hcc.1 h] at hc; simp at hc
       have E2 := Lib.hid (show dR s.data.toList = false by rw [E.out]; simp; omega)
       unfold cu at hc
       rw [Bool.or_eq_false_iff] at hc
       rw [hc.1] at hlc
       rw [hc.2] at hdc
       have HLC := Lib.hid hlc
       have HDC := Lib.hid hdc
       clear hc hlc hdc hcc
       go_wp2_with fail
       refine HLC.out.mono ?_
       rintro e w' ⟨rfl, rfl⟩
       go_wp2_with fail
       refine HDC.out.mono ?_
       rintro e w' ⟨rfl, rfl⟩
       go_wp2
       go_ret
       exact ⟨by rw [E2.out]; rfl, rfl⟩
      ·have hkn := hcc.2 hc
       have HPY := Lib.hid (HYES.out k hlt hc)
       unfold cu at hc
       cases hll : dX s[k].toNat
       ·rw [hll] at hc hlc
        rw [Bool.false_or] at hc
        rw [hc] at hdc
        have HLC := Lib.hid hlc
        have HDC := Lib.hid hdc
        clear hlc hdc hc hll hcc
        go_wp2_with fail
        refine HLC.out.mono ?_
        rintro e w' ⟨rfl, rfl⟩
        go_wp2_with fail
        refine HDC.out.mono ?_
        rintro e w' ⟨rfl, rfl⟩
        go_wp2
        go_round
        case rel =>
         refine ⟨k + 1, by omega, by go_num, ?_⟩
         show n = k + 1 + pre cu (s.data.toList.drop (k + 1))
         have := HPY.out; have := hpre.out; omega
        case measure => simp [intOf]; omega
       ·rw [hll] at hlc
        have HLC := Lib.hid hlc
        clear hlc hdc hc hll hcc
        go_wp2_with fail
        refine HLC.out.mono ?_
        rintro e w' ⟨rfl, rfl⟩
        go_wp2
        go_round
        case rel =>
         refine ⟨k + 1, by omega, by go_num, ?_⟩
         show n = k + 1 + pre cu (s.data.toList.drop (k + 1))
         have := HPY.out; have := hpre.out; omega
        case measure => simp [intOf]; omega
     ·have hkI : ¬ (k : Int) < (s.size : Int) := by omega
      have E2 := Lib.hid (show dR s.data.toList = true by rw [E.out]; simp; omega)
      go_wp2
      go_ret
      exact ⟨by rw [E2.out]; rfl, rfl⟩
 ·obtain rfl := pF (show s.size = 0 by omega)
  go_enter Tryz.func104, Tryz.ntmps104
  go_wp2
  go_ret
  exact ⟨rfl, rfl⟩

set_option maxHeartbeats 1000000 in
theorem sZ (s : ByteArray) (w : World) : Calls Tryz.prog 71 #[.string s] w fun e w' => e = .returned (.bool (bG s)) ∧ Below w.heap.size w w' := by
 have hl := isName6 s w
 have hr := zC s w
 unfold bG
 cases h : dR s.data.toList
 ·rw [h] at hl
  have HL := Lib.hid hl
  clear hl hr h
  go_enter Tryz.func71, Tryz.ntmps71
  go_wp2_with fail
  refine HL.out.mono ?_
  rintro e w' ⟨rfl, rfl⟩
  go_wp2
  go_ret
  exact ⟨rfl, Below.refl _ _⟩
 ·rw [h] at hl
  have HL := Lib.hid hl
  have HR := Lib.hid hr
  clear hl hr h
  go_enter Tryz.func71, Tryz.ntmps71
  go_wp2_with fail
  refine HL.out.mono ?_
  rintro e w' ⟨rfl, rfl⟩
  go_wp2_with fail
  refine HR.out.mono ?_
  rintro e w' ⟨rfl, hb⟩
  go_wp2
  go_ret
  exact ⟨by rw [Bool.true_and]; rfl, hb⟩

set_option maxHeartbeats 1000000 in
theorem Fj (n : Int) (w : World) : Calls Tryz.prog 103 #[.int .i64 n] w fun e w' => e = .returned (.bool (small n)) ∧ w = w' := by
 have key : ∀ r : Bool, (r = true ↔ (0 ≤ n ∧ n ≤ 100000)) → r = small n := by
  intro r h
  rw [Bool.eq_iff_iff, h]
  simp [small]
 have HK := Lib.hid key
 clear key
 go_enter Tryz.func103, Tryz.ntmps103
 go_wp2
 all_goals go_ret
 all_goals refine ⟨congrArg (fun b => Ending.returned (.bool b)) (HK.out _ ?_), rfl⟩
 all_goals simp
 all_goals omega

set_option maxRecDepth 100000 in
set_option maxHeartbeats 1000000 in
theorem Jt (l : List ByteArray) (A : Option Addr) (c : Nat) (w : World) (S : Nat → Prop) (h : aL w S 1 A l.length (l.map Value.string)) (hS : ∀ g, S g → g < w.heap.size) (hl : l.length ≤ 1000000000000) :
  Calls Tryz.prog 72 #[.slice A l.length c] w fun e w' => e = .returned (.bool (bg l)) ∧ Below w.heap.size w w' := by
 have H := Lib.hid h
 clear h
 go_enter Tryz.func72, Tryz.ntmps72
 go_wp2
 go_loopw [3] (fun x wr => ∃ k : Nat, k ≤ l.length ∧ x = .int .i64 k ∧ Below w.heap.size w wr ∧ Hid (bg l = bg (l.drop k))) (fun x _ => l.length - (intOf x).toNat)
 case atStart => exact ⟨0, Nat.zero_le _, rfl, Below.refl _ _, rfl⟩
 case round =>
  obtain ⟨k, hk, rfl, hb, hd⟩ := hrel
  by_cases hlt : k < l.length
  ·obtain ⟨g1, o1, rfl, hS1, k1⟩ := one_cell (H.out.keep (aA hb hS)) hlt
   have hg1 : g1 < wr.heap.size := World.block_lt_of_cell? wr _ k1
   have hdk : bg (l.drop k) = (bG l[k] && bg (l.drop (k + 1))) := by rw [List.drop_eq_getElem_cons hlt]; rfl
   generalize l[k] = u at k1 hdk
   have hn := sZ u wr
   have hkI : (k : Int) < (l.length : Int) := by omega
   have hk0 : (0 : Int) ≤ (k : Int) := by omega
   cases hu : bG u
   ·rw [hu] at hn hdk
    have HN := Lib.hid hn
    have E := Lib.hid (show bg l = false by rw [hd.out, hdk]; rfl)
    clear hn hdk hu
    go_wp2_with fail
    refine HN.out.mono ?_
    rintro e w' ⟨rfl, hb2⟩
    go_wp2
    go_ret
    exact ⟨by rw [E.out]; rfl, hb.trans (hb2.mono hb.size)⟩
   ·rw [hu] at hn hdk
    have HN := Lib.hid hn
    have E := Lib.hid (show bg l = bg (l.drop (k + 1)) by rw [hd.out, hdk]; rfl)
    clear hn hdk hu
    go_wp2_with fail
    refine HN.out.mono ?_
    rintro e w' ⟨rfl, hb2⟩
    go_wp2
    go_roundw
    case rel => exact ⟨k + 1, by omega, by go_num, hb.trans (hb2.mono hb.size), E.out⟩
    case measure => simp [intOf]; omega
  ·obtain rfl : k = l.length := by omega
   have hkI : ¬ (l.length : Int) < (l.length : Int) := by omega
   have E := Lib.hid (show bg l = true by rw [hd.out, List.drop_length]; rfl)
   go_wp2
   go_ret
   exact ⟨by rw [E.out]; rfl, hb⟩

set_option maxHeartbeats 2000000 in
theorem blank_ref (op need : Int) (nm : ByteArray) (wA kA : Option Addr) (wn wc kn kc : Nat) (w : World) (hw : wn ≤ 1000000000000) (hk : kn ≤ 1000000000000) :
  Calls Tryz.prog 74 #[.agg #[.int .i64 op, .string nm, .int .i64 need, .slice wA wn wc, .slice kA kn kc]] w fun e w' => e = .returned (.bool (decide (op = 0) && decide (nm.size = 0) && (decide (need = 0) && decide (wn + kn = 0)))) ∧ Below w.heap.size w w' := by
 have hb : ∀ o, Below w.heap.size w (w.alloc o) := fun o => (Below.refl _ _).alloc (Nat.le_refl _) o
 by_cases ho : op = 0
 ·subst ho
  by_cases hm : nm.size = 0
  ·obtain rfl := pF hm
   by_cases h0 : need = 0
   ·subst h0
    have hz : (((wn : Int) + (kn : Int)) == 0) = decide (wn + kn = 0) := by rw [Bool.eq_iff_iff]; simp; omega
    have e : (decide ((0 : Int) = 0) && decide ((⟨#[]⟩ : ByteArray).size = 0) && (decide ((0 : Int) = 0) && decide (wn + kn = 0))) = decide (wn + kn = 0) := rfl
    have HZ := Lib.hid hz
    rw [e]
    clear e hz
    go_enter Tryz.func74, Tryz.ntmps74
    go_wp2
    go_ret
    refine ⟨?_, hb _⟩
    rw [← HZ.out]; rfl
   ·have hz : (need == 0) = false := by rw [beq_eq_false_iff_ne]; exact h0
    have e : (decide ((0 : Int) = 0) && decide ((⟨#[]⟩ : ByteArray).size = 0) && (decide (need = 0) && decide (wn + kn = 0))) = false := by simp [h0]
    rw [e]
    clear e h0
    go_enter Tryz.func74, Tryz.ntmps74
    go_wp2
    go_ret
    exact ⟨rfl, hb _⟩
  ·have hne := bP (show 0 < nm.size by omega)
   have e : (decide ((0 : Int) = 0) && decide (nm.size = 0) && (decide (need = 0) && decide (wn + kn = 0))) = false := by simp [hm]
   rw [e]
   clear e
   go_enter Tryz.func74, Tryz.ntmps74
   go_wp2
   go_ret
   exact ⟨rfl, hb _⟩
 ·have hz : (op == 0) = false := by rw [beq_eq_false_iff_ne]; exact ho
  have e : (decide (op = 0) && decide (nm.size = 0) && (decide (need = 0) && decide (wn + kn = 0))) = false := by simp [ho]
  rw [e]
  clear e
  go_enter Tryz.func74, Tryz.ntmps74
  go_wp2
  go_ret
  exact ⟨rfl, hb _⟩
end Go.Proofs.YtbmglebipepdmaaGreatDoor
namespace Go.Proofs.YtbmglebipepdmaaGreatDoor
open Go.RowKit
theorem Ld (op : Int) (nm : ByteArray) (nd : Int) (ws : List Int) (ks : List Tm) : bY (.mk op nm nd ws ks) =
  bif op == 1 then bG nm && ((nd == 0) && decide (ws.length + ks.length = 0))
  else bif op == 2 then nm.toList.isEmpty && small nd && decide (0 < ks.length) && (decide (ws.length = 0) || decide (ws.length = ks.length))
  else bif op == 3 || op == 4 then nm.toList.isEmpty && (nd == 0) && decide (ws.length = 0) && decide (2 ≤ ks.length)
  else bif op == 5 then nm.toList.isEmpty && (nd == 0) && decide (ws.length = 0) && decide (ks.length = 1)
  else bif op == 6 || op == 7 || op == 8 then (bG nm || nm.toList == [115, 101, 114, 118, 101, 114, 115]) && ((nd == 0) && decide (ws.length + ks.length = 0)) else false := by
 have e : (nm.toList == [115, 101, 114, 118, 101, 114, 115]) = (nm == (⟨#[115, 101, 114, 118, 101, 114, 115]⟩ : ByteArray)) := by rw [← jR, ByteArray.toList_eq ((⟨#[115, 101, 114, 118, 101, 114, 115]⟩ : ByteArray))]
 have e0 : (nd == 0) = decide (nd = 0) := o8 nd 0
 rw [e, ← jC, e0]
 rcases iF op 1 with q1 | rfl
 rcases iF op 2 with q2 | rfl
 rcases iF op 3 with q3 | rfl
 rcases iF op 4 with q4 | rfl
 rcases iF op 5 with q5 | rfl
 rcases iF op 6 with q6 | rfl
 rcases iF op 7 with q7 | rfl
 rcases iF op 8 with q8 | rfl
 ·simp only [beq_eq_false_iff_ne] at *
  simp [bY, Tm.op, *]
 all_goals rfl
def ITOk (t : Tm) : Prop := ∀ (v : Value) (w : World) (S : Nat → Prop), eG w S t v → (∀ g, S g → g < w.heap.size) → au t ≤ 1000000000000 →
 Calls Tryz.prog 73 #[v] w fun e w' => e = .returned (.bool (iZ t)) ∧ Below w.heap.size w w'

set_option maxRecDepth 100000 in
set_option maxHeartbeats 16000000 in
theorem IV (t : Tm) (ih : ∀ k ∈ t.kids, ITOk k) : ITOk t := by
 intro v w S hv hS hsz
 have hss := dU t
 cases hv with
 |mk op nm need ws kids wA kA cw kc vs hw hwc hk hkc hl h =>
 replace hss : au (.mk op nm need ws kids) = 1 + nm.size + ws.length + aX kids := hss
 have hkl := jI kids
 have G := fun (W : World) (hb : Below w.heap.size w W) g (hg : S g) => Nat.lt_of_lt_of_le (hS g hg) hb.size
 have IH := Lib.hid (fun k (hk : k < kids.length) v (W : World) (hb : Below w.heap.size w W) (h : eG W S kids[k] v) => ih _ (List.getElem_mem hk) v W S h (G W hb) (by have := bI (List.getElem_mem hk); omega))
 have HL := Lib.hid (fun (W : World) (hb : Below w.heap.size w W) => (show aT (eG w S) w S 5 kA kids from ⟨vs, hl, hk, h⟩).keep (P' := eG W S) (aA hb hS) (fun _ _ h => h.keep (aA hb hS)))
 have HWS := Lib.hid (fun (W : World) (hb : Below w.heap.size w W) => hw.keep (aA hb hS))
 have hkw : kids.length + ws.length < 1000000000000 := by omega
 have HOK := Lib.hid (show iZ (.mk op nm need ws kids) = (bY (.mk op nm need ws kids) && ws.all small && kids.all iZ) from uE _)
 obtain ⟨R, hR⟩ : ∃ R, iZ (.mk op nm need ws kids) = R := ⟨_, rfl⟩
 rw [hR] at HOK ⊢
 clear hR
 have HN := Lib.hid (fun W => sZ nm W)
 have HM := Lib.hid (fun n W => Fj n W)
 clear ih hw hk hl h hss hkl hsz G hS
 go_enter Tryz.func73, Tryz.ntmps73
 go_wp2
 obtain ⟨W, hW⟩ : ∃ W : World, W = w.alloc (.cells #[.int .i64 op, .string nm, .int .i64 need, .slice wA ws.length cw, .slice kA kids.length kc] 39) := ⟨_, rfl⟩
 have hb : Below w.heap.size w W := by rw [hW]; exact (Below.refl _ _).alloc (Nat.le_refl _) _
 have hr := Lib.hid (wU hW)
 rw [← hW]
 clear hW
 go_loopw [3] (fun x wr => ∃ k : Nat, k ≤ kids.length ∧ x = .int .i64 k ∧ Below W.heap.size W wr ∧ Hid (kids.all iZ = (kids.drop k).all iZ)) (fun x _ => kids.length - (intOf x).toNat)
 case atStart => exact ⟨0, Nat.zero_le _, rfl, Below.refl _ _, rfl⟩
 case round =>
 obtain ⟨k, hk, rfl, h, hd⟩ := hrel
 obtain ⟨hb, hr⟩ := row_step hb hr h
 obtain ⟨c0, c1, c2, c3, c4, -⟩ := jF hr.out
 by_cases hlt : k < kids.length
 ·obtain ⟨g, o, op1, nm1, nd1, wA1, wn1, wc1, kA1, kn1, kc1, rfl, hSg, htm, k0, k1, k2, k3, k4, -⟩ := fQ (HL.out wr hb) hlt
  have hkI : (k : Int) < (kids.length : Int) := by omega
  have hdk := Lib.hid (show (kids.drop k).all iZ = (iZ kids[k] && (kids.drop (k + 1)).all iZ) by rw [List.drop_eq_getElem_cons hlt, List.all_cons])
  have HC := Lib.hid (IH.out k hlt _ wr hb htm)
  clear htm
  go_wp2_with fail
  refine HC.out.mono ?_
  rintro e W2 ⟨rfl, h2⟩
  rcases qU (iZ kids[k]) with q | q <;> rw [q] at hdk ⊢ <;> go_wp2
  ·go_roundw
   case rel => exact ⟨k + 1, by omega, by go_num, h.trans (h2.mono h.size), Lib.hid (by rw [hd.out, hdk.out]; rfl)⟩
   case measure => simp [intOf]; omega
  ·go_ret
   exact ⟨by rw [HOK.out, hd.out, hdk.out]; simp, hb.trans (h2.mono hb.size)⟩
 obtain rfl : k = kids.length := by omega
 have hkI : ¬ (kids.length : Int) < (kids.length : Int) := by omega
 rw [hd.out, List.drop_length] at HOK
 obtain ⟨w1, hw1⟩ : ∃ w1 : World, w1 = wr := ⟨_, rfl⟩
 rw [← hw1] at hb hr c0 c1 c2 c3 c4 ⊢
 clear hd hw1 h
 go_wp2
 go_loopw [4] (fun x wr => ∃ k : Nat, k ≤ ws.length ∧ x = .int .i64 k ∧ wr = w1 ∧ Hid (ws.all small = (ws.drop k).all small)) (fun x _ => ws.length - (intOf x).toNat)
 case atStart => exact ⟨0, Nat.zero_le _, rfl, by trivial, by trivial⟩
 case round =>
 obtain ⟨k, hk, rfl, rfl, hd⟩ := hrel
 by_cases hlt : k < ws.length
 ·obtain ⟨g1, o1, rfl, hS1, k1⟩ := one_cell (HWS.out wr hb) hlt
  have hdk := Lib.hid (show (ws.drop k).all small = (small ws[k] && (ws.drop (k + 1)).all small) by rw [List.drop_eq_getElem_cons hlt, List.all_cons])
  generalize ws[k] = u at k1 hdk
  have hkI2 : (k : Int) < (ws.length : Int) := by omega
  go_wp2_with fail
  refine (HM.out u wr).mono ?_
  rintro e w' ⟨rfl, rfl⟩
  rcases qU (small u) with q | q <;> rw [q] at hdk ⊢ <;> go_wp2
  ·go_roundw
   case rel => exact ⟨k + 1, by omega, by go_num, by trivial, Lib.hid (by rw [hd.out, hdk.out]; rfl)⟩
   case measure => simp [intOf]; omega
  ·go_ret
   exact ⟨by rw [HOK.out, hd.out, hdk.out]; simp, hb⟩
 obtain rfl : k = ws.length := by omega
 have hkI2 : ¬ (ws.length : Int) < (ws.length : Int) := by omega
 rw [hd.out, List.drop_length, Ld] at HOK
 have z1 : (((ws.length : Int) + (kids.length : Int)) == 0) = decide (ws.length + kids.length = 0) := by rw [o8]; exact decide_eq_decide.2 (by omega)
 have z2 : decide ((0 : Int) < (kids.length : Int)) = decide (0 < kids.length) := decide_eq_decide.2 (by omega)
 have z3 : ((ws.length : Int) == 0) = decide (ws.length = 0) := by rw [o8]; exact decide_eq_decide.2 (by omega)
 have z4 : ((ws.length : Int) == (kids.length : Int)) = decide (ws.length = kids.length) := by rw [o8]; exact decide_eq_decide.2 (by omega)
 have z5 : decide ((2 : Int) ≤ (kids.length : Int)) = decide (2 ≤ kids.length) := decide_eq_decide.2 (by omega)
 have z6 : ((kids.length : Int) == 1) = decide (kids.length = 1) := by rw [o8]; exact decide_eq_decide.2 (by omega)
 generalize decide (ws.length + kids.length = 0) = a1 at z1 HOK
 generalize decide (0 < kids.length) = a2 at z2 HOK
 generalize decide (ws.length = 0) = a3 at z3 HOK
 generalize decide (ws.length = kids.length) = a4 at z4 HOK
 generalize decide (2 ≤ kids.length) = a5 at z5 HOK
 generalize decide (kids.length = 1) = a6 at z6 HOK
 clear hd
 go_wp2_with (first
  |((with_reducible refine (HN.out _).mono ?_); rintro e W2 ⟨rfl, h2⟩; obtain ⟨-, hr⟩ := row_step hb hr h2; obtain ⟨e0, e1, e2, e3, e4, -⟩ := jF hr.out)
  |((with_reducible refine (HM.out _ _).mono ?_); rintro e W3 ⟨rfl, rfl⟩))
 all_goals
  go_ret
  refine ⟨by rw [HOK.out]; simp_all, ?_⟩
  first | exact hb.trans (h2.mono hb.size) | exact hb
theorem sW (t : Tm) : ITOk t := by
 have : ∀ (n : Nat) (t : Tm), au t ≤ n → ITOk t := by
  intro n
  induction n with
  |zero => intro t ht; exact absurd ht (by cases t; rw [au]; omega)
  |succ n ih => intro t ht; exact IV t (fun k hk => ih k (by have := gI hk; omega))
 exact this _ t (Nat.le_refl _)
end Go.Proofs.YtbmglebipepdmaaGreatDoor
namespace Go.Proofs.YtbmglebipepdmaaGreatDoor
open Go.RowKit
theorem tV (l : List (List UInt8)) (sep : List UInt8) (k : Nat) (h : k < l.length) : Lib.join (l.take (k + 1)) sep = Lib.join (l.take k) sep ++ (if k = 0 then [] else sep) ++ l[k] := by
 match l, h with
 |x :: r, h =>
  cases k with
  |zero => simp [Lib.join_one, Lib.join_nil]
  |succ k =>
   simp only [List.length_cons] at h
   have e := Lib.joinTail_take_succ sep r k r[k] (List.getElem?_eq_getElem (by omega))
   rw [List.take_succ_cons, List.take_succ_cons, Lib.join_cons, Lib.join_cons, e]
   simp
theorem oJ (l : List (List UInt8)) (sep : List UInt8) (k : Nat) : (Lib.join (l.take k) sep).length ≤ (Lib.join l sep).length := by
 match l with
 |[] => simp
 |x :: r =>
  cases k with
  |zero => simp [Lib.join_nil]
  |succ k =>
   have := Lib.joinTail_take_le sep r k
   rw [List.take_succ_cons, Lib.join_cons, Lib.join_cons, List.length_append, List.length_append]
   omega
theorem kJ (l : List (List UInt8)) (sep : List UInt8) (h : 0 < l.length) : Lib.join (l.take (0 + 1)) sep = Lib.join (l.take 0) sep ++ l[0] := by rw [tV l sep 0 h]; simp
theorem kX (l : List (List UInt8)) (sep : List UInt8) (k : Nat) (h : k < l.length) (hk : 0 < k) : Lib.join (l.take (k + 1)) sep = Lib.join (l.take k) sep ++ sep ++ l[k] := by rw [tV l sep k h, if_neg (by omega)]

set_option maxRecDepth 100000 in
set_option maxHeartbeats 2000000 in
theorem vQ (l : List ByteArray) (A : Option Addr) (c : Nat) (w : World) (S : Nat → Prop) (h : aL w S 1 A l.length (l.map Value.string)) (hS : ∀ g, S g → g < w.heap.size) (hl : 2 * l.length + tot l ≤ 48000000000) :
  Calls Tryz.prog 75 #[.slice A l.length c] w fun e w' => e = .returned (.string (bs (dV l))) ∧ w = w' := by
 have H := Lib.hid h
 have hjl := kW l [44, 32]
 have hlen : (lst l).length = l.length := by simp [lst]
 have HLE := Lib.hid (show ∀ k, (Lib.join ((lst l).take k) [44, 32]).length ≤ 48000000000 from fun k => by have := oJ (lst l) [44, 32] k; unfold joined at hjl; simp only [List.length_cons, List.length_nil] at hjl; omega)
 have HLL := Lib.hid hlen
 clear h hjl hlen
 go_enter Tryz.func75, Tryz.ntmps75
 go_wp2
 go_loop [3, 4] (fun o x => ∃ k : Nat, k ≤ l.length ∧ x = .int .i64 k ∧ o = .string (bs (Lib.join ((lst l).take k) [44, 32]))) (fun _ x => l.length - (intOf x).toNat)
 case atStart => exact ⟨0, Nat.zero_le _, rfl, rfl⟩
 case round =>
  obtain ⟨k, hk, rfl, rfl⟩ := hrel
  obtain ⟨T, hT⟩ : ∃ T, T = bs (Lib.join ((lst l).take k) [44, 32]) := ⟨_, rfl⟩
  have hTs : T.size ≤ 48000000000 := by rw [hT, cK]; exact HLE.out k
  rw [← hT]
  have HT := Lib.hid hT
  clear hT
  by_cases hlt : k < l.length
  ·obtain ⟨g1, o1, rfl, hS1, k1⟩ := one_cell H.out hlt
   have hg1 : g1 < w.heap.size := hS g1 hS1
   have hkI : (k : Int) < (l.length : Int) := by omega
   have hk0 : (0 : Int) ≤ (k : Int) := by omega
   have hkl : k < (lst l).length := by rw [HLL.out]; exact hlt
   have hq : (lst l)[k] = l[k].data.toList := by simp [lst]
   have hus : l[k].size ≤ 48000000000 := by
    have := Kk l k
    rw [List.getD_eq_getElem?_getD, List.getElem?_eq_getElem hlt] at this
    simp at this
    omega
   by_cases hz : 0 < k
   ·have hzI : (0 : Int) < (k : Int) := by omega
    have HS := Lib.hid (kX (lst l) [44, 32] k hkl hz)
    rw [hq] at HS
    generalize l[k] = u at k1 hus HS
    clear hq hz
    go_wp2
    go_round
    case rel =>
     refine ⟨k + 1, by omega, by go_num, ?_⟩
     rw [HS.out, HT.out, ← dS u, show (⟨#[44, 32]⟩ : ByteArray) = bs [44, 32] from rfl]
     simp only [bV, eZ, List.append_assoc]
    case measure => simp [intOf]; omega
   ·obtain rfl : k = 0 := by omega
    have HS := Lib.hid (kJ (lst l) [44, 32] hkl)
    rw [hq] at HS
    generalize l[0] = u at k1 hus HS
    rw [Nat.add_zero] at k1
    clear hq hz
    go_wp2
    go_round
    case rel =>
     refine ⟨0 + 1, by omega, by go_num, ?_⟩
     rw [HS.out, HT.out, ← dS u]
     simp only [bV, eZ]
    case measure => simp [intOf]; omega
  ·obtain rfl : k = l.length := by omega
   have hkI : ¬ (l.length : Int) < (l.length : Int) := by omega
   have HE := Lib.hid (show T = bs (dV l) by rw [HT.out, ← HLL.out, List.take_length]; rfl)
   go_wp2
   go_ret
   exact ⟨by rw [← HE.out]; rfl, rfl⟩

def xV (b : Bool) : List Int := if b then [4] else [3, 4]
def TTOk (t : Tm) : Prop := ∀ (v : Value) (w : World) (S : Nat → Prop), eG w S t v → (∀ g, S g → g < w.heap.size) → iZ t = true → au t ≤ 1000000000 → Pow w →
 Calls Tryz.prog 77 #[v] w fun e w' => e = .returned (.string (bs (aU t))) ∧ Below w.heap.size w w'

theorem JJ (t : Tm) (b : Bool) (x : List UInt8) (h : t.op = 4 ∨ b = false ∧ t.op = 3) : par (xV b) t x = [40] ++ x ++ [41] := by
 unfold par xV
 rcases h with h | ⟨rfl, h⟩
 ·rw [h]; cases b <;> rfl
 ·rw [h]; rfl
theorem BD (t : Tm) (b : Bool) (x : List UInt8) (h4 : t.op ≠ 4) (h3 : b = true ∨ t.op ≠ 3) : par (xV b) t x = x := by
 have key : (xV b).contains t.op = false := by
  cases b
  ·have h3 : t.op ≠ 3 := by
    rcases h3 with h | h
    ·simp at h
    ·exact h
   show ([3, 4] : List Int).contains t.op = false
   rw [List.contains_eq_mem, decide_eq_false_iff_not]
   simp; omega
  ·show ([4] : List Int).contains t.op = false
   rw [List.contains_eq_mem, decide_eq_false_iff_not]
   simp; omega
 unfold par
 rw [key, if_neg (by simp)]

set_option maxRecDepth 100000 in
set_option maxHeartbeats 8000000 in
theorem LF (l : List Tm) (b : Bool) (sep : ByteArray) (S : Nat → Prop) (A : Option Addr) (c : Nat) (w : World) (hl : aT (eG w S) w S 5 A l) (hS : ∀ g, S g → g < w.heap.size)
  (hok : ∀ k ∈ l, iZ k = true) (hT : ∀ k ∈ l, TTOk k) (hsz : aX l ≤ 1000000000) (hsep : sep.size ≤ 3) (hpw : Pow w) :
  Calls Tryz.prog 107 #[.slice A l.length c, .string sep, .bool b] w fun e w' => e = .returned (.string (bs (Lib.join (l.map fun k => par (xV b) k (aU k)) sep.data.toList))) ∧ Below w.heap.size w w' := by
 have HL := Lib.hid hl
 have HK := Lib.hid hok
 have HIH := Lib.hid hT
 have HP := Lib.hid hpw
 have hll := jI l
 obtain ⟨Q, hQ⟩ : ∃ Q, Q = l.map fun k => par (xV b) k (aU k) := ⟨_, rfl⟩
 have hQl : Q.length = l.length := by rw [hQ, List.length_map]
 have hpl := JW hok (xV b) sep.data.toList (by simpa using hsep)
 rw [← hQ] at hpl ⊢
 have HLE := Lib.hid (show ∀ k, (Lib.join (Q.take k) sep.data.toList).length ≤ 48000000000 from fun k => by have := oJ Q sep.data.toList k; omega)
 have HQ := Lib.hid (show ∀ k (h : k < l.length) (h2 : k < Q.length), Q[k] = par (xV b) l[k] (aU l[k]) from fun k h h2 => by simp [hQ])
 have HQL := Lib.hid hQl
 clear hl hok hT hpw hQ hQl hpl
 go_enter Tryz.func107, Tryz.ntmps107
 go_wp2
 go_loopw [7, 8] (fun o x wr => ∃ k : Nat, k ≤ l.length ∧ x = .int .i64 k ∧ o = .string (bs (Lib.join (Q.take k) sep.data.toList)) ∧ Below w.heap.size w wr) (fun _ x _ => l.length - (intOf x).toNat)
 case atStart => exact ⟨0, Nat.zero_le _, rfl, by simp [Lib.join_nil]; rfl, Below.refl _ _⟩
 case round =>
  obtain ⟨k, hk, rfl, rfl, hb⟩ := hrel
  have hsr := hb.size
  obtain ⟨T, hTd⟩ : ∃ T, T = bs (Lib.join (Q.take k) sep.data.toList) := ⟨_, rfl⟩
  have hTs : T.size ≤ 48000000000 := by rw [hTd, cK]; exact HLE.out k
  rw [← hTd]
  have HT := Lib.hid hTd
  clear hTd
  by_cases hlt : k < l.length
  ·obtain ⟨g, o, op1, nm1, nd1, wA1, wn1, wc1, kA1, kn1, kc1, rfl, hSg, htm, k0, k1, k2, k3, k4, hop⟩ := fQ (HL.out.keep (P' := eG wr S) (aA hb hS) (fun _ _ h => h.keep (aA hb hS))) hlt
   have hgs : g < wr.heap.size := World.block_lt_of_cell? wr _ k0
   have hkI : (k : Int) < (l.length : Int) := by omega
   have hk0 : (0 : Int) ≤ (k : Int) := by omega
   have hmem : l[k] ∈ l := List.getElem_mem hlt
   have hkl : k < Q.length := by rw [HQL.out]; exact hlt
   have hts := bI hmem
   have htl := fM (HK.out _ hmem)
   have hC := HIH.out _ hmem _ wr S htm (fun g hg => by have := hS g hg; omega) (HK.out _ hmem) (by omega) (HP.out.below hb)
   have hq := HQ.out k hlt hkl
   have hus : (bs (aU l[k])).size ≤ 48000000000 := by rw [cK]; omega
   obtain ⟨t, ht⟩ : ∃ t, t = l[k] := ⟨_, rfl⟩
   rw [← ht] at hC hq hop hus
   obtain ⟨U, hU⟩ : ∃ U, U = bs (aU t) := ⟨_, rfl⟩
   rw [← hU] at hC hus
   have HU := Lib.hid hU
   have HC := Lib.hid hC
   have HOP := Lib.hid hop
   clear htm htl hts hC ht hU hop hmem
   by_cases h4 : op1 = 4
   ·have q4 : (op1 == 4) = true := by rw [h4]; rfl
    rw [JJ _ _ _ (.inl (HOP.out.symm.trans h4))] at hq
    clear h4
    by_cases hz : 0 < k
    ·have hzI : (0 : Int) < (k : Int) := by omega
     have HS : Hid (Lib.join (Q.take (k + 1)) sep.data.toList = Lib.join (Q.take k) sep.data.toList ++ sep.data.toList ++ Q[k]) := kX Q _ k hkl hz
     rw [hq] at HS
     clear hq hz
     go_wp2_with fail
     refine HC.out.mono ?_
     rintro e W2 ⟨rfl, hb2⟩
     go_wp2
     go_roundw
     case rel =>
      refine ⟨k + 1, by omega, by go_num, ?_, hb.trans (hb2.mono (by omega))⟩
      ·rw [HS.out, HT.out, HU.out, ← dS sep, show (⟨#[40]⟩ : ByteArray) = bs [40] from rfl, show (⟨#[41]⟩ : ByteArray) = bs [41] from rfl]
       simp only [bV, eZ, List.append_assoc]
     case measure => simp [intOf]; omega
    ·obtain rfl : k = 0 := by omega
     rw [Nat.zero_mul, Nat.add_zero] at k0 k1 k2 k3 k4
     have HS : Hid (Lib.join (Q.take (0 + 1)) sep.data.toList = Lib.join (Q.take 0) sep.data.toList ++ Q[0]) := kJ Q _ hkl
     rw [hq] at HS
     clear hq hz
     go_wp2_with fail
     refine HC.out.mono ?_
     rintro e W2 ⟨rfl, hb2⟩
     go_wp2
     go_roundw
     case rel =>
      refine ⟨0 + 1, by omega, by go_num, ?_, hb.trans (hb2.mono (by omega))⟩
      ·rw [HS.out, HT.out, HU.out, show (⟨#[40]⟩ : ByteArray) = bs [40] from rfl, show (⟨#[41]⟩ : ByteArray) = bs [41] from rfl]
       simp only [bV, List.append_assoc]
     case measure => simp [intOf]; omega
   ·have q4 : (op1 == 4) = false := by rw [beq_eq_false_iff_ne]; exact h4
    cases b
    ·by_cases h3 : op1 = 3
     ·have q3 : (op1 == 3) = true := by rw [h3]; rfl
      rw [JJ _ _ _ (.inr ⟨rfl, HOP.out.symm.trans h3⟩)] at hq
      clear h3 h4
      by_cases hz : 0 < k
      ·have hzI : (0 : Int) < (k : Int) := by omega
       have HS : Hid (Lib.join (Q.take (k + 1)) sep.data.toList = Lib.join (Q.take k) sep.data.toList ++ sep.data.toList ++ Q[k]) := kX Q _ k hkl hz
       rw [hq] at HS
       clear hq hz
       go_wp2_with fail
       refine HC.out.mono ?_
       rintro e W2 ⟨rfl, hb2⟩
       go_wp2
       go_roundw
       case rel =>
        refine ⟨k + 1, by omega, by go_num, ?_, hb.trans (hb2.mono (by omega))⟩
        ·rw [HS.out, HT.out, HU.out, ← dS sep, show (⟨#[40]⟩ : ByteArray) = bs [40] from rfl, show (⟨#[41]⟩ : ByteArray) = bs [41] from rfl]
         simp only [bV, eZ, List.append_assoc]
       case measure => simp [intOf]; omega
      ·obtain rfl : k = 0 := by omega
       rw [Nat.zero_mul, Nat.add_zero] at k0 k1 k2 k3 k4
       have HS : Hid (Lib.join (Q.take (0 + 1)) sep.data.toList = Lib.join (Q.take 0) sep.data.toList ++ Q[0]) := kJ Q _ hkl
       rw [hq] at HS
       clear hq hz
       go_wp2_with fail
       refine HC.out.mono ?_
       rintro e W2 ⟨rfl, hb2⟩
       go_wp2
       go_roundw
       case rel =>
        refine ⟨0 + 1, by omega, by go_num, ?_, hb.trans (hb2.mono (by omega))⟩
        ·rw [HS.out, HT.out, HU.out, show (⟨#[40]⟩ : ByteArray) = bs [40] from rfl, show (⟨#[41]⟩ : ByteArray) = bs [41] from rfl]
         simp only [bV, List.append_assoc]
       case measure => simp [intOf]; omega
     ·have q3 : (op1 == 3) = false := by rw [beq_eq_false_iff_ne]; exact h3
      rw [BD _ _ _ (by rw [← HOP.out]; exact h4) (.inr (by rw [← HOP.out]; exact h3))] at hq
      clear h3 h4
      by_cases hz : 0 < k
      ·have hzI : (0 : Int) < (k : Int) := by omega
       have HS : Hid (Lib.join (Q.take (k + 1)) sep.data.toList = Lib.join (Q.take k) sep.data.toList ++ sep.data.toList ++ Q[k]) := kX Q _ k hkl hz
       rw [hq] at HS
       clear hq hz
       go_wp2_with fail
       refine HC.out.mono ?_
       rintro e W2 ⟨rfl, hb2⟩
       go_wp2
       go_roundw
       case rel =>
        refine ⟨k + 1, by omega, by go_num, ?_, hb.trans (hb2.mono (by omega))⟩
        ·rw [HS.out, HT.out, HU.out, ← dS sep]
         simp only [bV, eZ, List.append_assoc]
       case measure => simp [intOf]; omega
      ·obtain rfl : k = 0 := by omega
       rw [Nat.zero_mul, Nat.add_zero] at k0 k1 k2 k3 k4
       have HS : Hid (Lib.join (Q.take (0 + 1)) sep.data.toList = Lib.join (Q.take 0) sep.data.toList ++ Q[0]) := kJ Q _ hkl
       rw [hq] at HS
       clear hq hz
       go_wp2_with fail
       refine HC.out.mono ?_
       rintro e W2 ⟨rfl, hb2⟩
       go_wp2
       go_roundw
       case rel =>
        refine ⟨0 + 1, by omega, by go_num, ?_, hb.trans (hb2.mono (by omega))⟩
        ·rw [HS.out, HT.out, HU.out]
         simp only [bV]
       case measure => simp [intOf]; omega
    ·rw [BD _ _ _ (by rw [← HOP.out]; exact h4) (.inl rfl)] at hq
     clear h4
     by_cases hz : 0 < k
     ·have hzI : (0 : Int) < (k : Int) := by omega
      have HS : Hid (Lib.join (Q.take (k + 1)) sep.data.toList = Lib.join (Q.take k) sep.data.toList ++ sep.data.toList ++ Q[k]) := kX Q _ k hkl hz
      rw [hq] at HS
      clear hq hz
      go_wp2_with fail
      refine HC.out.mono ?_
      rintro e W2 ⟨rfl, hb2⟩
      go_wp2
      go_roundw
      case rel =>
       refine ⟨k + 1, by omega, by go_num, ?_, hb.trans (hb2.mono (by omega))⟩
       ·rw [HS.out, HT.out, HU.out, ← dS sep]
        simp only [bV, eZ, List.append_assoc]
      case measure => simp [intOf]; omega
     ·obtain rfl : k = 0 := by omega
      rw [Nat.zero_mul, Nat.add_zero] at k0 k1 k2 k3 k4
      have HS : Hid (Lib.join (Q.take (0 + 1)) sep.data.toList = Lib.join (Q.take 0) sep.data.toList ++ Q[0]) := kJ Q _ hkl
      rw [hq] at HS
      clear hq hz
      go_wp2_with fail
      refine HC.out.mono ?_
      rintro e W2 ⟨rfl, hb2⟩
      go_wp2
      go_roundw
      case rel =>
       refine ⟨0 + 1, by omega, by go_num, ?_, hb.trans (hb2.mono (by omega))⟩
       ·rw [HS.out, HT.out, HU.out]
        simp only [bV]
      case measure => simp [intOf]; omega
  ·obtain rfl : k = l.length := by omega
   have hkI : ¬ (l.length : Int) < (l.length : Int) := by omega
   have HE := Lib.hid (show T = bs (Lib.join Q sep.data.toList) by rw [HT.out, ← HQL.out, List.take_length])
   go_wp2
   go_ret
   exact ⟨by rw [← HE.out]; rfl, hb⟩


theorem Hf (ws : List Int) (ks : List Tm) (k : Nat) (hk : k < ks.length) (hww : ws.length = 0 ∨ ws.length = ks.length) (h : k < (weighed ws (ks.map aU)).length) :
  (weighed ws (ks.map aU))[k] = if h0 : k < ws.length then aU ks[k] ++ ([42] ++ Lib.itoa ws[k]) else aU ks[k] := by
 have key : (weighed ws (ks.map aU))[k]? = some (if h0 : k < ws.length then aU ks[k] ++ ([42] ++ Lib.itoa ws[k]) else aU ks[k]) := by
  unfold weighed
  by_cases hz : ws.length = 0
  ·rw [if_pos hz, dif_neg (by omega)]; simp [hk]
  ·have hw : k < ws.length := by rcases hww with e | e <;> omega
   rw [if_neg hz, dif_pos hw, List.getElem?_zipWith]
   simp [hk, hw]
 rw [List.getElem?_eq_getElem h] at key
 exact Option.some.inj key
theorem Hl (ws : List Int) (ks : List Tm) (hww : ws.length = 0 ∨ ws.length = ks.length) : (weighed ws (ks.map aU)).length = ks.length := by
 unfold weighed
 split
 ·simp
 ·simp; omega

set_option maxRecDepth 100000 in
set_option maxHeartbeats 8000000 in
theorem AZ (t : Tm) (ih : ∀ k ∈ t.kids, TTOk k) : TTOk t := by
 intro v w S hv hS hok hsz hpw
 obtain ⟨hhead, hws, hks⟩ := nE hok
 have hss := dU t
 have htl := fM hok
 cases hv with
 |mk op nm need ws kids wA kA cw kc vs hw hwc hk hkc hl h =>
 have hss : au (.mk op nm need ws kids) = 1 + nm.size + ws.length + aX kids := hss
 have hnm : nm.size ≤ 1000000000 := by omega
 have hkz : aX kids ≤ 1000000000 := by omega
 have hkl := jI kids
 have hwl : ws.length ≤ 1000000000 := by omega
 have IH := Lib.hid (show ∀ k ∈ kids, TTOk k from ih)
 have M7 := Lib.hid (show ∀ k ∈ kids, iZ k = true from hks)
 have HWok := Lib.hid (show ∀ k ∈ ws, small k = true from hws)
 have HH := Lib.hid hhead
 have HWs := Lib.hid hw
 have HL := Lib.hid (show aT (eG w S) w S 5 kA kids from ⟨vs, hl, hk, h⟩)
 have HP := Lib.hid hpw
 have HTL := Lib.hid (show (aU (.mk op nm need ws kids)).length ≤ 48000000000 by omega)
 have hbA : ∀ o, Below w.heap.size w (w.alloc o) := fun o => (Below.refl _ _).alloc (Nat.le_refl _) o
 clear ih hks hws hhead hw hk hl h hpw htl hss hok hsz
 have hbox : ∀ o, aT (eG (w.alloc o) S) (w.alloc o) S 5 kA kids := fun o => HL.out.keep (aA (hbA o) hS) (fun _ _ h => h.keep (aA (hbA o) hS))
 have hj := fun (b : Bool) (sep : ByteArray) (hsep : sep.size ≤ 3) o => LF kids b sep S kA kc (w.alloc o) (hbox o) (fun g hg => by have := hS g hg; simp; omega) M7.out IH.out hkz hsep (HP.out.below (hbA o))
 have HJ := Lib.hid hj
 clear hbox hj
 by_cases h3 : op = 3
 ·subst h3
  have E := Lib.hid (text3 nm need ws kids)
  go_enter Tryz.func77, Tryz.ntmps77
  go_wp2_with fail
  refine (HJ.out false ⟨#[32, 38, 32]⟩ (by decide) _).mono ?_
  rintro e w' ⟨rfl, hb2⟩
  go_wp2
  go_ret
  exact ⟨congrArg (fun b => Ending.returned (.string (bs b))) E.out.symm, (hbA _).trans (hb2.mono (by simp))⟩
 have q3 : (op == 3) = false := by rw [beq_eq_false_iff_ne]; exact h3
 by_cases h4 : op = 4
 ·subst h4
  have E := Lib.hid (text4 nm need ws kids)
  go_enter Tryz.func77, Tryz.ntmps77
  go_wp2_with fail
  refine (HJ.out true ⟨#[32, 124, 32]⟩ (by decide) _).mono ?_
  rintro e w' ⟨rfl, hb2⟩
  go_wp2
  go_ret
  exact ⟨congrArg (fun b => Ending.returned (.string (bs b))) E.out.symm, (hbA _).trans (hb2.mono (by simp))⟩
 have q4 : (op == 4) = false := by rw [beq_eq_false_iff_ne]; exact h4
 clear HJ
 by_cases h5 : op = 5
 ·subst h5
  obtain ⟨k, rfl⟩ : ∃ k, kids = [k] := by
   have h5 := HH.out
   have e : bY (.mk 5 nm need ws kids) = (decide (nm.size = 0) && decide (need = 0) && decide (ws.length = 0) && decide (kids.length = 1)) := rfl
   rw [e] at h5
   simp only [Bool.and_eq_true, decide_eq_true_eq] at h5
   exact List.length_eq_one_iff.1 h5.2
  obtain ⟨g, o, op, nm2, nd, wA2, wn, wc2, kA2, kn, kc2, rfl, hSg, htm, k0, k1, k2, k3, k4, -⟩ := fQ (l := [k]) (i := 0) HL.out (by simp)
  rw [Nat.zero_mul, Nat.add_zero] at k0 k1 k2 k3 k4
  have htm : eG w S k _ := htm
  have hgs : g < w.heap.size := hS g hSg
  have hmem : k ∈ [k] := by simp
  have htl := fM (M7.out k hmem)
  have hts := bI hmem
  have HC := Lib.hid (fun o => IH.out k hmem _ (w.alloc o) S (htm.keep (aP (hbA o))) (fun g hg => by have := hS g hg; simp; omega) (M7.out k hmem) (by omega) (HP.out.below (hbA o)))
  have E := Lib.hid (text5 nm need ws k)
  obtain ⟨T, hTT⟩ : ∃ T : ByteArray, T = bs (aU k) := ⟨_, rfl⟩
  have hTs : T.size ≤ 48000000000 := by rw [hTT, cK]; omega
  have HTT := Lib.hid hTT
  clear htm hTT
  go_enter Tryz.func77, Tryz.ntmps77
  go_wp2_with fail
  refine (HC.out _).mono ?_
  rintro e w' ⟨rfl, hb2⟩
  rw [← HTT.out]
  go_wp2
  go_ret
  refine ⟨?_, (hbA _).trans (hb2.mono (by simp))⟩
  rw [E.out]
  exact congrArg (fun b => Ending.returned (.string b)) (yj _ _ _ _ _ _ rfl HTT.out rfl)
 have q5 : (op == 5) = false := by rw [beq_eq_false_iff_ne]; exact h5
 by_cases h6 : op = 6
 ·subst h6
  have E := Lib.hid (show (⟨#[109, 97, 106, 111, 114, 105, 116, 121, 40]⟩ : ByteArray) ++ nm ++ (⟨#[41]⟩ : ByteArray) = bs (aU (.mk 6 nm need ws kids)) by
   rw [text6]; exact yj _ _ _ _ _ _ rfl (dS nm).symm rfl)
  go_enter Tryz.func77, Tryz.ntmps77
  go_wp2
  go_ret
  exact ⟨congrArg (fun b => Ending.returned (.string b)) E.out, hbA _⟩
 have q6 : (op == 6) = false := by rw [beq_eq_false_iff_ne]; exact h6
 by_cases h7 : op = 7
 ·subst h7
  have E := Lib.hid (show (⟨#[97, 108, 108, 40]⟩ : ByteArray) ++ nm ++ (⟨#[41]⟩ : ByteArray) = bs (aU (.mk 7 nm need ws kids)) by
   rw [text7]; exact yj _ _ _ _ _ _ rfl (dS nm).symm rfl)
  go_enter Tryz.func77, Tryz.ntmps77
  go_wp2
  go_ret
  exact ⟨congrArg (fun b => Ending.returned (.string b)) E.out, hbA _⟩
 have q7 : (op == 7) = false := by rw [beq_eq_false_iff_ne]; exact h7
 by_cases h8 : op = 8
 ·subst h8
  have E := Lib.hid (show (⟨#[97, 110, 121, 40]⟩ : ByteArray) ++ nm ++ (⟨#[41]⟩ : ByteArray) = bs (aU (.mk 8 nm need ws kids)) by
   rw [text8]; exact yj _ _ _ _ _ _ rfl (dS nm).symm rfl)
  go_enter Tryz.func77, Tryz.ntmps77
  go_wp2
  go_ret
  exact ⟨congrArg (fun b => Ending.returned (.string b)) E.out, hbA _⟩
 have q8 : (op == 8) = false := by rw [beq_eq_false_iff_ne]; exact h8
 by_cases h1 : op = 1
 ·subst h1
  have E := Lib.hid (show nm = bs (aU (.mk 1 nm need ws kids)) by rw [show aU (.mk 1 nm need ws kids) = nm.data.toList by rw [jy]; rfl]; exact (dS nm).symm)
  go_enter Tryz.func77, Tryz.ntmps77
  go_wp2
  go_ret
  exact ⟨congrArg (fun b => Ending.returned (.string b)) E.out, hbA _⟩
 have q1 : (op == 1) = false := by rw [beq_eq_false_iff_ne]; exact h1
 have h2 : op = 2 := by
  have hx := HH.out
  apply Decidable.byContradiction
  intro h2
  unfold bY at hx
  rw [show (Tm.mk op nm need ws kids).op = op from rfl, if_neg h1, if_neg (by omega), if_neg h2, if_neg (by omega), if_neg h5] at hx
  exact absurd hx (by simp)
 subst h2
 obtain ⟨hnd, hk0, hww⟩ : small need = true ∧ 0 < kids.length ∧ (ws.length = 0 ∨ ws.length = kids.length) := by
  have h5 := HH.out
  have e : bY (.mk 2 nm need ws kids) = (decide (nm.size = 0) && small need && decide (0 < kids.length) && (decide (ws.length = 0) || decide (ws.length = kids.length))) := rfl
  rw [e] at h5
  simp only [Bool.and_eq_true, Bool.or_eq_true, decide_eq_true_eq] at h5
  exact ⟨h5.1.1.2, h5.1.2, h5.2⟩
 have htx := text2 nm need ws kids
 have htl := HTL.out
 rw [htx] at htl
 simp only [List.length_append, List.length_cons, List.length_nil] at htl
 obtain ⟨Q, hQ⟩ : ∃ Q, Q = weighed ws (kids.map aU) := ⟨_, rfl⟩
 rw [← hQ] at htx htl
 have HQL := Lib.hid (show Q.length = kids.length by rw [hQ]; exact Hl ws kids hww)
 have HQ := Lib.hid (show ∀ k (h : k < kids.length) (h2 : k < Q.length), Q[k] = if h0 : k < ws.length then aU kids[k] ++ ([42] ++ Lib.itoa ws[k]) else aU kids[k] from fun k h h2 => by subst hQ; exact Hf ws kids k h hww h2)
 have HLE := Lib.hid (show ∀ k, (Lib.itoa need ++ [40] ++ Lib.join (Q.take k) [44, 32]).length ≤ 48000000000 from fun k => by have := oJ Q [44, 32] k; simp only [List.length_append, List.length_cons, List.length_nil]; omega)
 have E := Lib.hid htx
 have HND := Lib.hid hnd
 have HWW := Lib.hid hww
 clear hnd hww htx htl hQ h1 h3 h4 h5 h6 h7 h8 q1 q3 q4 q5 q6 q7 q8
 obtain ⟨W0, hW0⟩ : ∃ W0 : World, W0 = w.alloc (.cells #[.int .i64 2, .string nm, .int .i64 need, .slice wA ws.length cw, .slice kA kids.length kc] 39) := ⟨_, rfl⟩
 have hb0 : Below w.heap.size w W0 := by rw [hW0]; exact hbA _
 have hs0 : w.heap.size < W0.heap.size := by rw [hW0]; simp
 have hr0 : W0.heap[w.heap.size]? = some (.cells #[.int .i64 2, .string nm, .int .i64 need, .slice wA ws.length cw, .slice kA kids.length kc] 39 (0, 0)) := by rw [hW0]; exact heap_alloc_new w _
 have HR0 := Lib.hid hr0
 have HW0 := Lib.hid hW0
 have HI := Lib.hid (nC need HND.out W0 (HP.out.below hb0))
 obtain ⟨I, hI⟩ : ∃ I : ByteArray, I = bs (Lib.itoa need) := ⟨_, rfl⟩
 have hIs : I.size ≤ 21 := by rw [hI, cK]; exact gF HND.out
 rw [← hI] at HI
 have HIE := Lib.hid hI
 clear hW0 hr0 hI hbA
 go_enter Tryz.func77, Tryz.ntmps77
 go_wp2_with fail
 rw [← HW0.out]
 refine HI.out.mono ?_
 rintro e W1 ⟨rfl, hb1⟩
 have hs1 : w.heap.size < W1.heap.size := Nat.lt_of_lt_of_le hs0 hb1.size
 have pR : Below (w.heap.size + 1) W0 W1 := hb1.mono (by omega)
 go_wp2
 go_loopw [3, 4] (fun o x wr => ∃ k : Nat, k ≤ kids.length ∧ x = .int .i64 k ∧ o = .string (bs (Lib.itoa need ++ [40] ++ Lib.join (Q.take k) [44, 32])) ∧ Below (w.heap.size + 1) W0 wr) (fun _ x _ => kids.length - (intOf x).toNat)
 case atStart => exact ⟨0, Nat.zero_le _, rfl, by rw [HIE.out, List.take_zero, Lib.join_nil, List.append_nil]; exact congrArg Value.string (cat2 _ _ _ _ rfl rfl), pR⟩
 case round =>
  obtain ⟨k, hk, rfl, rfl, hb⟩ := hrel
  have hsr := hb.size
  have hbw : Below w.heap.size w wr := hb0.trans (hb.mono (by omega))
  have hrr := (hb.block _ (by omega)).trans HR0.out
  obtain ⟨c0, c1, c2, c3, c4, -⟩ := jF hrr
  clear hrr
  obtain ⟨X, hX⟩ : ∃ X, X = bs (Lib.itoa need ++ [40] ++ Lib.join (Q.take k) [44, 32]) := ⟨_, rfl⟩
  have hXs : X.size ≤ 48000000000 := by rw [hX, cK]; exact HLE.out k
  rw [← hX]
  have HX := Lib.hid hX
  clear hX
  by_cases hlt : k < kids.length
  ·obtain ⟨g, o, op1, nm1, nd1, wA1, wn1, wc1, kA1, kn1, kc1, rfl, hSg, htm, k0, k1, k2, k3, k4, -⟩ := fQ (HL.out.keep (P' := eG wr S) (aA hbw hS) (fun _ _ h => h.keep (aA hbw hS))) hlt
   have hgs : g < wr.heap.size := World.block_lt_of_cell? wr _ k0
   have hkI : (k : Int) < (kids.length : Int) := by omega
   have hk0 : (0 : Int) ≤ (k : Int) := by omega
   have hmem : kids[k] ∈ kids := List.getElem_mem hlt
   have hql : k < Q.length := by rw [HQL.out]; exact hlt
   have hts := bI hmem
   have htl := fM (M7.out _ hmem)
   have hC := IH.out _ hmem _ wr S htm (fun g hg => by have := hS g hg; omega) (M7.out _ hmem) (by omega) (HP.out.below hbw)
   have hq := HQ.out k hlt hql
   have hus : (bs (aU kids[k])).size ≤ 48000000000 := by rw [cK]; omega
   obtain ⟨t, ht⟩ : ∃ t, t = kids[k] := ⟨_, rfl⟩
   rw [← ht] at hC hq hus
   obtain ⟨U, hU⟩ : ∃ U, U = bs (aU t) := ⟨_, rfl⟩
   rw [← hU] at hC hus
   have HU := Lib.hid hU
   have HC := Lib.hid hC
   clear htm htl hts hC ht hU hmem
   by_cases hwz : ws.length = 0
   ·have hwI : ¬ (0 : Int) < (ws.length : Int) := by omega
    rw [dif_neg (by omega)] at hq
    clear hwz
    by_cases hz : 0 < k
    ·have hzI : (0 : Int) < (k : Int) := by omega
     have HS : Hid (Lib.join (Q.take (k + 1)) [44, 32] = Lib.join (Q.take k) [44, 32] ++ [44, 32] ++ Q[k]) := kX Q _ k hql hz
     rw [hq] at HS
     clear hq hz
     go_wp2_with fail
     refine HC.out.mono ?_
     rintro e W2 ⟨rfl, hb2⟩
     have hs2 := hb2.size
     have hbw2 : Below w.heap.size w W2 := hbw.trans (hb2.mono hbw.size)
     have Kj : Below (w.heap.size + 1) W0 W2 := hb.trans (hb2.mono (by omega))
     obtain ⟨d0, d1, d2, d3, d4, -⟩ := jF ((Kj.block _ (by omega)).trans HR0.out)
     clear c0 c1 c2 c3 c4 k0 k1 k2 k3 k4
     go_wp2
     go_roundw
     case rel =>
      refine ⟨k + 1, by omega, by go_num, ?_, Kj⟩
      ·rw [HS.out, HX.out, HU.out, show (⟨#[44, 32]⟩ : ByteArray) = bs [44, 32] from rfl]
       simp only [bV, List.append_assoc]
     case measure => simp [intOf]; omega
    ·obtain rfl : k = 0 := by omega
     rw [Nat.zero_mul, Nat.add_zero] at k0 k1 k2 k3 k4
     have HS : Hid (Lib.join (Q.take (0 + 1)) [44, 32] = Lib.join (Q.take 0) [44, 32] ++ Q[0]) := kJ Q _ hql
     rw [hq] at HS
     clear hq hz
     go_wp2_with fail
     refine HC.out.mono ?_
     rintro e W2 ⟨rfl, hb2⟩
     have hs2 := hb2.size
     have hbw2 : Below w.heap.size w W2 := hbw.trans (hb2.mono hbw.size)
     have Kj : Below (w.heap.size + 1) W0 W2 := hb.trans (hb2.mono (by omega))
     obtain ⟨d0, d1, d2, d3, d4, -⟩ := jF ((Kj.block _ (by omega)).trans HR0.out)
     clear c0 c1 c2 c3 c4 k0 k1 k2 k3 k4
     go_wp2
     go_roundw
     case rel =>
      refine ⟨0 + 1, by omega, by go_num, ?_, Kj⟩
      ·rw [HS.out, HX.out, HU.out]
       simp only [bV, List.append_assoc]
     case measure => simp [intOf]; omega
   ·have hwI : (0 : Int) < (ws.length : Int) := by omega
    have hwk : k < ws.length := by rcases HWW.out with h | h <;> omega
    have hwkI : (k : Int) < (ws.length : Int) := by omega
    rw [dif_pos hwk] at hq
    clear hwz
    by_cases hz : 0 < k
    ·have hzI : (0 : Int) < (k : Int) := by omega
     have HS : Hid (Lib.join (Q.take (k + 1)) [44, 32] = Lib.join (Q.take k) [44, 32] ++ [44, 32] ++ Q[k]) := kX Q _ k hql hz
     rw [hq] at HS
     clear hq hz
     go_wp2_with fail
     refine HC.out.mono ?_
     rintro e W2 ⟨rfl, hb2⟩
     have hs2 := hb2.size
     have hbw2 : Below w.heap.size w W2 := hbw.trans (hb2.mono hbw.size)
     have Kj : Below (w.heap.size + 1) W0 W2 := hb.trans (hb2.mono (by omega))
     obtain ⟨d0, d1, d2, d3, d4, -⟩ := jF ((Kj.block _ (by omega)).trans HR0.out)
     clear c0 c1 c2 c3 c4 k0 k1 k2 k3 k4
     obtain ⟨g2, o2, rfl, hS2, kw⟩ := one_cell (HWs.out.keep (aA hbw2 hS)) hwk
     have hg2 : g2 < W2.heap.size := World.block_lt_of_cell? W2 _ kw
     obtain ⟨m, hm⟩ : ∃ m, m = ws[k] := ⟨_, rfl⟩
     have hsm : small m = true := by rw [hm]; exact HWok.out _ (List.getElem_mem hwk)
     rw [← hm] at kw HS
     have HIm := Lib.hid (nC m hsm W2 (HP.out.below hbw2))
     obtain ⟨J, hJ⟩ : ∃ J : ByteArray, J = bs (Lib.itoa m) := ⟨_, rfl⟩
     have hJs : J.size ≤ 21 := by rw [hJ, cK]; exact gF hsm
     rw [← hJ] at HIm
     have HJE := Lib.hid hJ
     clear hm hsm hJ
     go_wp2_with fail
     refine HIm.out.mono ?_
     rintro e W3 ⟨rfl, hb3⟩
     go_wp2
     go_roundw
     case rel =>
      refine ⟨k + 1, by omega, by go_num, ?_, Kj.trans (hb3.mono (by omega))⟩
      ·rw [HS.out, HX.out, HU.out, HJE.out, show (⟨#[42]⟩ : ByteArray) = bs [42] from rfl, show (⟨#[44, 32]⟩ : ByteArray) = bs [44, 32] from rfl]
       simp only [bV, List.append_assoc]
     case measure => simp [intOf]; omega
    ·obtain rfl : k = 0 := by omega
     rw [Nat.zero_mul, Nat.add_zero] at k0 k1 k2 k3 k4
     have HS : Hid (Lib.join (Q.take (0 + 1)) [44, 32] = Lib.join (Q.take 0) [44, 32] ++ Q[0]) := kJ Q _ hql
     rw [hq] at HS
     clear hq hz
     go_wp2_with fail
     refine HC.out.mono ?_
     rintro e W2 ⟨rfl, hb2⟩
     have hs2 := hb2.size
     have hbw2 : Below w.heap.size w W2 := hbw.trans (hb2.mono hbw.size)
     have Kj : Below (w.heap.size + 1) W0 W2 := hb.trans (hb2.mono (by omega))
     obtain ⟨d0, d1, d2, d3, d4, -⟩ := jF ((Kj.block _ (by omega)).trans HR0.out)
     clear c0 c1 c2 c3 c4 k0 k1 k2 k3 k4
     obtain ⟨g2, o2, rfl, hS2, kw⟩ := one_cell (HWs.out.keep (aA hbw2 hS)) hwk
     have hg2 : g2 < W2.heap.size := World.block_lt_of_cell? W2 _ kw
     obtain ⟨m, hm⟩ : ∃ m, m = ws[0] := ⟨_, rfl⟩
     have hsm : small m = true := by rw [hm]; exact HWok.out _ (List.getElem_mem hwk)
     rw [← hm] at kw HS
     rw [Nat.add_zero] at kw
     have HIm := Lib.hid (nC m hsm W2 (HP.out.below hbw2))
     obtain ⟨J, hJ⟩ : ∃ J : ByteArray, J = bs (Lib.itoa m) := ⟨_, rfl⟩
     have hJs : J.size ≤ 21 := by rw [hJ, cK]; exact gF hsm
     rw [← hJ] at HIm
     have HJE := Lib.hid hJ
     clear hm hsm hJ
     go_wp2_with fail
     refine HIm.out.mono ?_
     rintro e W3 ⟨rfl, hb3⟩
     go_wp2
     go_roundw
     case rel =>
      refine ⟨0 + 1, by omega, by go_num, ?_, Kj.trans (hb3.mono (by omega))⟩
      ·rw [HS.out, HX.out, HU.out, HJE.out, show (⟨#[42]⟩ : ByteArray) = bs [42] from rfl]
       simp only [bV, List.append_assoc]
     case measure => simp [intOf]; omega
  ·obtain rfl : k = kids.length := by omega
   have hkI : ¬ (kids.length : Int) < (kids.length : Int) := by omega
   have HE := Lib.hid (show X ++ (⟨#[41]⟩ : ByteArray) = bs (aU (.mk 2 nm need ws kids)) by rw [HX.out, E.out, ← HQL.out, List.take_length]; exact cat2 _ _ _ _ rfl rfl)
   go_wp2
   go_ret
   exact ⟨by rw [← HE.out]; rfl, hbw⟩
theorem oG (t : Tm) : TTOk t := by
 have : ∀ (n : Nat) (t : Tm), au t ≤ n → TTOk t := by
  intro n
  induction n with
  |zero =>
    intro t ht; have : 0 < au t := by (cases t; rw [au]; omega)
    omega
  |succ n ih => intro t ht; exact AZ t (fun k hk => ih k (by have := gI hk; omega))
 exact this _ t (Nat.le_refl _)
end Go.Proofs.YtbmglebipepdmaaGreatDoor
namespace Go.Proofs.YtbmglebipepdmaaGreatDoor
open Go.RowKit
set_option maxRecDepth 100000 in
set_option maxHeartbeats 4000000 in
theorem Fp (s : ByteArray) (w : World) : Calls Tryz.prog 41 #[.string s] w fun e w' => e = .returned (.tuple #[.string (bs (iK s.data.toList).1), .int .i64 (iK s.data.toList).2]) ∧ Below w.heap.size w w' := by
 have HT := Lib.hid (Bz s w)
 have hsz : s.data.toList.length = s.size := by simp
 have hso : iK s.data.toList = if (decide (s.size ≤ 65536) && decide ((lex s.data.toList 1 []).2.2 = 0) && decide ((lex s.data.toList 1 []).1.length ≤ 3000)) = true then (s.data.toList, 0) else ([], 3) := by
  unfold iK nL; rw [hsz]
 generalize hR : iK s.data.toList = R at *
 clear hR
 go_enter Tryz.func41, Tryz.ntmps41
 go_wp2_with fail
 refine HT.out.mono ?_
 rintro e W ⟨hb, hk⟩
 generalize lex s.data.toList 1 [] = T at hk hso
 obtain ⟨L, li, er⟩ := T
 simp only at hk hso
 have no : (decide (s.size ≤ 65536) && decide (er = 0) && decide (L.length ≤ 3000)) = false → R = ([], 3) := fun h => by rw [hso, h]; rfl
 have yes : (decide (s.size ≤ 65536) && decide (er = 0) && decide (L.length ≤ 3000)) = true → R = (s.data.toList, 0) := fun h => by rw [hso, h]; rfl
 clear hso hsz
 by_cases h1 : 65536 < s.size
 ·rw [if_pos h1] at hk
  subst hk
  have E := Lib.hid (no (by rw [decide_eq_false (show ¬ s.size ≤ 65536 by omega)]; rfl))
  clear no yes h1
  go_wp2
  go_ret2
  exact ⟨by rw [E.out]; rfl, hb⟩
 ·rw [if_neg h1] at hk
  by_cases h2 : er ≠ 0
  ·rw [if_pos h2] at hk
   subst hk
   have hz : ((er : Int) != 0) = true := gY h2
   have E := Lib.hid (no (by rw [decide_eq_false h2]; simp))
   clear no yes h1 h2
   go_wp2
   go_ret2
   exact ⟨by rw [E.out]; rfl, hb⟩
  ·rw [if_neg h2] at hk
   obtain ⟨A, c, rfl, hc, Cc, hlen⟩ := hk
   have h0 : er = 0 := by simpa using h2
   clear Cc
   by_cases h3 : 3000 < L.length
   ·have h3i : (3000 : Int) < (L.length : Int) := by omega
    have E := Lib.hid (no (by rw [decide_eq_false (show ¬ L.length ≤ 3000 by omega)]; simp))
    clear no yes h1 h2 h0 h3
    go_wp2
    go_ret2
    exact ⟨by rw [E.out]; rfl, hb⟩
   ·have h3i : ¬ (3000 : Int) < (L.length : Int) := by omega
    have E := Lib.hid (yes (by rw [decide_eq_true (show s.size ≤ 65536 by omega), decide_eq_true h0, decide_eq_true (show L.length ≤ 3000 by omega)]; rfl))
    clear no yes h1 h2 h0 h3
    go_wp2
    go_ret2
    refine ⟨?_, hb⟩
    rw [E.out]
    show _ = Ending.returned (.tuple #[.string (bs s.data.toList), .int .i64 0])
    rw [dS]; rfl

end Go.Proofs.YtbmglebipepdmaaGreatDoor
namespace Go.Proofs.YtbmglebipepdmaaGreatDoor
open Go.RowKit
def qo (l : List Dc) (w : World) (e : Ending) (w' : World) : Prop := ∃ v, e = .returned v ∧ w'.ownsRow w.heap.size 9 1 v (fZ l).length (aC (fZ l)) ∧ Below w.heap.size w w'
theorem MN (w : World) (S : Nat → Prop) (l : List Dc) : Tests (fun W x v => fo W S x v) w 50 l (fun d => decide (d.kind = 7)) := by
 intro d _ v W hd _
 show Calls Tryz.prog 50 #[v] W fun e W' => e = .returned (.bool (decide (d.kind = 7))) ∧ Below W.heap.size W W'
 obtain ⟨cs, nA, nc, hcl, hone, rfl, c0, -⟩ := jU hd
 have e0 : (W.alloc (.cells cs.toArray 41)).cell? ⟨W.heap.size, 0, none⟩ = some (.int .i64 d.kind) := mP (heap_alloc_new W _) c0
 have hfin := (Below.refl W.heap.size W).alloc (Nat.le_refl _) (.cells cs.toArray 41)
 obtain ⟨q, hq⟩ : ∃ q, q = decide (d.kind = 7) := ⟨_, rfl⟩
 have hqb : (d.kind == (7 : Int)) = q := by rw [hq]; rfl
 rw [← hq]
 clear hd c0 hcl hone hq
 go_enter Tryz.func50, Tryz.ntmps50
 go_wp2
 go_ret
 exact ⟨rfl, hfin⟩
def gB (m l : List Dc) : List ByteArray := l.flatMap fun d => if fK (dw m) d = true ∧ tyUses m d.name = [] then [d.name] else []
theorem zQ0 (m l : List Dc) (d : Dc) : gB m (l ++ [d]) = gB m l ++ if fK (dw m) d = true ∧ tyUses m d.name = [] then [d.name] else [] := by unfold gB; rw [List.flatMap_append]; simp
theorem lW (m l : List Dc) : (gB m l).length ≤ l.length := by
 unfold gB
 induction l with
 |nil => simp
 |cons d r ih =>
  have h1 : (if fK (dw m) d = true ∧ tyUses m d.name = [] then [d.name] else []).length ≤ 1 := by split <;> simp
  rw [List.flatMap_cons, List.length_append, List.length_cons]; omega
set_option maxRecDepth 100000 in
set_option maxHeartbeats 8000000 in
theorem sF (l : List Dc) (A : Option Addr) (c : Nat) (w : World) (S : Nat → Prop) (hl : aT (fo w S) w S 22 A l) (hS : ∀ g, S g → g < w.heap.size) (hsz : (l.map bE).sum ≤ 10000000) (hll : l.length ≤ 10000000) :
  Calls Tryz.prog 19 #[.slice A l.length c] w (qo l w) := by
 have HL := Lib.hid hl
 have HC := Lib.hid (wQ l S A c w hl hS (by omega) 50 (enters_of Tryz.func50 (by kernel_rfl) rfl) _ (MN w S l))
 have HU := Lib.hid (fun (W : World) (hW : Below w.heap.size w W) (x : ByteArray) => CY l A c x W S (hl.keep (aA hW hS) (fun _ _ h => h.keep (aA hW hS))) (fun g hg => by have := hS g hg; have := hW.size; omega) hsz hll)
 obtain ⟨ch, hch⟩ : ∃ ch, ch = dw l := ⟨_, rfl⟩
 have hch2 : l.any (fun d => decide (d.kind = 7)) = ch := hch.symm
 rw [hch2] at HC
 have HCH := Lib.hid hch
 clear hl hch hch2
 go_enter Tryz.func19, Tryz.ntmps19
 go_wp2_with fail
 refine HC.out.mono ?_
 rintro e w1 ⟨rfl, hb1⟩
 go_wp2_with fail
 go_loopw [4, 12] (fun v x' wr => ∃ k : Nat, k ≤ l.length ∧ x' = .int .i64 k ∧ wr.ownsRow w.heap.size 9 1 v (gB l (l.take k)).length (aC (gB l (l.take k))) ∧ Below w.heap.size w wr) (fun _ x _ => l.length - (intOf x).toNat)
 case atStart => exact ⟨0, Nat.zero_le _, rfl, World.ownsRow_nil _ _ _ _, hb1⟩
 case round =>
  obtain ⟨k, hk, rfl, hown, hb⟩ := hrel
  have hsr := hb.size
  by_cases hlt : k < l.length
  ·obtain ⟨g, o, v2, rfl, hSg, hp, hc⟩ := fJ (fun _ _ h => jE h) HL.out hlt
   have hgs : g < w.heap.size := hS g hSg
   obtain ⟨d, hd⟩ : ∃ d, d = l[k] := ⟨_, rfl⟩
   have htk := pE l k hlt
   rw [← hd] at hp htk
   obtain ⟨cs, nA, nc, hcl, hone, rfl, c0, -, c2, c3, -, hsn, hnc⟩ := jU hp
   have hrange : w.rangeAt g (o + k * 22) cs := fun j u hu => hc j u (by simpa [cellsOf, Value.cells] using hu)
   have hrr : wr.rangeAt g (o + k * 22) cs := nu hrange hb hgs
   have ru : (Tryz.prog.info? 41).map (·.size) = some cs.length := by rw [hcl]; exact dJ
   have hcs2 : cs.toArray.size = 22 := by simpa using hcl
   have yA := Lib.hid hone
   have HCS := Lib.hid hcs2
   have C0 := Lib.hid c0
   have C2 := Lib.hid c2
   have hkI : (k : Int) < (l.length : Int) := by omega
   have hk0 : (0 : Int) ≤ (k : Int) := by omega
   have hbA : ∀ o, Below wr.heap.size wr (wr.alloc o) := fun o => (Below.refl _ _).alloc (Nat.le_refl _) o
   obtain ⟨cur, hcur⟩ : ∃ cur, cur = gB l (l.take k) := ⟨_, rfl⟩
   have htu := zQ0 l (l.take k) d
   rw [← htk, ← hcur, ← HCH.out] at htu
   have hcll : cur.length ≤ 10000000 := by rw [hcur]; have := lW l (l.take k); rw [List.length_take] at this; omega
   rw [← hcur] at hown
   have HTU := Lib.hid htu
   clear hcur htk hd hc hcl c0 c2 c3 hone hsn htu hp hcs2
   go_upto_region 6 with (first | (with_reducible refine wpList_load_mid rfl 41 (.tmp 14) rfl g (o + k * 22) rfl cs _ hrr Tryz.underlying41 rfl ru ?_) | (with_reducible refine eU _ rfl rfl (.tmp 6) (.tmp 15) rfl wr.heap.size cs.toArray rfl rfl _ (heap_alloc_new wr _) rfl HCS.out yA.out ?_; intro W5 hr5 hg5; have hb5 : Below wr.heap.size wr W5 := (hbA _).trans (below_grown hg5 (Nat.le_refl _) (by simp)); have hz5 : wr.heap.size < W5.heap.size := lt_of_block hr5))
   have Cg : Below w.heap.size w W5 := hb.trans (hb5.mono hsr)
   have hs5 := Cg.size
   have hown5 := own_below hown hb5 (Nat.le_refl _)
   have e0 : W5.cell? ⟨wr.heap.size, 0, none⟩ = some (.int .i64 d.kind) := mP hr5 C0.out
   have e2 : W5.cell? ⟨wr.heap.size, 2, none⟩ = some (.string d.name) := mP hr5 C2.out
   have HR5 := Lib.hid hr5
   clear hown hr5 hg5 hrr hrange ru hb5 hb
   obtain ⟨q, hq⟩ : ∃ q, q = fK ch d := ⟨_, rfl⟩
   rw [← hq] at HTU
   unfold fK at hq
   have HQ := Lib.hid hq
   clear hq
   go_cut [7] (fun s7 wx => s7 = .bool q ∧ W5 = wx)
   case first =>
    obtain ⟨kd, hkd⟩ : ∃ kd, kd = d.kind := ⟨_, rfl⟩
    rw [← hkd] at e0 HQ
    clear hkd
    by_cases h2 : kd = 2
    ·subst h2
     have hq1 : q = true := by rw [HQ.out]; rfl
     subst hq1
     go_wp2
     go_meet
     exact ⟨rfl, rfl⟩
    by_cases h3 : kd = 3
    ·subst h3
     have hq1 : q = true := by rw [HQ.out]; rfl
     subst hq1
     go_wp2
     go_meet
     exact ⟨rfl, rfl⟩
    have b2 : (kd == (2 : Int)) = false := by rw [beq_eq_false_iff_ne]; exact h2
    have b3 : (kd == (3 : Int)) = false := by rw [beq_eq_false_iff_ne]; exact h3
    by_cases h4 : kd = 4
    ·subst h4
     have hq1 : q = ch := by rw [HQ.out]; simp
     subst hq1
     clear h2 h3
     cases q
     ·go_wp2
      go_meet
      exact ⟨rfl, rfl⟩
     ·go_wp2
      go_meet
      exact ⟨rfl, rfl⟩
    have b4 : (kd == (4 : Int)) = false := by rw [beq_eq_false_iff_ne]; exact h4
    have hq1 : q = false := by rw [HQ.out]; simp [h2, h3, h4]
    subst hq1
    clear h2 h3 h4
    go_wp2
    go_meet
    exact ⟨rfl, rfl⟩
   case rest =>
    obtain ⟨rfl, rfl⟩ := hcut
    cases q
    ·have HT2 := Lib.hid (show gB l (l.take (k + 1)) = cur by rw [HTU.out, if_neg (fun h => by cases h.1), List.append_nil])
     go_wp2
     go_roundw
     case rel =>
      refine ⟨k + 1, by omega, by go_num, ?_, Cg⟩
      rw [HT2.out]
      exact hown5
     case measure => simp [intOf]; omega
    ·have HUC := Lib.hid (HU.out W5 Cg d.name)
     unfold tK at HUC
     obtain ⟨us, hus⟩ : ∃ us, us = tyUses l d.name := ⟨_, rfl⟩
     rw [← hus] at HUC HTU
     clear hus
     go_wp2_with fail
     refine HUC.out.mono ?_
     rintro e W6 ⟨v6, rfl, hown6, hb6⟩
     obtain ⟨A6, c6, rfl, hc6⟩ := aS hown6
     have iA := own_below hown5 hb6 (Nat.le_refl _)
     have yc : Below w.heap.size w W6 := Cg.trans (hb6.mono Cg.size)
     have hs6 := yc.size
     have e2 : W6.cell? ⟨wr.heap.size, 2, none⟩ = some (.string d.name) := mP ((hb6.block wr.heap.size hz5).trans HR5.out) C2.out
     by_cases hu0 : us.length = 0
     ·have hn0 : ((us.length : Int) == 0) = true := by rw [hu0]; rfl
      have HT2 := Lib.hid (show gB l (l.take (k + 1)) = cur ++ [d.name] by rw [HTU.out, if_pos (by exact ⟨by trivial, List.eq_nil_of_length_eq_zero hu0⟩)])
      clear hu0 hown6
      go_wp2_with (at_builtin; refine eX W6 rfl (.tmp 41) (.tmp 44) rfl w.heap.size _ _ _ iA rfl d.name rfl (by omega) hs6 ?_; intro v' w' hown' hg' hv')
      go_roundw
      case rel =>
       refine ⟨k + 1, by omega, by go_num, ?_, yc.trans (aM iA hg' hs6)⟩
       rw [HT2.out, List.length_append, gU]
       exact hown'
      case measure => simp [intOf]; omega
     ·have hn0 : ((us.length : Int) == 0) = false := by rw [beq_eq_false_iff_ne]; omega
      have HT2 := Lib.hid (show gB l (l.take (k + 1)) = cur by rw [HTU.out, if_neg (fun h => hu0 (by rw [h.2]; rfl)), List.append_nil])
      clear hu0 hown6
      go_wp2
      go_roundw
      case rel =>
       refine ⟨k + 1, by omega, by go_num, ?_, yc⟩
       rw [HT2.out]
       exact iA
      case measure => simp [intOf]; omega
  ·obtain rfl : k = l.length := by omega
   have hkI : ¬ (l.length : Int) < (l.length : Int) := by omega
   rw [List.take_length] at hown
   go_wp2
   go_ret
   exact ⟨_, rfl, hown, hb⟩
end Go.Proofs.YtbmglebipepdmaaGreatDoor
namespace Go.Proofs.YtbmglebipepdmaaGreatDoor
open Go.RowKit
def lu (d : Dc) : List ByteArray := d.faults.flatMap fB ++ bB d.term ++ bB d.read ++ bB d.write ++ [d.use] ++ (if d.kind = 5 ∨ d.kind = 7 then d.names else [])
theorem tQ (d : Dc) (x : ByteArray) : (lu d).contains x = (fq d).contains x := by
 rw [Bool.eq_iff_iff, nZ, nZ]
 have e : fq d = bB d.term ++ bB d.read ++ bB d.write ++ [d.use] ++ d.faults.flatMap fB ++ (if d.kind = 5 ∨ d.kind = 7 then d.names else []) := rfl
 rw [e]
 unfold lu
 simp only [List.mem_append]
 constructor
 ·rintro (((((h | h) | h) | h) | h) | h)
  ·exact Or.inl (Or.inr h)
  ·exact Or.inl (Or.inl (Or.inl (Or.inl (Or.inl h))))
  ·exact Or.inl (Or.inl (Or.inl (Or.inl (Or.inr h))))
  ·exact Or.inl (Or.inl (Or.inl (Or.inr h)))
  ·exact Or.inl (Or.inl (Or.inr h))
  ·exact Or.inr h
 ·rintro (((((h | h) | h) | h) | h) | h)
  ·exact Or.inl (Or.inl (Or.inl (Or.inl (Or.inr h))))
  ·exact Or.inl (Or.inl (Or.inl (Or.inr h)))
  ·exact Or.inl (Or.inl (Or.inr h))
  ·exact Or.inl (Or.inr h)
  ·exact Or.inl (Or.inl (Or.inl (Or.inl (Or.inl h))))
  ·exact Or.inr h
theorem step_strs (w : World) {ops : Array Oper} {o : Oper} {a : Act} {K : Act → World → Prop} {Q : Exit → Act → World → Prop} {E : Prop} (hgd : o.guard = none) (s x : Operand)
  (ho : o.op = .call { callee := .builtin .append, args := #[s, x], argTypes := #[34, 34] })
  (base : Nat) (v : Value) (n : Nat) (xs : List Value) (hown : w.ownsRow base 9 1 v n xs) (hs : a.eval s = v)
  (S : Nat → Prop) (A : Option Addr) (m c : Nat) (ss : List ByteArray) (hx : a.eval x = .slice A m c) (hmm : m = ss.length) (hr : aL w S 1 A ss.length (aC ss))
  (hn : n ≤ 1000000000000) (hm : ss.length ≤ 1000000000000) (hbase : base ≤ w.heap.size)
  (h : ∀ v' w', w'.ownsRow base 9 1 v' (n + ss.length) (xs ++ aC ss) → w.grownBy w' v.ownBlock → (v'.ownBlock = v.ownBlock ∨ v'.ownBlock = some w.heap.size) → K (a.put o.dst v') w') :
  if Region.wanted o (yielded ops a.tmps) = true then Oper.wp Tryz.prog o a w K Q else E := by
 subst hmm
 have hw : Region.wanted o (yielded ops a.tmps) = true := by unfold Region.wanted; rw [hgd]
 rw [if_pos hw]
 obtain ⟨v', w', h1, h2, h3, h4⟩ := JS w o.type base v n xs hown S A c ss hr hn hm hbase
 unfold Oper.wp execOp
 simp only [ho, resolve, invoke, builtin, Sem.run_bind, Sem.run_pure, Result.andThen_ok, List.map_toArray, List.map_cons, List.map_nil, hs, hx, h1]
 exact h v' w' h2 h3 h4
theorem own_lt {w w' : World} {base e size n B : Nat} {v : Value} {xs : List Value} (h : w.ownsRow base e size v n xs) (hb : Below B w w') (hlt : ∀ g, v.ownBlock = some g → g < B) : w'.ownsRow base e size v n xs := by
 obtain ⟨h1, h2⟩ := h
 refine ⟨h1, ?_⟩
 rcases h2 with h2 | ⟨g, cap, cur, hv, hg, hh, r⟩
 ·exact Or.inl h2
 ·exact Or.inr ⟨g, cap, cur, hv, hg, by rw [hb.block g (hlt g (by rw [hv]; rfl))]; exact hh, r⟩
theorem xu (w : World) {o : Oper} {a : Act} {K : Act → World → Prop} {Q : Exit → Act → World → Prop} (hgd : o.guard = none) (s x : Operand)
  (ho : o.op = .call { callee := .builtin .append, args := #[s, x], argTypes := #[34, 34] })
  (base : Nat) (v : Value) (n : Nat) (xs : List Value) (hown : w.ownsRow base 9 1 v n xs) (hs : a.eval s = v)
  (S : Nat → Prop) (A : Option Addr) (m c : Nat) (ss : List ByteArray) (hx : a.eval x = .slice A m c) (hmm : m = ss.length) (hr : aL w S 1 A ss.length (aC ss))
  (hn : n ≤ 1000000000000) (hm : ss.length ≤ 1000000000000) (hbase : base ≤ w.heap.size)
  (h : ∀ v' w', w'.ownsRow base 9 1 v' (n + ss.length) (xs ++ aC ss) → w.grownBy w' v.ownBlock → (v'.ownBlock = v.ownBlock ∨ v'.ownBlock = some w.heap.size) → K (a.put o.dst v') w') : Oper.wp Tryz.prog o a w K Q := by
 have := step_strs (ops := #[]) (Q := Q) (E := True) w hgd s x ho base v n xs hown hs S A m c ss hx hmm hr hn hm hbase h
 rwa [if_pos (by unfold Region.wanted; rw [hgd])] at this
theorem lit_of {w W : World} (hb : Below w.heap.size w W) (s : ByteArray) : aL (W.alloc (.cells #[.string s] 9)) (w.heap.size ≤ ·) 1 (some ⟨W.heap.size, 0, none⟩) 1 (aC [s]) :=
 aL.own (World.ownsRow_lit (base := w.heap.size) (e := 9) (size := 1) W #[.string s] 1 hb.size (by decide) rfl)
theorem size_le {W : World} (o : Obj) : W.heap.size ≤ (W.alloc o).heap.size := ((Below.refl _ W).alloc (Nat.le_refl _) o).size
theorem fresh_nil {w W : World} (hb : Below w.heap.size w W) : ∃ (X : World) (b : Nat), X = W.alloc (.cells #[] 9) ∧ b = W.heap.size ∧ X.ownsRow w.heap.size 9 1 (.slice (some ⟨b, 0, none⟩) 0 0) 0 [] ∧ Below w.heap.size w X ∧ Below W.heap.size W X :=
 ⟨_, _, rfl, rfl, World.ownsRow_lit (base := w.heap.size) (e := 9) (size := 1) W #[] 0 hb.size (by decide) rfl, hb.alloc hb.size _, (Below.refl _ _).alloc (Nat.le_refl _) _⟩
set_option maxRecDepth 100000 in
set_option maxHeartbeats 8000000 in
theorem JC (d : Dc) (v : Value) (w : World) (S : Nat → Prop) (hd : fo w S d v) (hS : ∀ g, S g → g < w.heap.size) (hlim : au d.term ≤ 100000000 ∧ au d.read ≤ 100000000 ∧ au d.write ≤ 100000000) (hfl : (d.faults.flatMap fB).length ≤ 100000000) (hnl : d.names.length ≤ 100000000) (hff : d.faults.length ≤ 100000000) :
  Calls Tryz.prog 48 #[v] w fun e w' => ∃ v', e = .returned v' ∧ w'.ownsRow w.heap.size 9 1 v' (lu d).length (aC (lu d)) ∧ Below w.heap.size w w' := by
 obtain ⟨nA, nc', fA, fc, vt, vr, vw, hv, hnA, hnc, hfA, hfc, h5, h6, h7⟩ := hd
 have HT5 := Lib.hid h5
 have HT6 := Lib.hid h6
 have HT7 := Lib.hid h7
 obtain ⟨o1, m1, d1, wA1, wn1, wc1, kA1, kn1, kc1, rfl⟩ := h5.form
 obtain ⟨o2, m2, d2, wA2, wn2, wc2, kA2, kn2, kc2, rfl⟩ := h6.form
 obtain ⟨o3, m3, d3, wA3, wn3, wc3, kA3, kn3, kc3, rfl⟩ := h7.form
 clear h5 h6 h7
 simp only [Value.cells, List.append_toArray, List.cons_append, List.nil_append] at hv
 rw [hv]
 have n1 := jf d.term
 have n2 := jf d.read
 have n3 := jf d.write
 obtain ⟨l1, l2, l3⟩ := hlim
 obtain ⟨w0, hw0⟩ : ∃ w0 : World, w0 = w.alloc (.cells (tO d.kind d.line d.name nA d.names.length nc' fA d.faults.length fc o1 m1 d1 wA1 wn1 wc1 kA1 kn1 kc1 d.proto o2 m2 d2 wA2 wn2 wc2 kA2 kn2 kc2 o3 m3 d3 wA3 wn3 wc3 kA3 kn3 kc3 d.use) 41 (0, 0)) := ⟨_, rfl⟩
 have hb0 : Below w.heap.size w w0 := by rw [hw0]; exact (Below.refl _ _).alloc (Nat.le_refl _) _
 have hz0 : w0.heap.size = w.heap.size + 1 := by rw [hw0]; simp
 have hr0 : w0.heap[w.heap.size]? = some (.cells (tO d.kind d.line d.name nA d.names.length nc' fA d.faults.length fc o1 m1 d1 wA1 wn1 wc1 kA1 kn1 kc1 d.proto o2 m2 d2 wA2 wn2 wc2 kA2 kn2 kc2 o3 m3 d3 wA3 wn3 wc3 kA3 kn3 kc3 d.use) 41 (0, 0)) := by rw [hw0]; exact heap_alloc_new w _
 have HB := Lib.hid (show ∀ W', Below w0.heap.size w0 W' → W'.heap[w.heap.size]? = some (.cells (tO d.kind d.line d.name nA d.names.length nc' fA d.faults.length fc o1 m1 d1 wA1 wn1 wc1 kA1 kn1 kc1 d.proto o2 m2 d2 wA2 wn2 wc2 kA2 kn2 kc2 o3 m3 d3 wA3 wn3 wc3 kA3 kn3 kc3 d.use) 41 (0, 0)) from fun W' hW => (hW.block _ (by omega)).trans hr0)
 have hS2 : ∀ W', Below w0.heap.size w0 W' → ∀ g, S g → g < W'.heap.size := fun W' hW g hg => by have := hS g hg; have := hW.size; omega
 have hk2 : ∀ W', Below w0.heap.size w0 W' → Kept S w W' := fun W' hW => aA (hb0.trans (hW.mono hb0.size)) hS
 have HN1 := Lib.hid (fun (W : World) (hW : Below w0.heap.size w0 W) => zQ d.term _ W S (HT5.out.keep (hk2 W hW)) (hS2 W hW) (by omega))
 have HN2 := Lib.hid (fun (W : World) (hW : Below w0.heap.size w0 W) => zQ d.read _ W S (HT6.out.keep (hk2 W hW)) (hS2 W hW) (by omega))
 have HN3 := Lib.hid (fun (W : World) (hW : Below w0.heap.size w0 W) => zQ d.write _ W S (HT7.out.keep (hk2 W hW)) (hS2 W hW) (by omega))
 have HW0 := Lib.hid hw0
 have HNA := Lib.hid hnA
 have HFA := Lib.hid hfA
 have HBW := Lib.hid hb0
 obtain ⟨us, hus⟩ : ∃ us, us = lu d := ⟨_, rfl⟩
 rw [← hus]
 have HUS := Lib.hid hus
 clear hw0 hr0 hnA hfA hv hus
 go_enter Tryz.func48, Tryz.ntmps48
 go_upto_region 1 with fail
 rw [← HW0.out]
 clear HW0
 go_wp2_with fail
 go_loopw [3, 4] (fun v x wr => ∃ k : Nat, k ≤ d.faults.length ∧ x = .int .i64 k ∧ wr.ownsRow w0.heap.size 9 1 v ((d.faults.take k).flatMap fB).length (aC ((d.faults.take k).flatMap fB)) ∧ Below w0.heap.size w0 wr) (fun _ x _ => d.faults.length - (intOf x).toNat)
 case atStart => exact ⟨0, Nat.zero_le _, rfl, World.ownsRow_nil _ _ _ _, Below.refl _ _⟩
 case round =>
  obtain ⟨k, hk, rfl, hown, hb⟩ := hrel
  have hsr := hb.size
  have hbw : Below w.heap.size w wr := HBW.out.trans (hb.mono HBW.out.size)
  obtain ⟨vA, vc, rfl, hvc⟩ := aS hown
  have q4 : wr.cell? ⟨w.heap.size, 4, none⟩ = some (.slice fA d.faults.length fc) := ai (HB.out wr hb) 4 _ rfl
  by_cases hlt : k < d.faults.length
  ·obtain ⟨g, o, op, nm, x, y, bA, bn, bc, cA, cn, cc, rfl, hSg, hft, k0, k1, k2, k3, k4, k5⟩ := nT (HFA.out.keep (P' := lm wr S) (aA hbw hS) (fun _ _ h => h.keep (aA hbw hS))) hlt
   have hgs : g < wr.heap.size := World.block_lt_of_cell? wr _ k0
   have hkI : (k : Int) < (d.faults.length : Int) := by omega
   have hk0 : (0 : Int) ≤ (k : Int) := by omega
   obtain ⟨f, hf⟩ : ∃ f, f = d.faults[k] := ⟨_, rfl⟩
   rw [← hf] at hft
   have htk : d.faults.take (k + 1) = d.faults.take k ++ [f] := by rw [hf]; exact List.take_succ_eq_append_getElem hlt
   obtain ⟨bA', bc', cA', cc', hv, hs4, -, hs5, -⟩ := hft
   simp only [Value.agg.injEq, Array.mk.injEq, List.cons.injEq, Value.int.injEq, Value.string.injEq, Value.slice.injEq, true_and, and_true] at hv
   obtain ⟨rfl, rfl, rfl, rfl, ⟨rfl, rfl, rfl⟩, ⟨rfl, rfl, rfl⟩⟩ := hv
   obtain ⟨cur, hcur⟩ : ∃ cur, cur = (d.faults.take k).flatMap fB := ⟨_, rfl⟩
   have hcn : (d.faults.take (k + 1)).flatMap fB = cur ++ fB f := by rw [htk, hcur, List.flatMap_append, List.flatMap_cons, List.flatMap_nil, List.append_nil]
   have hcl : cur.length + (fB f).length ≤ 100000000 := by
    rw [← List.length_append, ← hcn]
    have h1 : ((d.faults.take (k + 1)).flatMap fB).length ≤ (d.faults.flatMap fB).length := by
     conv => rhs; rw [← List.take_append_drop (k + 1) d.faults, List.flatMap_append, List.length_append]
     omega
    omega
   have hfu : (fB f).length = f.ay.length + f.ak.length + 1 := by unfold fB; simp only [List.length_append, List.length_cons, List.length_nil]
   rw [← hcur] at hown hvc ⊢
   obtain ⟨Wv, hWv⟩ : ∃ Wv : World, Wv = wr.alloc (.cells #[.int .i64 f.op, .string f.name, .int .i64 f.byz, .int .i64 f.je, .slice bA f.ay.length bc, .slice cA f.ak.length cc] 82 (0, 0)) := ⟨_, rfl⟩
   have hbv : Below wr.heap.size wr Wv := by rw [hWv]; exact (Below.refl _ _).alloc (Nat.le_refl _) _
   have hzv : Wv.heap.size = wr.heap.size + 1 := by rw [hWv]; simp
   have hrv : Wv.heap[wr.heap.size]? = some (.cells #[.int .i64 f.op, .string f.name, .int .i64 f.byz, .int .i64 f.je, .slice bA f.ay.length bc, .slice cA f.ak.length cc] 82 (0, 0)) := by rw [hWv]; exact heap_alloc_new wr _
   have hbf : wr.heap.size < Wv.heap.size := by omega
   have hovl := hown.lt
   have HOV := Lib.hid (fun (W : World) (hW : Below Wv.heap.size Wv W) => own_lt (own_below hown hbv (Nat.le_refl _)) hW (fun g hg => by have := (hovl g hg).2; omega))
   have HNE := Lib.hid (show (Value.slice vA cur.length vc).ownBlock ≠ some wr.heap.size from fun h => by have := (hovl _ h).2; omega)
   have HS4 := Lib.hid (fun (W : World) (hW : Below Wv.heap.size Wv W) => show aL W S 1 bA f.ay.length (aC f.ay) from (hs4.keep (aP hbv)).keep (fun g hg _ => hW.block g (by have := hS g hg; have := hbw.size; omega)))
   have HS5 := Lib.hid (fun (W : World) (hW : Below Wv.heap.size Wv W) => show aL W S 1 cA f.ak.length (aC f.ak) from (hs5.keep (aP hbv)).keep (fun g hg _ => hW.block g (by have := hS g hg; have := hbw.size; omega)))
   have HF := Lib.hid hrv
   have HWV := Lib.hid hWv
   have HZ := Lib.hid (show w0.heap.size ≤ Wv.heap.size by omega)
   have HB0 := Lib.hid (show Below w0.heap.size w0 Wv from hb.trans (hbv.mono hsr))
   have HCN := Lib.hid hcn
   have HPT := Lib.hid (fun (W : World) (u : Value) (h : W.ownsRow Wv.heap.size 9 1 u (0 + f.ay.length + f.ak.length + [f.name].length) ([] ++ aC f.ay ++ aC f.ak ++ aC [f.name])) => show W.ownsRow Wv.heap.size 9 1 u (fB f).length (aC (fB f)) by
    have e1 : (0 + f.ay.length + f.ak.length + [f.name].length) = (fB f).length := by rw [hfu]; simp
    have e2 : ([] ++ aC f.ay ++ aC f.ak ++ aC [f.name] : List Value) = aC (fB f) := by unfold fB aC; simp
    rw [e1, e2] at h; exact h)
   have HPE := Lib.hid (fun (W : World) (u : Value) (h : W.ownsRow w0.heap.size 9 1 u (cur.length + (fB f).length) (aC cur ++ aC (fB f))) => show W.ownsRow w0.heap.size 9 1 u ((d.faults.take (k + 1)).flatMap fB).length (aC ((d.faults.take (k + 1)).flatMap fB)) by
    rw [hcn, List.length_append, gU]; exact h)
   clear hWv hrv hcur hcn htk hf hs4 hs5 hovl hown hfl
   go_upto_region 6 with fail
   rw [← HWV.out]
   refine aZ.start (fun W' => W'.heap[wr.heap.size]? = some (.cells #[.int .i64 f.op, .string f.name, .int .i64 f.byz, .int .i64 f.je, .slice bA f.ay.length bc, .slice cA f.ak.length cc] 82 (0, 0))) [] [0, 2, 3, 5, 6, 8, 9] (by kernel_rfl) HF.out (fun hHeld => ?_)
   have bx : Below Wv.heap.size Wv Wv.drew := (Below.refl _ _).drew
   obtain ⟨X0, hX0⟩ : ∃ X0 : World, X0 = Wv.drew := ⟨_, rfl⟩
   rw [← hX0] at bx hHeld ⊢
   clear hX0 hzv
   repeat
    refine aZ.take (v := ?_) rfl (by decide +kernel) (by rfl) (fun _ _ _ h => h) hHeld ?_ ?_
    rotate_left
    focus
     intro w9 h9
     try dsimp only at h9
     have z1 := ai h9 1 _ rfl
     have z4 := ai h9 4 _ rfl
     have z5 := ai h9 5 _ rfl
     clear h9
     go_simp
     (try with_reducible rfl)
     done
    try simp only [Act.put, List.getElem_toArray, List.getElem_cons_succ, List.getElem_cons_zero, List.setIfInBounds_toArray, List.set_cons_zero, List.set_cons_succ]
   repeat'
    first
    |refine aZ.two 1 10 rfl rfl (by decide +kernel) (by rfl) (by rfl) (fun K hK => ?_) (fun K hK => ?_)
    |refine aZ.two 4 10 rfl rfl (by decide +kernel) (by rfl) (by rfl) (fun K hK => ?_) (fun K hK => ?_)
    |refine aZ.two 7 10 rfl rfl (by decide +kernel) (by rfl) (by rfl) (fun K hK => ?_) (fun K hK => ?_)
    |refine aZ.one 1 rfl (by decide +kernel) (by rfl) (fun K hK => ?_)
    |refine aZ.one 4 rfl (by decide +kernel) (by rfl) (fun K hK => ?_)
    |refine aZ.one 7 rfl (by decide +kernel) (by rfl) (fun K hK => ?_)
    |refine aZ.one 10 rfl (by decide +kernel) (by rfl) (fun K hK => ?_)
    |refine aZ.one 11 rfl (by decide +kernel) (by rfl) (fun K hK => ?_)
    |refine aZ.one 12 rfl (by decide +kernel) (by rfl) (fun K hK => ?_)
    |refine aZ.one 13 rfl (by decide +kernel) (by rfl) (fun K hK => ?_)
    |refine xu _ rfl (.tmp 19) (.tmp 21) rfl Wv.heap.size _ _ _ own rfl S bA _ bc f.ay rfl rfl (HS4.out _ bx) (by omega) (by omega) bx.size ?_
     intro v2 X2 o2 g2 q2
     have bn := aM own g2 bx.size
     have bx := bx.trans bn
     try have hlit := hlit.keep (fun g hg hl => g2.block g hl (by rw [hg]; exact fun h => hne h.symm))
     try have hne : v2.ownBlock = some bl → False := fun h => q2.elim (fun e => hne (e.symm.trans h)) (fun e => by rw [e] at h; injection h; omega)
     try have hbl := Nat.lt_of_lt_of_le hbl g2.size
     have own := o2
     refine hK.out _ _ (fun _ => (bx.block _ hbf).trans HF.out) ?_
     clear hK K
    |refine xu _ rfl (.tmp 22) (.tmp 24) rfl Wv.heap.size _ _ _ own rfl S cA _ cc f.ak rfl rfl (HS5.out _ bx) (by omega) (by omega) bx.size ?_
     intro v3 X3 o3 g3 q3
     have bx := bx.trans (aM own g3 bx.size)
     try have hlit := hlit.keep (fun g hg hl => g3.block g hl (by rw [hg]; exact fun h => hne h.symm))
     try have hne : v3.ownBlock = some bl → False := fun h => q3.elim (fun e => hne (e.symm.trans h)) (fun e => by rw [e] at h; injection h; omega)
     try have hbl := Nat.lt_of_lt_of_le hbl g3.size
     have own := o3
     refine hK.out _ _ (fun _ => (bx.block _ hbf).trans HF.out) ?_
     clear hK K
    |refine xu _ rfl (.tmp 25) (.tmp 28) rfl Wv.heap.size _ _ _ own rfl _ _ _ 1 [f.name] rfl rfl hlit (by omega) (by simp) bx.size ?_
     intro v5 X5 o5 g5 q5
     have bx := bx.trans (aM own g5 bx.size)
     refine hK.out _ _ (fun _ => (bx.block _ hbf).trans HF.out) ?_
     have HO5 := Lib.hid (HPT.out _ _ o5)
     obtain ⟨At, ct, rfl, hct⟩ := aS HO5.out
     clear hK K
    |refine xu _ rfl (.tmp 18) (.tmp 29) rfl w0.heap.size _ _ _ (HOV.out _ bx) rfl (fun g => Wv.heap.size ≤ g) At _ ct (fB f) rfl rfl (aL.own HO5.out) (by omega) (by omega) (Nat.le_trans HZ.out bx.size) ?_
     intro v6 X6 o6 g6 q6
     have b6 := aM (HOV.out _ bx) g6 (Nat.le_trans HZ.out bx.size)
     have Bf := (g6.block wr.heap.size (Nat.lt_of_lt_of_le hbf bx.size) (fun h => HNE.out h.symm)).trans ((bx.block _ hbf).trans HF.out)
     refine hK.out _ _ (fun _ => Bf) ?_
     clear hK K
    |go_simp
     first
     |obtain ⟨X, b, hX, hb, ow, bn, bw⟩ := fresh_nil bx
      refine hK.out _ (World.alloc _ (.cells #[] 9)) (fun _ => by rw [← hX]; exact (bn.block _ hbf).trans HF.out) ?_
      rw [← hX, ← hb]
      have own := ow
      have bx := bn
      try have hlit := hlit.keep (aP bw)
      try have hne : (Value.slice (some ⟨b, 0, none⟩) 0 0).ownBlock = some bl → False := fun h => by have h9 : some b = some bl := h; injection h9; omega
      try have hbl := Nat.lt_of_lt_of_le hbl bw.size
      clear hK K hX hb bn ow
     |obtain ⟨X, bl, hX, hb, hlit, bn, bw, hbl⟩ := F5 bx f.name
      refine hK.out _ (World.alloc _ (.cells #[.string f.name] 9)) (fun _ => by rw [← hX]; exact (bn.block _ hbf).trans HF.out) ?_
      rw [← hX, ← hb]
      try have hne := fun h => Nat.lt_irrefl _ (Nat.lt_of_lt_of_eq (own.lt bl h).2 hb.symm)
      try have own := own_below own bw (Nat.le_refl _)
      have bx := bn
      clear hK K hX hb bn
     |refine hK.out _ _ (fun _ => Bf) ?_
      clear hK K
   all_goals
    refine aZ.done (by decide +kernel) ?_
    go_wp2
    go_roundw
    case rel => exact ⟨k + 1, by omega, by go_num, HPE.out _ _ o6, HB0.out.trans ((bx.mono HZ.out).trans b6)⟩
    case measure => simp [intOf]; omega
  ·obtain rfl : k = d.faults.length := by omega
   have hkI : ¬ (d.faults.length : Int) < (d.faults.length : Int) := by omega
   rw [List.take_length] at hown hvc ⊢
   obtain ⟨cur, hcur⟩ : ∃ cur, cur = d.faults.flatMap fB := ⟨_, rfl⟩
   have HU2 := Lib.hid (show us = cur ++ bB d.term ++ bB d.read ++ bB d.write ++ [d.use] ++ (if d.kind = 5 ∨ d.kind = 7 then d.names else []) by rw [HUS.out, hcur]; rfl)
   rw [← hcur] at hown hvc hfl ⊢
   obtain ⟨N1, hN1⟩ : ∃ N1, N1 = bB d.term := ⟨_, rfl⟩
   obtain ⟨N2, hN2⟩ : ∃ N2, N2 = bB d.read := ⟨_, rfl⟩
   obtain ⟨N3, hN3⟩ : ∃ N3, N3 = bB d.write := ⟨_, rfl⟩
   rw [← hN1] at HU2 HN1 n1
   rw [← hN2] at HU2 HN2 n2
   rw [← hN3] at HU2 HN3 n3
   clear hcur hN1 hN2 hN3
   have a5 : wr.cell? ⟨w.heap.size, 5, none⟩ = some (.int .i64 o1) := ai (HB.out wr hb) 5 _ rfl
   have a6 : wr.cell? ⟨w.heap.size, 6, none⟩ = some (.string m1) := ai (HB.out wr hb) 6 _ rfl
   have a7 : wr.cell? ⟨w.heap.size, 7, none⟩ = some (.int .i64 d1) := ai (HB.out wr hb) 7 _ rfl
   have a8 : wr.cell? ⟨w.heap.size, 8, none⟩ = some (.slice wA1 wn1 wc1) := ai (HB.out wr hb) 8 _ rfl
   have a9 : wr.cell? ⟨w.heap.size, 9, none⟩ = some (.slice kA1 kn1 kc1) := ai (HB.out wr hb) 9 _ rfl
   go_wp2_with fail
   refine (HN1.out wr hb).mono ?_
   rintro e W2 ⟨A2, c2, rfl, -, hs2, hb2⟩
   have hown2 := own_below hown hb2 (Nat.le_refl _)
   have hb02 := hb.trans (hb2.mono hsr)
   have hz2 := hb02.size
   clear a5 a6 a7 a8 a9 q4
   go_wp2_with (at_builtin; refine jQ W2 rfl (.tmp 31) (.tmp 34) rfl w0.heap.size _ _ _ hown2 rfl _ A2 _ c2 N1 rfl rfl hs2 (by omega) (by omega) hz2 ?_; intro v3 W3 hown3 hg3 hv3; have hb03 := hb02.trans (aM hown2 hg3 hz2); have b11 : W3.cell? ⟨w.heap.size, 11, none⟩ = some (.int .i64 o2) := ai (HB.out W3 hb03) 11 _ rfl; have b12 : W3.cell? ⟨w.heap.size, 12, none⟩ = some (.string m2) := ai (HB.out W3 hb03) 12 _ rfl; have b13 : W3.cell? ⟨w.heap.size, 13, none⟩ = some (.int .i64 d2) := ai (HB.out W3 hb03) 13 _ rfl; have b14 : W3.cell? ⟨w.heap.size, 14, none⟩ = some (.slice wA2 wn2 wc2) := ai (HB.out W3 hb03) 14 _ rfl; have b15 : W3.cell? ⟨w.heap.size, 15, none⟩ = some (.slice kA2 kn2 kc2) := ai (HB.out W3 hb03) 15 _ rfl)
   refine (HN2.out W3 hb03).mono ?_
   rintro e W4 ⟨A4, c4, rfl, -, hs4, hb4⟩
   have ic := own_below hown3 hb4 (Nat.le_refl _)
   have hb04 := hb03.trans (hb4.mono hb03.size)
   have hz4 := hb04.size
   clear b11 b12 b13 b14 b15
   go_wp2_with (at_builtin; refine jQ W4 rfl (.tmp 36) (.tmp 39) rfl w0.heap.size _ _ _ ic rfl _ A4 _ c4 N2 rfl rfl hs4 (by omega) (by omega) hz4 ?_; intro v5 W5 hown5 hg5 hv5; have hb05 := hb04.trans (aM ic hg5 hz4); have b16 : W5.cell? ⟨w.heap.size, 16, none⟩ = some (.int .i64 o3) := ai (HB.out W5 hb05) 16 _ rfl; have b17 : W5.cell? ⟨w.heap.size, 17, none⟩ = some (.string m3) := ai (HB.out W5 hb05) 17 _ rfl; have b18 : W5.cell? ⟨w.heap.size, 18, none⟩ = some (.int .i64 d3) := ai (HB.out W5 hb05) 18 _ rfl; have b19 : W5.cell? ⟨w.heap.size, 19, none⟩ = some (.slice wA3 wn3 wc3) := ai (HB.out W5 hb05) 19 _ rfl; have b20 : W5.cell? ⟨w.heap.size, 20, none⟩ = some (.slice kA3 kn3 kc3) := ai (HB.out W5 hb05) 20 _ rfl)
   refine (HN3.out W5 hb05).mono ?_
   rintro e W6 ⟨A6, c6, rfl, -, hs6, hb6⟩
   have hown6 := own_below hown5 hb6 (Nat.le_refl _)
   have hb06 := hb05.trans (hb6.mono hb05.size)
   have hz6 := hb06.size
   clear b16 b17 b18 b19 b20
   have HFN := Lib.hid (fun (W : World) (u : Value) (n : Nat) (xs : List Value) (h : W.ownsRow w0.heap.size 9 1 u n xs) (e1 : n = us.length) (e2 : xs = aC us) => show W.ownsRow w.heap.size 9 1 u us.length (aC us) by subst e1 e2; exact qI h HBW.out.size)
   by_cases hk5 : d.kind = 5
   ·have b5 : (d.kind == (5 : Int)) = true := by rw [hk5]; rfl
    have HU := Lib.hid (show us = cur ++ N1 ++ N2 ++ N3 ++ [d.use] ++ d.names by rw [HU2.out, if_pos (Or.inl hk5)])
    clear hk5
    go_wp2_with (first | (at_builtin; refine jQ W6 rfl (.tmp 41) (.tmp 44) rfl w0.heap.size _ _ _ hown6 rfl _ A6 _ c6 N3 rfl rfl hs6 (by omega) (by omega) hz6 ?_; intro v7 W7 iA hg7 hv7; have hb07 := hb06.trans (aM hown6 hg7 hz6); have hz7 := hb07.size; have e21 : W7.cell? ⟨w.heap.size, 21, none⟩ = some (.string d.use) := ai (HB.out W7 hb07) 21 _ rfl) | (at_builtin; refine eX W7 rfl (.tmp 46) (.tmp 49) rfl w0.heap.size _ _ _ iA rfl d.use rfl (by omega) hz7 ?_; intro v8 W8 mO hg8 hv8; have I5 := hb07.trans (aM iA hg8 hz7); have hz8 := I5.size; have e0 : W8.cell? ⟨w.heap.size, 0, none⟩ = some (.int .i64 d.kind) := ai (HB.out W8 I5) 0 _ rfl; have e3 : W8.cell? ⟨w.heap.size, 3, none⟩ = some (.slice nA d.names.length nc') := ai (HB.out W8 I5) 3 _ rfl) | (at_builtin; refine jQ W8 rfl (.tmp 59) (.tmp 61) rfl w0.heap.size _ _ _ mO rfl S nA _ nc' d.names rfl rfl (HNA.out.keep (hk2 W8 I5)) (by simp; omega) (by omega) hz8 ?_; intro v9 W9 DX hg9 hv9; have hb09 := I5.trans (aM mO hg9 hz8)))
    go_ret
    refine ⟨v9, rfl, HFN.out _ _ _ _ DX ?_ ?_, HBW.out.trans (hb09.mono HBW.out.size)⟩
    ·rw [HU.out]; simp only [List.length_append, List.length_cons, List.length_nil]
    ·rw [HU.out]; simp [aC]
   have b5 : (d.kind == (5 : Int)) = false := by rw [beq_eq_false_iff_ne]; exact hk5
   by_cases hk7 : d.kind = 7
   ·have b7 : (d.kind == (7 : Int)) = true := by rw [hk7]; rfl
    have HU := Lib.hid (show us = cur ++ N1 ++ N2 ++ N3 ++ [d.use] ++ d.names by rw [HU2.out, if_pos (Or.inr hk7)])
    clear hk5 hk7
    go_wp2_with (first | (at_builtin; refine jQ W6 rfl (.tmp 41) (.tmp 44) rfl w0.heap.size _ _ _ hown6 rfl _ A6 _ c6 N3 rfl rfl hs6 (by omega) (by omega) hz6 ?_; intro v7 W7 iA hg7 hv7; have hb07 := hb06.trans (aM hown6 hg7 hz6); have hz7 := hb07.size; have e21 : W7.cell? ⟨w.heap.size, 21, none⟩ = some (.string d.use) := ai (HB.out W7 hb07) 21 _ rfl) | (at_builtin; refine eX W7 rfl (.tmp 46) (.tmp 49) rfl w0.heap.size _ _ _ iA rfl d.use rfl (by omega) hz7 ?_; intro v8 W8 mO hg8 hv8; have I5 := hb07.trans (aM iA hg8 hz7); have hz8 := I5.size; have e0 : W8.cell? ⟨w.heap.size, 0, none⟩ = some (.int .i64 d.kind) := ai (HB.out W8 I5) 0 _ rfl; have e3 : W8.cell? ⟨w.heap.size, 3, none⟩ = some (.slice nA d.names.length nc') := ai (HB.out W8 I5) 3 _ rfl) | (at_builtin; refine jQ W8 rfl (.tmp 59) (.tmp 61) rfl w0.heap.size _ _ _ mO rfl S nA _ nc' d.names rfl rfl (HNA.out.keep (hk2 W8 I5)) (by simp; omega) (by omega) hz8 ?_; intro v9 W9 DX hg9 hv9; have hb09 := I5.trans (aM mO hg9 hz8)))
    go_ret
    refine ⟨v9, rfl, HFN.out _ _ _ _ DX ?_ ?_, HBW.out.trans (hb09.mono HBW.out.size)⟩
    ·rw [HU.out]; simp only [List.length_append, List.length_cons, List.length_nil]
    ·rw [HU.out]; simp [aC]
   have b7 : (d.kind == (7 : Int)) = false := by rw [beq_eq_false_iff_ne]; exact hk7
   have HU := Lib.hid (show us = cur ++ N1 ++ N2 ++ N3 ++ [d.use] by rw [HU2.out, if_neg (fun h => h.elim hk5 hk7), List.append_nil])
   clear hk5 hk7
   go_wp2_with (first | (at_builtin; refine jQ W6 rfl (.tmp 41) (.tmp 44) rfl w0.heap.size _ _ _ hown6 rfl _ A6 _ c6 N3 rfl rfl hs6 (by omega) (by omega) hz6 ?_; intro v7 W7 iA hg7 hv7; have hb07 := hb06.trans (aM hown6 hg7 hz6); have hz7 := hb07.size; have e21 : W7.cell? ⟨w.heap.size, 21, none⟩ = some (.string d.use) := ai (HB.out W7 hb07) 21 _ rfl) | (at_builtin; refine eX W7 rfl (.tmp 46) (.tmp 49) rfl w0.heap.size _ _ _ iA rfl d.use rfl (by omega) hz7 ?_; intro v8 W8 mO hg8 hv8; have I5 := hb07.trans (aM iA hg8 hz7); have hz8 := I5.size; have e0 : W8.cell? ⟨w.heap.size, 0, none⟩ = some (.int .i64 d.kind) := ai (HB.out W8 I5) 0 _ rfl))
   go_ret
   refine ⟨v8, rfl, HFN.out _ _ _ _ mO ?_ ?_, HBW.out.trans (I5.mono HBW.out.size)⟩
   ·rw [HU.out]; simp only [List.length_append, List.length_cons, List.length_nil]
   ·rw [HU.out]; simp [aC]
end Go.Proofs.YtbmglebipepdmaaGreatDoor
namespace Go.Proofs.YtbmglebipepdmaaGreatDoor
open Go.RowKit
end Go.Proofs.YtbmglebipepdmaaGreatDoor
namespace Go.Proofs.YtbmglebipepdmaaGreatDoor
open Go.RowKit
theorem yR {l : List Dc} (hsz : (l.map bE).sum ≤ 10000000) {d : Dc} (hm : d ∈ l) : (lu d).length ≤ 1000000000 := by
 have h := Bv hsz hm
 have e2 : fq d = bB d.term ++ bB d.read ++ bB d.write ++ [d.use] ++ d.faults.flatMap fB ++ (if d.kind = 5 ∨ d.kind = 7 then d.names else []) := rfl
 rw [e2] at h
 unfold lu
 simp only [List.length_append, List.length_cons, List.length_nil] at h ⊢
 omega
end Go.Proofs.YtbmglebipepdmaaGreatDoor
namespace Go.Proofs.YtbmglebipepdmaaGreatDoor
open Go.RowKit
def qW (w : World) (S : Nat → Prop) (b : Nat) (l : List Dc) : Prop := ∀ t d, l[t]? = some d → ∃ v, fo w S d v ∧ w.rangeAt b (t * 22) (cellsOf v)
theorem dc_one {w : World} {S : Nat → Prop} {d : Dc} {v : Value} (h : fo w S d v) : ∀ u ∈ cellsOf v, u.oneCell' = true := by
 obtain ⟨cs, nA, nc, hcl, hone, rfl, -⟩ := jU h
 intro u hu
 have : u ∈ cs.toArray := by simpa [cellsOf, Value.cells] using hu
 exact Array.all_eq_true_iff_forall_mem.1 hone u this
end Go.Proofs.YtbmglebipepdmaaGreatDoor
namespace Go.Proofs.YtbmglebipepdmaaGreatDoor
open Go.RowKit
theorem xQ {w W : World} {S : Nat → Prop} {b : Nat} {l : List Dc} (h : qW w S b l) (hb : Below w.heap.size w W) (hS : ∀ g, S g → g < w.heap.size) (hbl : b < w.heap.size) : qW W S b l := fun t d ht => by
 obtain ⟨v, h1, h2⟩ := h t d ht
 exact ⟨v, h1.keep (aA hb hS), fun j u hu => (hb.cell (p := ⟨b, t * 22 + j, none⟩) hbl).trans (h2 j u hu)⟩
end Go.Proofs.YtbmglebipepdmaaGreatDoor
namespace Go.Proofs.YtbmglebipepdmaaGreatDoor
open Go.RowKit
theorem But.setCells {b : Nat} : ∀ (vs : List Value) (o : Nat) (a w : World), But (fun g => g = b) a w → But (fun g => g = b) a (w.setCells b o vs)
  | [], _, _, _, h => h
  | v :: r, o, a, _w, h => But.setCells r (o + 1) a _ (h.setCell rfl o v)
structure qx (x : ByteArray) (l : List Dc) (b : Nat) (S : Nat → Prop) (w wr : World) (j : Nat) : Prop where
  but : But (fun g => g = b) w wr
  th : wr.there b 0 (l.length * 22)
  done : qW wr S b (without x (l.take j))
  rest : ∀ t d, j ≤ t → l[t]? = some d → ∃ v, fo wr S d v ∧ wr.rangeAt b (t * 22) (cellsOf v)
section
variable {x : ByteArray} {l : List Dc} {b : Nat} {S : Nat → Prop} {w wr W : World} {j : Nat}
theorem qx.below (h : qx x l b S w wr j) (hb : Below wr.heap.size wr W) (hS : ∀ g, S g → g < wr.heap.size) (hbl : b < wr.heap.size) : qx x l b S w W j :=
  ⟨h.but.trans (.of_below hb), fun i hi => ⟨by rw [hb.cell (p := ⟨b, 0 + i, none⟩) hbl]; exact (h.th i hi).1, by rw [hb.frozen (p := ⟨b, 0 + i, none⟩) hbl]; exact (h.th i hi).2⟩, xQ h.done hb hS hbl, fun t d h1 h2 => by
    obtain ⟨v, h3, h4⟩ := h.rest t d h1 h2
    exact ⟨v, h3.keep (aA hb hS), fun i u hu => (hb.cell (p := ⟨b, t * 22 + i, none⟩) hbl).trans (h4 i u hu)⟩⟩
theorem lV (x : ByteArray) (l : List Dc) (d : Dc) : without x (l ++ [d]) = without x l ++ if d.name = x then [] else [d] := by
  unfold without
  rw [List.filter_append]
  congr 1
  by_cases h : d.name = x
  · rw [if_pos h, List.filter_cons, if_neg (by rw [(eF _ _).2 h]; simp)]; rfl
  · rw [if_neg h, List.filter_cons, if_pos (by simp only [Bool.not_eq_true']; cases e : (d.name == x); rfl; exact absurd ((eF _ _).1 e) h)]; rfl
theorem qx.skip (h : qx x l b S w wr j) (hj : j < l.length) (hx : l[j].name = x) : qx x l b S w wr (j + 1) := by
  refine ⟨h.but, h.th, ?_, fun t d h1 h2 => h.rest t d (by omega) h2⟩
  rw [pE l j hj, lV, if_pos hx, List.append_nil]
  exact h.done
end
end Go.Proofs.YtbmglebipepdmaaGreatDoor
