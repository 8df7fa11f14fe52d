/- What this closing text needs beyond the base: parts of the texts on typing and on the syntax; the conditions stand at each theorem. -/
import Derived.Lib.Join
import Derived.Laws.Concat
import Derived.Lib.ItoaNum
import Derived.Lib.ItoaLen
import Derived.KernelRfl
import Derived.Deep.MidRow
import Derived.WalkSpells
import Derived.Test.YtbmglebipepdmaaGreatDoorPkPlain
import Derived.Test.YtbmglebipepdmaaGreatDoorPkRound
import Derived.Test.YtbmglebipepdmaaGreatDoorPkTyp
import Derived.Test.YtbmglebipepdmaaGreatDoorPkMem
import Derived.Test.YtbmglebipepdmaaGreatDoorPkPara
import Derived.Test.YtbmglebipepdmaaGreatDoorPkParb
import Derived.Test.YtbmglebipepdmaaGreatDoorPkLex
import Derived.Test.YtbmglebipepdmaaGreatDoorPkPare
import Derived.Test.YtbmglebipepdmaaGreatDoorPkVala
import Derived.Test.YtbmglebipepdmaaGreatDoorPkValb
import Derived.Test.YtbmglebipepdmaaGreatDoorPkValc
import Derived.Test.YtbmglebipepdmaaGreatDoorPkFmta
import Derived.Test.YtbmglebipepdmaaGreatDoorPkFmtb
import Derived.Test.YtbmglebipepdmaaGreatDoorPkNms
import Derived.Test.YtbmglebipepdmaaGreatDoorPkTya
import Derived.Test.YtbmglebipepdmaaGreatDoorPkTyb
import Derived.Test.YtbmglebipepdmaaGreatDoorPkOpen
import Derived.Test.YtbmglebipepdmaaGreatDoorPkCheck
import Derived.Test.YtbmglebipepdmaaGreatDoorPkRefl
import Derived.Test.YtbmglebipepdmaaGreatDoorPkRefa
import Derived.Test.YtbmglebipepdmaaGreatDoorPkRefb
import Derived.Test.YtbmglebipepdmaaGreatDoorPkRefc
import Derived.Test.YtbmglebipepdmaaGreatDoorPkRefd
import Derived.Test.YtbmglebipepdmaaGreatDoorPkEq
import Derived.Test.YtbmglebipepdmaaGreatDoorPkHead
import Derived.Test.YtbmglebipepdmaaGreatDoorPkUses
import Derived.Test.YtbmglebipepdmaaGreatDoorPkAwt
namespace Go.Proofs.YtbmglebipepdmaaGreatDoor
end Go.Proofs.YtbmglebipepdmaaGreatDoor
namespace Go.Proofs.YtbmglebipepdmaaGreatDoor
end Go.Proofs.YtbmglebipepdmaaGreatDoor
namespace Go.Proofs.YtbmglebipepdmaaGreatDoor
theorem lex_nil (line : Nat) (acc : List (Tok × Nat)) : lex [] line acc = (acc, 0, 0) := rfl
end Go.Proofs.YtbmglebipepdmaaGreatDoor
namespace Go.Proofs.YtbmglebipepdmaaGreatDoor
end Go.Proofs.YtbmglebipepdmaaGreatDoor
namespace Go.Proofs.YtbmglebipepdmaaGreatDoor
end Go.Proofs.YtbmglebipepdmaaGreatDoor
namespace Go.Proofs.YtbmglebipepdmaaGreatDoor
mutual
def dQ : Tm → Nat
  | .mk _ _ _ _ kids => fM kids + 1
def fM : List Tm → Nat
  | [] => 0
  | t :: r => max (dQ t) (fM r)
end
end Go.Proofs.YtbmglebipepdmaaGreatDoor
namespace Go.Proofs.YtbmglebipepdmaaGreatDoor
end Go.Proofs.YtbmglebipepdmaaGreatDoor
namespace Go.Proofs.YtbmglebipepdmaaGreatDoor
end Go.Proofs.YtbmglebipepdmaaGreatDoor
namespace Go.Proofs.YtbmglebipepdmaaGreatDoor
def bytesOf (l : List Pc) : List UInt8 := l.flatMap Pc.bytes
theorem aX (a b : List Pc) : bytesOf (a ++ b) = bytesOf a ++ bytesOf b := by simp [bytesOf]
theorem aI (a b : List Pc) : aJ (a ++ b) = aJ a ++ aJ b := by simp [aJ]
theorem mr (x : Pc) (r : List Pc) : bytesOf (x :: r) = x.bytes ++ bytesOf r := rfl
theorem dU (x : Pc) (r : List Pc) : aJ (x :: r) = x.toks ++ aJ r := rfl
theorem uo : bytesOf [] = [] := rfl
theorem mW (b : Bool) (c : UInt8) (r : List Pc) : qQ b (.sym c :: r) = qQ false r := by simp [qQ, Pc.yI]
theorem mX (b : Bool) (g : List UInt8) (r : List Pc) : qQ b (.gap g :: r) = qQ false r := by simp [qQ, Pc.yI]
theorem CB (b : Bool) : qQ b [] = true := rfl

/-- The bytes begin with one that ends a word, or there are none. -/
def brk (l : List UInt8) : Prop := ∀ c r, l = c :: r → bZ c.toNat = false
theorem yH : ∀ c ∈ En, fI c.toNat = false ∧ eF c.toNat = false ∧ isDigit c.toNat = false ∧ c ≠ 34 := by decide
theorem J8 {r : List Pc} (h : qQ true r = true) (hok : ∀ x ∈ r, x.ok) : brk (bytesOf r) := by
  cases r with
  | nil => intro c r e; simp [bytesOf] at e
  | cons x r =>
    have hx := hok x (by simp)
    intro c s e
    rw [mr] at e
    cases x with
    | word b => simp [qQ, Pc.yI] at h
    | int n => simp [qQ, Pc.yI] at h
    | sym d =>
      have e1 : d = c := by simp [Pc.bytes] at e; exact e.1
      subst e1
      have := yH d hx.1
      unfold bZ; rw [this.2.1, this.2.2.1]; rfl
    | gap g =>
      obtain ⟨⟨d, q, rfl, hd⟩, -⟩ := hx
      have e1 : d = c := by simp [Pc.bytes] at e; exact e.1
      subst e1; exact hd

theorem Bf (p : Nat → Bool) (a r : List UInt8) (ha : ∀ c ∈ a, p c.toNat = true) (hr : ∀ c s, r = c :: s → p c.toNat = false) : pre p (a ++ r) = a.length := by
  induction a with
  | nil =>
    cases r with
    | nil => rfl
    | cons c s => unfold pre; simp [hr c s rfl]
  | cons c a ih =>
    have h0 := ha c (by simp)
    have h1 := ih (fun d hd => ha d (by simp [hd]))
    unfold pre at h1 ⊢
    rw [List.cons_append, List.takeWhile_cons, if_pos h0, List.length_cons, h1, List.length_cons]
/-- Digits. -/
theorem nW : ∀ i, i < 10 → (UInt8.ofNat (48 + i)).toNat = 48 + i := by
  intro i h
  rw [UInt8.toNat_ofNat']; omega
theorem LY (n : Nat) : ∀ u, u ≤ n → ∀ c ∈ Lib.decDigits u, isDigit c.toNat = true := by
  induction n with
  | zero =>
    intro u hu c hc
    have : u = 0 := by omega
    subst this
    rw [Lib.decDigits_one (by omega)] at hc
    simp at hc; subst hc; decide
  | succ n ih =>
    intro u hu c hc
    rw [Lib.decDigits] at hc
    split at hc
    · rename_i h
      obtain rfl := List.mem_singleton.1 hc
      unfold isDigit; rw [nW u h]; simp; omega
    · rename_i h
      rcases List.mem_append.1 hc with hc | hc
      · exact ih (u / 10) (by omega) c hc
      · obtain rfl := List.mem_singleton.1 hc
        have : u % 10 < 10 := Nat.mod_lt _ (by omega)
        unfold isDigit; rw [nW _ this]; simp; omega
theorem EM (a b : List UInt8) : ∀ v, lY v (a ++ b) = (lY v a).bind fun x => lY x b := by
  induction a with
  | nil => intro v; rfl
  | cons c r ih =>
    intro v
    rw [List.cons_append, lY, lY]
    split
    · rfl
    · exact ih _
theorem numGo_dec (n : Nat) : ∀ u, u ≤ n → u ≤ 100000 → lY 0 (Lib.decDigits u) = some u := by
  induction n with
  | zero =>
    intro u hu _
    have : u = 0 := by omega
    subst this
    rw [Lib.decDigits_one (by omega)]; rfl
  | succ n ih =>
    intro u hu hl
    rw [Lib.decDigits]
    split
    · rename_i h
      rw [lY, nW u h, if_neg (by omega), lY]
      congr 1; omega
    · rename_i h
      have hm : u % 10 < 10 := Nat.mod_lt _ (by omega)
      rw [EM, ih (u / 10) (by omega) (by omega)]
      show lY (u / 10) [UInt8.ofNat (48 + u % 10)] = some u
      rw [lY, nW _ hm, if_neg (by omega), lY]
      congr 1; omega
theorem J7 (n : Nat) : ∀ u, u ≤ n → ∃ c r, Lib.decDigits u = c :: r ∧ (0 < u → c ≠ 48) := by
  induction n with
  | zero =>
    intro u hu
    have : u = 0 := by omega
    subst this
    rw [Lib.decDigits_one (by omega)]; exact ⟨_, _, rfl, fun h => by omega⟩
  | succ n ih =>
    intro u hu
    rw [Lib.decDigits]
    split
    · rename_i h
      refine ⟨_, _, rfl, fun h0 e => ?_⟩
      have := congrArg UInt8.toNat e
      rw [nW u h] at this
      have e48 : (48 : UInt8).toNat = 48 := rfl
      omega
    · rename_i h
      obtain ⟨c, r, e, hc⟩ := ih (u / 10) (by omega)
      rw [e]
      exact ⟨c, r ++ _, rfl, fun _ => hc (by omega)⟩
theorem num_dec (u : Nat) (h : u ≤ 100000) : num (Lib.decDigits u) = some u := by
  unfold num
  rw [if_neg, numGo_dec u u (Nat.le_refl _) h]
  rintro ⟨h1, h2⟩
  by_cases h10 : u < 10
  · rw [Lib.decDigits_one h10] at h1; simp at h1
  · obtain ⟨c, r, e, hc⟩ := J7 u u (Nat.le_refl _)
    rw [e] at h2; simp at h2
    exact hc (by omega) h2
theorem itoa_nat {n : Int} (h : small n = true) : Lib.itoa n = Lib.decDigits n.toNat := by
  have := nJ h
  unfold Lib.itoa; rw [if_neg (by omega)]

theorem EY {c : Nat} (h : eF c = true) : fI c = false ∧ c ≠ 47 := by
  unfold eF at h
  unfold fI
  simp only [Bool.or_eq_true, Bool.and_eq_true, beq_iff_eq, decide_eq_true_eq] at h
  refine ⟨?_, by omega⟩
  simp only [Bool.or_eq_false_iff, beq_eq_false_iff_ne]
  omega
theorem Iz {c : Nat} (h : isDigit c = true) : fI c = false ∧ c ≠ 47 ∧ eF c = false := by
  unfold isDigit at h
  unfold fI eF
  simp only [Bool.and_eq_true, decide_eq_true_eq] at h
  refine ⟨?_, by omega, ?_⟩
  · simp only [Bool.or_eq_false_iff, beq_eq_false_iff_ne]; omega
  · simp only [Bool.or_eq_false_iff, Bool.and_eq_false_iff, beq_eq_false_iff_ne, decide_eq_false_iff_not]; omega
theorem JF {b : List UInt8} (h : dZ b = true) (r : List UInt8) (hr : brk r) (line : Nat) (acc : List (Tok × Nat)) : lex (b ++ r) line acc = lex r line (acc ++ [(aC b, line)]) := by
  obtain ⟨c, s, rfl, hc, hl, hall⟩ := kP h
  obtain ⟨h1, h2⟩ := EY hc
  have hp : pre bZ (c :: s ++ r) = (c :: s).length := Bf bZ _ _ hall hr
  have e : gM (c :: s ++ r) = some (aC (c :: s), (c :: s).length) := by
    rw [List.cons_append] at hp ⊢
    rw [gM, if_pos hc, hp, if_neg (by omega)]
    rw [← List.cons_append, List.take_left]; rfl
  rw [List.cons_append] at e ⊢
  rw [nM c (s ++ r) line acc _ _ h1 (fun hh => h2 (by rw [hh.1]; rfl)) e, ← List.cons_append, List.drop_left]
theorem lex_int {n : Int} (h : small n = true) (r : List UInt8) (hr : brk r) (line : Nat) (acc : List (Tok × Nat)) : lex (Lib.itoa n ++ r) line acc = lex r line (acc ++ [(iY n, line)]) := by
  have hn := nJ h
  rw [itoa_nat h]
  have hd := LY n.toNat n.toNat (Nat.le_refl _)
  have hv := num_dec n.toNat (by omega)
  obtain ⟨c, s, ec, -⟩ := J7 n.toNat n.toNat (Nat.le_refl _)
  rw [ec] at hd hv ⊢
  have hc := hd c (by simp)
  obtain ⟨h1, h2, h3⟩ := Iz hc
  have hp : pre isDigit (c :: s ++ r) = (c :: s).length := Bf isDigit _ _ hd (fun c' s' e' => by
    have := hr c' s' e'
    unfold bZ at this
    simp only [Bool.or_eq_false_iff] at this
    exact this.2)
  have e : gM (c :: s ++ r) = some (iY n, (c :: s).length) := by
    rw [List.cons_append] at hp ⊢
    rw [gM, if_neg (by rw [h3]; simp), if_pos hc, hp, ← List.cons_append, List.take_left, hv]; rfl
  rw [List.cons_append] at e ⊢
  rw [nM c (s ++ r) line acc _ _ h1 (fun hh => h2 (by rw [hh.1]; rfl)) e, ← List.cons_append, List.drop_left]
theorem lex_sym {c : UInt8} (h : c ∈ En ∧ c ≠ 47) (r : List UInt8) (line : Nat) (acc : List (Tok × Nat)) : lex (c :: r) line acc = lex r line (acc ++ [(iU c, line)]) := by
  obtain ⟨h1, h2, h3, h4⟩ := yH c h.1
  have e : gM (c :: r) = some (iU c, 1) := by
    rw [gM, if_neg (by rw [h2]; simp), if_neg (by rw [h3]; simp), if_neg h4, if_pos h.1]; rfl
  rw [nM c r line acc _ _ h1 (fun hh => h.2 hh.1) e]; rfl

/-- Well-separated pieces are read as their tokens. -/
theorem C8 : ∀ (ps : List Pc) (b : Bool), qQ b ps = true → (∀ x ∈ ps, x.ok) → ∀ line acc, ∃ L : aU, lex (bytesOf ps) line acc = (acc ++ L, 0, 0) ∧ L.map (·.1) = aJ ps := by
  intro ps
  induction ps with
  | nil => intro b _ _ line acc; exact ⟨[], by rw [uo, lex_nil, List.append_nil], rfl⟩
  | cons x r ih =>
    intro b hs hok line acc
    have hx := hok x (by simp)
    have hr : ∀ y ∈ r, y.ok := fun y hy => hok y (by simp [hy])
    have hsr : qQ x.yI r = true := by simp [qQ] at hs; exact hs.2
    rw [mr]
    cases x with
    | word w =>
      obtain ⟨L, h1, h2⟩ := ih _ hsr hr line (acc ++ [(aC w, line)])
      refine ⟨(aC w, line) :: L, ?_, by rw [dU, List.map_cons, h2]; rfl⟩
      rw [show (Pc.word w).bytes = w from rfl, JF hx _ (J8 hsr hr), h1]; simp
    | int n =>
      obtain ⟨L, h1, h2⟩ := ih _ hsr hr line (acc ++ [(iY n, line)])
      refine ⟨(iY n, line) :: L, ?_, by rw [dU, List.map_cons, h2]; rfl⟩
      rw [show (Pc.int n).bytes = Lib.itoa n from rfl, lex_int hx _ (J8 hsr hr), h1]; simp
    | sym c =>
      obtain ⟨L, h1, h2⟩ := ih _ hsr hr line (acc ++ [(iU c, line)])
      refine ⟨(iU c, line) :: L, ?_, by rw [dU, List.map_cons, h2]; rfl⟩
      rw [show (Pc.sym c).bytes = [c] from rfl, List.singleton_append, lex_sym hx, h1]; simp
    | gap g =>
      obtain ⟨line', hl⟩ := hx.2 (bytesOf r) line acc
      obtain ⟨L, h1, h2⟩ := ih _ hsr hr line' acc
      exact ⟨L, by rw [show (Pc.gap g).bytes = g from rfl, hl, h1], by rw [dU, h2]; rfl⟩

theorem JW : GapOk [10] := ⟨⟨_, _, rfl, by decide⟩, Fj [10] (by decide)⟩
end Go.Proofs.YtbmglebipepdmaaGreatDoor
namespace Go.Proofs.YtbmglebipepdmaaGreatDoor
theorem Km (l : List Tm) : Jj l = l.map dz := by
  induction l with
  | nil => rfl
  | cons t r ih => rw [Jj, ih]; rfl
theorem jX (t : Tm) : dz t = Lc t (t.kids.map dz) := by
  cases t with
  | mk op name need ws kids => rw [dz, Km]; rfl

theorem Me (r : List (List Pc)) (sep : List Pc) : bytesOf (r.flatMap (sep ++ ·)) = Lib.joinTail (bytesOf sep) (r.map bytesOf) := by
  induction r with
  | nil => rfl
  | cons x r ih =>
    rw [List.flatMap_cons, aX, ih, aX]
    simp [Lib.joinTail]
theorem pF (l : List (List Pc)) (sep : List Pc) : bytesOf (kJ l sep) = Lib.join (l.map bytesOf) (bytesOf sep) := by
  cases l with
  | nil => rfl
  | cons x r => rw [kJ, aX, Me, List.map_cons, Lib.join_cons]
theorem bytes_par (ops : List Int) (t : Tm) (x : List Pc) : bytesOf (mM ops t x) = par ops t (bytesOf x) := by
  unfold mM par
  split
  · rw [aX, aX]; rfl
  · rfl
theorem DC (ws : List Int) : ∀ (l : List (List Pc)), (iq ws l).map bytesOf = weighed ws (l.map bytesOf) := by
  intro l
  unfold iq weighed
  split
  · rfl
  · induction l generalizing ws with
    | nil => simp
    | cons x r ih =>
      cases ws with
      | nil => simp
      | cons w ws =>
        rw [List.zipWith_cons_cons, List.map_cons, List.map_cons, List.zipWith_cons_cons]
        congr 1
        · rw [aX]; simp [bytesOf, Pc.bytes]
        · by_cases h0 : ws.length = 0
          · have : ws = [] := List.length_eq_zero_iff.1 h0
            subst this; simp
          · exact ih _ h0
theorem Gh (ops : List Int) (ks : List Tm) : ∀ (l : List (List Pc)), (List.zipWith (mM ops) ks l).map bytesOf = List.zipWith (par ops) ks (l.map bytesOf) := by
  induction ks with
  | nil => intro l; simp
  | cons k r ih =>
    intro l
    cases l with
    | nil => simp
    | cons x l => rw [List.zipWith_cons_cons, List.map_cons, List.map_cons, List.zipWith_cons_cons, ih, bytes_par]
theorem Mf (t : Tm) (l : List (List Pc)) : bytesOf (Lc t l) = vK t (l.map bytesOf) := by
  unfold Lc vK
  split
  · rw [pF, Gh]; rfl
  split
  · rw [pF, Gh]; rfl
  split
  · rw [aX, aX]
    cases l <;> rfl
  split
  · simp [bytesOf, Pc.bytes]
  split
  · simp [bytesOf, Pc.bytes]
  split
  · simp [bytesOf, Pc.bytes]
  split
  · rw [aX, aX, pF, DC]
    simp [bytesOf, Pc.bytes, qD]
  · simp [bytesOf, Pc.bytes]
theorem tm_bytes : ∀ (n : Nat) (t : Tm), au t ≤ n → bytesOf (dz t) = aS t := by
  intro n
  induction n with
  | zero =>
      intro t ht; have : 0 < au t := by (cases t; rw [au]; omega)
      omega
  | succ n ih =>
    intro t ht
    rw [jX, jH, Mf, List.map_map]
    congr 1
    refine List.map_congr_left fun k hk => ih k ?_
    have := bX hk
    have := fH t
    omega
theorem sV (t : Tm) : bytesOf (dz t) = aS t := tm_bytes _ t (Nat.le_refl _)

theorem neat_line : dJ [.gap [10]] := ⟨rfl, fun x hx => by simp at hx; subst hx; exact JW⟩
theorem mo {b : List UInt8} (h : dZ b = true) : dJ [.word b] := ⟨rfl, fun x hx => by simp at hx; subst hx; exact h⟩
theorem yc {n : Int} (h : small n = true) : dJ [.int n] := ⟨rfl, fun x hx => by simp at hx; subst hx; exact h⟩
theorem dJ.oL {w : List UInt8} {c : UInt8} {b : List Pc} (hw : dZ w = true) (hb : dJ (.sym c :: b)) : dJ (.word w :: .sym c :: b) := dJ.ahead (a := [.word w]) (mo hw) hb (fun d => by rw [mW]; have := hb.1; rwa [mW] at this)
theorem dJ.gN {w : List UInt8} {c : List UInt8} {b : List Pc} (hw : dZ w = true) (hb : dJ (.gap c :: b)) : dJ (.word w :: .gap c :: b) := dJ.ahead (a := [.word w]) (mo hw) hb (fun d => by rw [mX]; have := hb.1; rwa [mX] at this)
theorem dJ.intSym {w : Int} {c : UInt8} {b : List Pc} (hw : small w = true) (hb : dJ (.sym c :: b)) : dJ (.int w :: .sym c :: b) := dJ.ahead (a := [.int w]) (yc hw) hb (fun d => by rw [mW]; have := hb.1; rwa [mW] at this)
theorem dJ.intGap {w : Int} {c : List UInt8} {b : List Pc} (hw : small w = true) (hb : dJ (.gap c :: b)) : dJ (.int w :: .gap c :: b) := dJ.ahead (a := [.int w]) (yc hw) hb (fun d => by rw [mX]; have := hb.1; rwa [mX] at this)
theorem dJ.xG {a b : List Pc} {c : UInt8} (ha : dJ a) (hb : dJ (.sym c :: b)) : dJ (a ++ .sym c :: b) := ha.ahead hb (fun d => by rw [mW]; have := hb.1; rwa [mW] at this)
theorem dJ.Ce {a b : List Pc} {c : List UInt8} (ha : dJ a) (hb : dJ (.gap c :: b)) : dJ (a ++ .gap c :: b) := ha.ahead hb (fun d => by rw [mX]; have := hb.1; rwa [mX] at this)

/-- A separator: a symbol or gap at both ends. -/
def SepOk (sep : List Pc) : Prop := dJ sep ∧ (∀ b, qQ b sep = true) ∧ (∀ b, ends b sep = false)
theorem andSep_ok : SepOk xH := ⟨(dJ.sym rW).gap, fun b => by simp [xH, mX, mW, CB], fun b => rfl⟩
theorem Jy : SepOk qR := ⟨(dJ.sym rW).gap, fun b => by simp [qR, mX, mW, CB], fun b => rfl⟩
theorem Gb : SepOk qD := ⟨dJ.sym rW, fun b => by simp [qD, mX, mW, CB], fun b => rfl⟩
theorem neat_tail {sep : List Pc} (hs : SepOk sep) (r : List (List Pc)) (h : ∀ x ∈ r, dJ x) : dJ (r.flatMap (sep ++ ·)) ∧ ∀ b, qQ b (r.flatMap (sep ++ ·)) = true := by
  induction r with
  | nil => exact ⟨.nil, fun _ => rfl⟩
  | cons x r ih =>
    obtain ⟨h1, h2⟩ := ih (fun y hy => h y (by simp [hy]))
    have hx : dJ (sep ++ x) := hs.1.behind (h x (by simp)) (hs.2.2 _)
    rw [List.flatMap_cons]
    refine ⟨hx.ahead h1 h2, fun b => ?_⟩
    rw [pY, pY, hs.2.1, hs.2.2, (h x (by simp)).1, h2]; rfl
theorem qV {sep : List Pc} (hs : SepOk sep) (l : List (List Pc)) (h : ∀ x ∈ l, dJ x) : dJ (kJ l sep) := by
  cases l with
  | nil => exact .nil
  | cons x r =>
    obtain ⟨h1, h2⟩ := neat_tail hs r (fun y hy => h y (by simp [hy]))
    exact (h x (by simp)).ahead h1 h2
theorem JB (ops : List Int) (t : Tm) (x : List Pc) (h : dJ x) : dJ (mM ops t x) := by
  unfold mM
  split
  · rw [List.append_assoc]; exact dJ.sym (h.xG iL)
  · exact h
theorem dh {x : ByteArray} (h : aP x = true) : dZ x.data.toList = true := by
  unfold aP at h
  rw [Bool.and_eq_true] at h
  exact h.1
theorem GX : dZ ((⟨#[115, 101, 114, 118, 101, 114, 115]⟩ : ByteArray)).data.toList = true := by decide
/-- Names that stand in parentheses behind a function. -/
theorem o9 {x : ByteArray} (h : (aP x || x == (⟨#[115, 101, 114, 118, 101, 114, 115]⟩ : ByteArray)) = true) : dZ x.data.toList = true := by
  rw [Bool.or_eq_true] at h
  rcases h with h | h
  · exact dh h
  · rw [(gY _ _).1 h]; exact GX
theorem vJ (nm : ByteArray) (nd : Int) (ws : List Int) (ks : List Tm) : bO (.mk 1 nm nd ws ks) = (aP nm && bare (.mk 1 nm nd ws ks)) := rfl
theorem vI (nm : ByteArray) (nd : Int) (ws : List Int) (ks : List Tm) : bO (.mk 2 nm nd ws ks) = (decide (nm.size = 0) && small nd && decide (0 < ks.length) && (decide (ws.length = 0) || decide (ws.length = ks.length))) := rfl
theorem vH (nm : ByteArray) (nd : Int) (ws : List Int) (ks : List Tm) : bO (.mk 5 nm nd ws ks) = (decide (nm.size = 0) && decide (nd = 0) && decide (ws.length = 0) && decide (ks.length = 1)) := rfl
theorem vG (nm : ByteArray) (nd : Int) (ws : List Int) (ks : List Tm) : bO (.mk 6 nm nd ws ks) = ((aP nm || nm == (⟨#[115, 101, 114, 118, 101, 114, 115]⟩ : ByteArray)) && bare (.mk 6 nm nd ws ks)) := rfl
theorem vF (nm : ByteArray) (nd : Int) (ws : List Int) (ks : List Tm) : bO (.mk 7 nm nd ws ks) = ((aP nm || nm == (⟨#[115, 101, 114, 118, 101, 114, 115]⟩ : ByteArray)) && bare (.mk 7 nm nd ws ks)) := rfl
theorem vE (nm : ByteArray) (nd : Int) (ws : List Int) (ks : List Tm) : bO (.mk 8 nm nd ws ks) = ((aP nm || nm == (⟨#[115, 101, 114, 118, 101, 114, 115]⟩ : ByteArray)) && bare (.mk 8 nm nd ws ks)) := rfl
theorem zQ {op : Int} {nm : ByteArray} {nd : Int} {ws : List Int} {ks : List Tm} (h : bO (.mk op nm nd ws ks) = true) : op = 1 ∨ op = 2 ∨ op = 3 ∨ op = 4 ∨ op = 5 ∨ op = 6 ∨ op = 7 ∨ op = 8 := by
  apply Decidable.byContradiction
  intro hn
  have e : bO (.mk op nm nd ws ks) = false := by
    unfold bO
    show (if op = 1 then _ else if op = 6 ∨ op = 7 ∨ op = 8 then _ else if op = 2 then _ else if op = 3 ∨ op = 4 then _ else if op = 5 then _ else false) = false
    rw [if_neg (by omega), if_neg (by omega), if_neg (by omega), if_neg (by omega), if_neg (by omega)]
  rw [e] at h; cases h
theorem pcs1 (nm : ByteArray) (nd : Int) (ws : List Int) (ks : List Tm) : dz (.mk 1 nm nd ws ks) = [.word nm.data.toList] := by rw [jX]; rfl
theorem pcs2 (nm : ByteArray) (nd : Int) (ws : List Int) (ks : List Tm) : dz (.mk 2 nm nd ws ks) = [.int nd, .sym 40] ++ kJ (iq ws (ks.map dz)) qD ++ [.sym 41] := by rw [jX]; rfl
theorem zipP {α : Type} (f : Tm → List Pc → α) (g : Tm → List Pc) (l : List Tm) : List.zipWith f l (l.map g) = l.map (fun k => f k (g k)) := by
  induction l with
  | nil => rfl
  | cons x r ih => simp [ih]
theorem pcs3 (nm : ByteArray) (nd : Int) (ws : List Int) (ks : List Tm) : dz (.mk 3 nm nd ws ks) = kJ (ks.map fun k => mM [3, 4] k (dz k)) xH := by rw [jX]; show kJ (List.zipWith (mM [3, 4]) ks (ks.map dz)) xH = _; rw [zipP]
theorem pcs4 (nm : ByteArray) (nd : Int) (ws : List Int) (ks : List Tm) : dz (.mk 4 nm nd ws ks) = kJ (ks.map fun k => mM [4] k (dz k)) qR := by rw [jX]; show kJ (List.zipWith (mM [4]) ks (ks.map dz)) qR = _; rw [zipP]
theorem pcs5 (nm : ByteArray) (nd : Int) (ws : List Int) (k : Tm) : dz (.mk 5 nm nd ws [k]) = [.word [100, 117, 97, 108], .sym 40] ++ dz k ++ [.sym 41] := by rw [jX]; rfl
theorem pcs6 (nm : ByteArray) (nd : Int) (ws : List Int) (ks : List Tm) : dz (.mk 6 nm nd ws ks) = [.word [109, 97, 106, 111, 114, 105, 116, 121], .sym 40, .word nm.data.toList, .sym 41] := by rw [jX]; rfl
theorem pcs7 (nm : ByteArray) (nd : Int) (ws : List Int) (ks : List Tm) : dz (.mk 7 nm nd ws ks) = [.word [97, 108, 108], .sym 40, .word nm.data.toList, .sym 41] := by rw [jX]; rfl
theorem pcs8 (nm : ByteArray) (nd : Int) (ws : List Int) (ks : List Tm) : dz (.mk 8 nm nd ws ks) = [.word [97, 110, 121], .sym 40, .word nm.data.toList, .sym 41] := by rw [jX]; rfl
theorem qN {ws : List Int} {ls : List (List Pc)} {x : List Pc} (h : x ∈ iq ws ls) : ∃ y ∈ ls, x = y ∨ ∃ w ∈ ws, x = y ++ [.sym 42, .int w] := by
  unfold iq at h
  split at h
  · exact ⟨x, h, Or.inl rfl⟩
  · obtain ⟨i, hi, rfl⟩ := List.mem_iff_getElem.1 h
    rw [List.length_zipWith] at hi
    exact ⟨ls[i], List.getElem_mem _, Or.inr ⟨ws[i], List.getElem_mem _, by simp⟩⟩
theorem tm_neat : ∀ (n : Nat) (t : Tm), au t ≤ n → dX t = true → dJ (dz t) := by
  intro n
  induction n with
  | zero =>
      intro t ht; have : 0 < au t := by (cases t; rw [au]; omega)
      omega
  | succ n ih =>
    intro t ht hok
    obtain ⟨h1, h2, h3⟩ := nC hok
    have hs := fH t
    obtain ⟨op, nm, nd, ws, ks⟩ := t
    have hk : ∀ k ∈ ks, dJ (dz k) := fun k hk => ih k (by have := bX hk; have hs : au (.mk op nm nd ws ks) = 1 + nm.size + ws.length + aR ks := hs; omega) (h3 k hk)
    have h2 : ∀ w ∈ ws, small w = true := h2
    rcases zQ h1 with rfl | rfl | rfl | rfl | rfl | rfl | rfl | rfl
    · rw [vJ, Bool.and_eq_true] at h1
      rw [pcs1]; exact mo (dh h1.1)
    · rw [vI] at h1
      simp only [Bool.and_eq_true] at h1
      rw [pcs2, List.append_assoc]
      refine dJ.intSym h1.1.1.2 (dJ.sym ?_)
      refine dJ.xG (qV Gb _ fun x hx => ?_) iL
      obtain ⟨y, hy, hxy⟩ := qN hx
      obtain ⟨k, hkk, rfl⟩ := List.mem_map.1 hy
      rcases hxy with rfl | ⟨w, hw, rfl⟩
      · exact hk k hkk
      · exact (hk k hkk).xG (dJ.sym (yc (h2 w hw)))
    · rw [pcs3]
      refine qV andSep_ok _ fun x hx => ?_
      obtain ⟨k, hkk, rfl⟩ := List.mem_map.1 hx
      exact JB _ _ _ (hk k hkk)
    · rw [pcs4]
      refine qV Jy _ fun x hx => ?_
      obtain ⟨k, hkk, rfl⟩ := List.mem_map.1 hx
      exact JB _ _ _ (hk k hkk)
    · rw [vH] at h1
      simp only [Bool.and_eq_true, decide_eq_true_eq] at h1
      obtain ⟨k, rfl⟩ := List.length_eq_one_iff.1 h1.2
      rw [pcs5, List.append_assoc]
      exact dJ.oL (by decide) (dJ.sym ((hk k (by simp)).xG iL))
    · rw [vG, Bool.and_eq_true] at h1
      rw [pcs6]; exact dJ.oL (by decide) (dJ.sym (dJ.oL (o9 h1.1) iL))
    · rw [vF, Bool.and_eq_true] at h1
      rw [pcs7]; exact dJ.oL (by decide) (dJ.sym (dJ.oL (o9 h1.1) iL))
    · rw [vE, Bool.and_eq_true] at h1
      rw [pcs8]; exact dJ.oL (by decide) (dJ.sym (dJ.oL (o9 h1.1) iL))
theorem oZ {t : Tm} (h : dX t = true) : dJ (dz t) := tm_neat _ t (Nat.le_refl _) h
end Go.Proofs.YtbmglebipepdmaaGreatDoor
namespace Go.Proofs.YtbmglebipepdmaaGreatDoor
theorem jY {x : ByteArray} (h : x.size = 0) : x = bs [] := by
  rw [← dR x]
  have : x.data.toList.length = 0 := by simpa using h
  rw [List.length_eq_zero_iff.1 this]
end Go.Proofs.YtbmglebipepdmaaGreatDoor
namespace Go.Proofs.YtbmglebipepdmaaGreatDoor
def nameP (x : ByteArray) : List Pc := [.word x.data.toList]
def iy (l : List ByteArray) : List Pc := kJ (l.map nameP) qD
def jS (w : List UInt8) (l : List ByteArray) : List Pc := [.word w, .gap [32], .sym 123, .gap [32]] ++ (iy l ++ [.gap [32], .sym 125])
def Ev (f : Ft) : List Pc :=
  if f.aH.length = 0 then jS [99, 114, 97, 115, 104] f.ax
  else if f.ax.length = 0 then jS [98, 121, 122] f.aH
  else jS [98, 121, 122] f.aH ++ (.gap [32] :: jS [99, 114, 97, 115, 104] f.ax)
def ftP (f : Ft) : List Pc :=
  if f.op = 1 then [.word [110, 111, 110, 101]]
  else if f.op = 2 then [.word [116, 104, 114, 101, 115, 104, 111, 108, 100], .gap [32], .int f.byz, .gap [32], .int f.kW]
  else if f.op = 4 then [.word [115, 105, 116, 101], .gap [32], .word f.name.data.toList, .gap [32], .word [98, 121, 122]]
  else if f.op = 5 then [.word [115, 105, 116, 101], .gap [32], .word f.name.data.toList, .gap [32], .word [99, 114, 97, 115, 104]]
  else if f.op = 3 then Ev f
  else [.word f.name.data.toList]
def dcP (d : Dc) : List Pc :=
  if d.kind = 1 then [.word [115, 105, 116, 101], .gap [32], .word d.name.data.toList, .gap [32], .sym 123, .gap [32]] ++ (iy d.names ++ [.gap [32], .sym 125, .sym 59])
  else if d.kind = 2 then [.word [102, 97, 117, 108, 116, 115], .gap [32], .word d.name.data.toList, .gap [32], .sym 61, .gap [32]] ++ (kJ (d.faults.map ftP) qR ++ [.sym 59])
  else if d.kind = 3 then [.word [113, 117, 111, 114, 117, 109], .gap [32], .word d.name.data.toList, .gap [32], .sym 61, .gap [32]] ++ (dz d.term ++ [.sym 59])
  else if d.kind = 4 then [.word [99, 111, 110, 102, 105, 103], .gap [32], .word d.name.data.toList, .gap [32], .word d.proto.data.toList, .gap [32], .word [114, 101, 97, 100], .gap [32]] ++ (dz d.read ++ (.gap [32] :: .word [119, 114, 105, 116, 101] :: .gap [32] :: (dz d.write ++ [.gap [32], .word [102, 97, 117, 108, 116, 115], .gap [32], .word d.use.data.toList, .sym 59])))
  else if d.kind = 5 then [.word [119, 105, 116, 110, 101, 115, 115], .gap [32]] ++ (iy d.names ++ [.sym 59])
  else if d.kind = 7 then [.word [99, 104, 97, 105, 110], .gap [32]] ++ (iy d.names ++ [.sym 59])
  else if d.use.size = 0 then [.word [99, 108, 105, 101, 110, 116], .gap [32], .word d.name.data.toList, .sym 59]
  else [.word [99, 108, 105, 101, 110, 116], .gap [32], .word d.name.data.toList, .gap [32], .word [102, 97, 117, 108, 116, 115], .gap [32], .word d.use.data.toList, .sym 59]
def qL (l : List Dc) : List Pc := l.flatMap fun d => dcP d ++ [.gap [10]]

theorem qg (l : List ByteArray) : bytesOf (iy l) = eD l := by
  unfold iy eD joined
  rw [pF]
  have e : (l.map nameP).map bytesOf = lst l := by
    unfold lst
    rw [List.map_map]
    refine List.map_congr_left fun x _ => ?_
    simp [nameP, bytesOf, Pc.bytes]
  rw [e]; rfl
theorem oI (w : List UInt8) (l : List ByteArray) : bytesOf (jS w l) = mE w l := by
  unfold jS mE
  rw [aX, aX, qg]
  simp [bytesOf, Pc.bytes]
theorem ft_bytes {f : Ft} (h : aZ f = true) : bytesOf (ftP f) = iB f := by
  unfold ftP iB
  split
  · rfl
  split
  · simp [bytesOf, Pc.bytes]
  split
  · simp [bytesOf, Pc.bytes]
  split
  · simp [bytesOf, Pc.bytes]
  split
  · rename_i h1 h2 h4 h5 h3
    have hn : 0 < f.aH.length + f.ax.length := by
      unfold aZ at h
      rw [if_neg h1, if_neg h2, if_pos h3] at h
      simp only [Bool.and_eq_true, gH, decide_eq_true_eq] at h
      exact h.1.1.2
    unfold Ev pX
    by_cases hb : f.aH.length = 0
    · have hc : f.ax.length ≠ 0 := by omega
      rw [if_pos hb, if_pos hb, if_neg hc, oI, List.nil_append, Lib.join_one]
    · rw [if_neg hb, if_neg hb]
      by_cases hc : f.ax.length = 0
      · rw [if_pos hc, if_pos hc, oI, List.append_nil, Lib.join_one]
      · rw [if_neg hc, if_neg hc, aX, mr, oI, oI, List.singleton_append, Lib.join_cons]
        simp [Lib.joinTail, Pc.bytes]
  · simp [bytesOf, Pc.bytes]
theorem dc_bytes {d : Dc} (h : d.faults.all aZ = true) : bytesOf (dcP d) = fT d := by
  unfold dcP fT
  split
  · rw [aX, aX, qg]; simp [bytesOf, Pc.bytes]
  split
  · rw [aX, aX, pF, List.map_map]
    have e : d.faults.map (bytesOf ∘ ftP) = d.faults.map iB := List.map_congr_left fun f hf => ft_bytes (List.all_eq_true.1 h f hf)
    rw [e]; simp [bytesOf, Pc.bytes, qR]
  split
  · rw [aX, aX, sV]; simp [bytesOf, Pc.bytes]
  split
  · simp only [aX, mr, uo, sV]; simp [Pc.bytes]
  split
  · rw [aX, aX, qg]; simp [bytesOf, Pc.bytes]
  split
  · rw [aX, aX, qg]; simp [bytesOf, Pc.bytes]
  split
  · simp [bytesOf, Pc.bytes]
  · simp [bytesOf, Pc.bytes]

theorem tO {l : List ByteArray} (h : aY l = true) : ∀ x ∈ l, aP x = true := List.all_eq_true.1 h
theorem rX {l : List ByteArray} (h : aY l = true) : dJ (iy l) := by
  refine qV Gb _ fun x hx => ?_
  obtain ⟨y, hy, rfl⟩ := List.mem_map.1 hx
  exact mo (dh (tO h y hy))
theorem qA {w : List UInt8} {l : List ByteArray} (hw : dZ w = true) (h : aY l = true) : dJ (jS w l) :=
  dJ.gN hw (dJ.gap (dJ.sym (dJ.gap ((rX h).Ce (dJ.gap iL)))))
theorem ft_ok {f : Ft} (h : aZ f = true) : (f.op = 1 ∧ f = ⟨1, bs [], 0, 0, [], []⟩) ∨ (f.op = 2 ∧ small f.byz = true ∧ small f.kW = true ∧ f = ⟨2, bs [], f.byz, f.kW, [], []⟩) ∨
    (f.op = 3 ∧ 0 < f.aH.length + f.ax.length ∧ aY f.aH = true ∧ aY f.ax = true ∧ f = ⟨3, bs [], 0, 0, f.aH, f.ax⟩) ∨
    ((f.op = 4 ∨ f.op = 5 ∨ f.op = 6) ∧ aP f.name = true ∧ f = ⟨f.op, f.name, 0, 0, [], []⟩) := by
  obtain ⟨op, nm, x, y, bl, cl⟩ := f
  unfold aZ at h
  simp only at h
  have named : ∀ (o : Int), gH ⟨o, nm, x, y, bl, cl⟩ = false → bl = [] ∧ cl = [] := by
    intro o ho
    have : ¬ 0 < bl.length + cl.length := of_decide_eq_false ho
    exact ⟨List.length_eq_zero_iff.1 (by omega), List.length_eq_zero_iff.1 (by omega)⟩
  have numbered : ∀ (o : Int), dB ⟨o, nm, x, y, bl, cl⟩ = false → x = 0 ∧ y = 0 := by
    intro o ho
    have : (!decide (x = 0) || !decide (y = 0)) = false := ho
    simpa using this
  split at h
  · rename_i h1
    subst h1
    simp only [Bool.and_eq_true, decide_eq_true_eq, Bool.not_eq_true'] at h
    obtain ⟨rfl, rfl⟩ := named _ h.2
    obtain ⟨rfl, rfl⟩ := numbered _ h.1.2
    exact Or.inl ⟨rfl, by rw [jY h.1.1]⟩
  split at h
  · rename_i h1
    subst h1
    simp only [Bool.and_eq_true, decide_eq_true_eq, Bool.not_eq_true'] at h
    obtain ⟨rfl, rfl⟩ := named _ h.2
    exact Or.inr (Or.inl ⟨rfl, h.1.1.2, h.1.2, by rw [jY h.1.1.1]⟩)
  split at h
  · rename_i h1
    subst h1
    simp only [Bool.and_eq_true, decide_eq_true_eq, Bool.not_eq_true'] at h
    obtain ⟨rfl, rfl⟩ := numbered _ h.1.1.1.2
    exact Or.inr (Or.inr (Or.inl ⟨rfl, of_decide_eq_true h.1.1.2, h.1.2, h.2, by rw [jY h.1.1.1.1]⟩))
  split at h
  · rename_i h1
    simp only [Bool.and_eq_true, Bool.not_eq_true'] at h
    obtain ⟨rfl, rfl⟩ := named _ h.2
    obtain ⟨rfl, rfl⟩ := numbered _ h.1.2
    exact Or.inr (Or.inr (Or.inr ⟨h1, h.1.1, rfl⟩))
  · cases h
theorem sets_neat {f : Ft} (h1 : aY f.aH = true) (h2 : aY f.ax = true) : dJ (Ev f) := by
  unfold Ev
  split
  · exact qA (by decide) h2
  split
  · exact qA (by decide) h1
  · exact (qA (by decide) h1).Ce (dJ.gap (qA (by decide) h2))
theorem ft_neat {f : Ft} (h : aZ f = true) : dJ (ftP f) := by
  rcases ft_ok h with ⟨h1, -⟩ | ⟨h1, h2, h3, -⟩ | ⟨h1, -, h3, h4, -⟩ | ⟨h1, h2, -⟩
  · unfold ftP; rw [if_pos h1]; exact mo (by decide)
  · unfold ftP; rw [if_neg (by omega), if_pos h1]
    exact dJ.gN (by decide) (dJ.gap (dJ.intGap h2 (dJ.gap (yc h3))))
  · unfold ftP; rw [if_neg (by omega), if_neg (by omega), if_neg (by omega), if_neg (by omega), if_pos h1]
    exact sets_neat h3 h4
  · unfold ftP
    rcases h1 with h1 | h1 | h1
    · rw [if_neg (by omega), if_neg (by omega), if_pos h1]
      exact dJ.gN (by decide) (dJ.gap (dJ.gN (dh h2) (dJ.gap (mo (by decide)))))
    · rw [if_neg (by omega), if_neg (by omega), if_neg (by omega), if_pos h1]
      exact dJ.gN (by decide) (dJ.gap (dJ.gN (dh h2) (dJ.gap (mo (by decide)))))
    · rw [if_neg (by omega), if_neg (by omega), if_neg (by omega), if_neg (by omega), if_neg (by omega)]
      exact mo (dh h2)
theorem dc_neat {d : Dc} (h0 : iE d = true) : dJ (dcP d) := by
  have h := xK h0
  unfold dcP
  rcases rD h with hk | hk | hk | hk | hk | hk | hk
  · rw [if_pos hk]
    have hn := eG h (by rw [hk]; rfl)
    exact dJ.gN (by decide) (dJ.gap (dJ.gN (dh hn) (dJ.gap (dJ.sym (dJ.gap ((rX h.names).Ce (dJ.gap (dJ.sym iL))))))))
  · rw [if_neg (by omega), if_pos hk]
    have hn := eG h (by rw [hk]; rfl)
    refine dJ.gN (by decide) (dJ.gap (dJ.gN (dh hn) (dJ.gap (dJ.sym (dJ.gap (dJ.xG (qV Jy _ fun x hx => ?_) iL))))))
    obtain ⟨f, hf, rfl⟩ := List.mem_map.1 hx
    exact ft_neat (List.all_eq_true.1 h.faults f hf)
  · rw [if_neg (by omega), if_neg (by omega), if_pos hk]
    have hn := eG h (by rw [hk]; rfl)
    have ht : dX d.term = true := by have := h.term; rw [hk] at this; exact this
    exact dJ.gN (by decide) (dJ.gap (dJ.gN (dh hn) (dJ.gap (dJ.sym (dJ.gap ((oZ ht).xG iL))))))
  · rw [if_neg (by omega), if_neg (by omega), if_neg (by omega), if_pos hk]
    have hn := eG h (by rw [hk]; rfl)
    obtain ⟨hp, hr, hw, hu⟩ := wM h (by rw [hk]; rfl)
    exact dJ.gN (by decide) (dJ.gap (dJ.gN (dh hn) (dJ.gap (dJ.gN (uO hp) (dJ.gap (dJ.gN (by decide) (dJ.gap
      ((oZ hr).Ce (dJ.gap (dJ.gN (by decide) (dJ.gap ((oZ hw).Ce (dJ.gap (dJ.gN (by decide) (dJ.gap (dJ.oL (dh hu) iL))))))))))))))))
  · rw [if_neg (by omega), if_neg (by omega), if_neg (by omega), if_neg (by omega), if_pos hk]
    exact dJ.gN (by decide) (dJ.gap ((rX h.names).xG iL))
  · rw [if_neg (by omega), if_neg (by omega), if_neg (by omega), if_neg (by omega), if_neg (by omega), if_neg (by omega)]
    have hn := eG h (by rw [hk]; rfl)
    split
    · exact dJ.gN (by decide) (dJ.gap (dJ.oL (dh hn) iL))
    · rename_i hu
      have hu2 : aP d.use = true := by
          rcases h.use with h | h
          · exact absurd h hu
          · exact h
      exact dJ.gN (by decide) (dJ.gap (dJ.gN (dh hn) (dJ.gap (dJ.gN (by decide) (dJ.gap (dJ.oL (dh hu2) iL))))))
  · rw [if_neg (by omega), if_neg (by omega), if_neg (by omega), if_neg (by omega), if_neg (by omega), if_pos hk]
    exact dJ.gN (by decide) (dJ.gap ((rX h.names).xG iL))
theorem vT {l : List Dc} (h : l.all iE = true) : bytesOf (qL l) = dn l := by
  unfold qL dn
  induction l with
  | nil => rfl
  | cons d r ih =>
    rw [List.all_cons, Bool.and_eq_true] at h
    rw [List.flatMap_cons, List.flatMap_cons, aX, aX, ih h.2, dc_bytes (xK h.1).faults]; rfl
theorem Dx {l : List Dc} (h : l.all iE = true) : dJ (qL l) := by
  unfold qL
  induction l with
  | nil => exact .nil
  | cons d r ih =>
    rw [List.all_cons, Bool.and_eq_true] at h
    rw [List.flatMap_cons]
    refine dJ.behind ((dc_neat h.1).Ce neat_line) (ih h.2) ?_
    have : ∀ (l : List Pc) b, ends b (l ++ [.gap [10]]) = false := by
      intro l
      induction l with
      | nil => intro b; rfl
      | cons x r ih => intro b; exact ih _
    exact this _ _
end Go.Proofs.YtbmglebipepdmaaGreatDoor
namespace Go.Proofs.YtbmglebipepdmaaGreatDoor
end Go.Proofs.YtbmglebipepdmaaGreatDoor
namespace Go.Proofs.YtbmglebipepdmaaGreatDoor
theorem vR (l : List Dc) : aJ (qL l) = (l.map fun d => aJ (dcP d)).flatten := by
  unfold qL
  induction l with
  | nil => rfl
  | cons d r ih => rw [List.flatMap_cons, aI, ih, aI]; simp [aJ, Pc.toks]
end Go.Proofs.YtbmglebipepdmaaGreatDoor
namespace Go.Proofs.YtbmglebipepdmaaGreatDoor
def ji (c : Bool) (d : Dc) : Bool := decide (d.kind = 2) || decide (d.kind = 3) || (decide (d.kind = 4) && c)
/-- What Unused returns. -/
def mQ (l : List Dc) : List ByteArray := l.flatMap fun d => if ji (eB l) d = true ∧ tyUses l d.name = [] then [d.name] else []

/-- No error ahead of the end. -/
theorem L6 {l : List Dc} : ∀ {pre : List Dc}, (jh pre l).2 = 0 → (∀ i (h : i < l.length), jF (pre ++ l.take i) l[i] = 0) ∧ 0 < aN (pre ++ l) ∧ 0 < fu 4 (pre ++ l) := by
  induction l with
  | nil =>
    intro pre h
    rw [jh] at h
    split at h
    · cases h
    · exact ⟨fun i hi => by simp at hi, by rw [List.append_nil]; omega, by rw [List.append_nil]; omega⟩
  | cons d r ih =>
    intro pre h
    rw [jh] at h
    split at h
    · rename_i hne
      exact absurd h hne
    · rename_i h0
      obtain ⟨h1, h2, h3⟩ := ih h
      rw [List.append_assoc, List.singleton_append] at h2 h3
      refine ⟨fun i hi => ?_, h2, h3⟩
      cases i with
      | zero => rw [List.take_zero, List.append_nil]; exact Decidable.not_not.1 h0
      | succ i =>
        have := h1 i (by simpa using hi)
        rw [List.append_assoc, List.singleton_append] at this
        exact this
theorem BS {l : List Dc} : ∀ {pre : List Dc}, (∀ i (h : i < l.length), jF (pre ++ l.take i) l[i] = 0) → jh pre l = if aN (pre ++ l) = 0 ∨ fu 4 (pre ++ l) = 0 then (0, 9) else (0, 0) := by
  induction l with
  | nil => intro pre _; rw [jh, List.append_nil]
  | cons d r ih =>
    intro pre h
    have h0 := h 0 (by simp)
    rw [List.take_zero, List.append_nil] at h0
    rw [jh, if_neg (by rw [Decidable.not_not]; exact h0), ih (fun i hi => ?_)]
    · rw [List.append_assoc, List.singleton_append]
    · have := h (i + 1) (by simpa using hi)
      rw [List.take_succ_cons] at this
      rw [List.append_assoc, List.singleton_append]
      exact this
theorem BQ {l : List Dc} (h : (fZ l).2 = 0) : (cO l).2 = 0 ∧ (∀ i (h : i < l.length), jF (l.take i) l[i] = 0) ∧ 0 < aN l ∧ 0 < fu 4 l ∧ fZ l = (0, 0) := by
  unfold fZ at h ⊢
  by_cases hf : (cO l).2 = 0
  · rw [if_neg (by rw [Decidable.not_not]; exact hf)] at h ⊢
    obtain ⟨h1, h2, h3⟩ := L6 h
    simp only [List.nil_append] at h1 h2 h3
    refine ⟨hf, h1, h2, h3, ?_⟩
    rw [BS (by simpa using h1)]
    simp only [List.nil_append]
    rw [if_neg (by omega)]
  · rw [if_pos hf] at h
    exact absurd h hf
theorem BR {l : List Dc} (hf : (cO l).2 = 0) (h : ∀ i (h : i < l.length), jF (l.take i) l[i] = 0) : fZ l = if aN l = 0 ∨ fu 4 l = 0 then (0, 9) else (0, 0) := by
  unfold fZ
  rw [if_neg (by rw [Decidable.not_not]; exact hf), BS (by simpa using h)]
  simp only [List.nil_append]
end Go.Proofs.YtbmglebipepdmaaGreatDoor
namespace Go.Proofs.YtbmglebipepdmaaGreatDoor
theorem yJ {l : List Dc} (h : l.all iE = true) : nK (dn l) = (decide ((dn l).length ≤ 65536) && decide ((aJ (qL l)).length ≤ 3000)) := by
  have hn := Dx h
  obtain ⟨L, h1, h2⟩ := C8 (qL l) false hn.1 hn.2 1 []
  have hll : L.length = (aJ (qL l)).length := by rw [← List.length_map (f := (·.1)), h2]
  rw [vT h, List.nil_append] at h1
  unfold nK
  rw [h1, ← hll]
  simp
theorem nS {l : List Dc} (h : (cO l).2 = 0) : l.all iE = true ∧ (dn l).length ≤ 65536 ∧ (aJ (qL l)).length ≤ 3000 := by
  unfold cO at h
  by_cases ho : l.all iE = true
  · rw [if_pos ho] at h
    unfold iO at h
    by_cases hs : nK (dn l) = true
    · rw [yJ ho] at hs
      simp only [Bool.and_eq_true, decide_eq_true_eq] at hs
      exact ⟨ho, hs⟩
    · rw [if_neg hs] at h; simp at h
  · rw [if_neg ho] at h; simp at h
theorem Fv {l : List Dc} (h : l.all iE = true) (h1 : (dn l).length ≤ 65536) (h2 : (aJ (qL l)).length ≤ 3000) : (cO l).2 = 0 := by
  unfold cO
  rw [if_pos h]
  unfold iO
  rw [if_pos (by rw [yJ h]; simp only [Bool.and_eq_true, decide_eq_true_eq]; exact ⟨h1, h2⟩)]
theorem JY {α β : Type} (f : α → List β) {m l : List α} (h : m.Sublist l) : (m.flatMap f).length ≤ (l.flatMap f).length := by
  induction h with
  | slnil => exact Nat.le_refl _
  | cons a h ih => rw [List.flatMap_cons, List.length_append]; omega
  | cons_cons a h ih => rw [List.flatMap_cons, List.flatMap_cons, List.length_append, List.length_append]; omega
theorem BF {m l : List Dc} (hs : m.Sublist l) (h : (cO l).2 = 0) : (cO m).2 = 0 := by
  obtain ⟨h1, h2, h3⟩ := nS h
  refine Fv (List.all_eq_true.2 fun d hd => List.all_eq_true.1 h1 d (hs.subset hd)) ?_ ?_
  · have := JY (fun d => fT d ++ [10]) hs
    unfold dn at h2 ⊢; omega
  · have := JY (fun d => aJ (dcP d)) hs
    rw [vR] at h3 ⊢
    rw [← List.flatMap_def] at h3 ⊢
    omega

end Go.Proofs.YtbmglebipepdmaaGreatDoor
namespace Go.Proofs.YtbmglebipepdmaaGreatDoor
mutual
def jO (ρ : ByteArray → ByteArray) : Tm → Tm
  | .mk op name nd ws kids => .mk op (ρ name) nd ws (Jk ρ kids)
def Jk (ρ : ByteArray → ByteArray) : List Tm → List Tm
  | [] => []
  | t :: r => jO ρ t :: Jk ρ r
end
theorem ny (ρ : ByteArray → ByteArray) (l : List Tm) : Jk ρ l = l.map (jO ρ) := by
  induction l with
  | nil => rfl
  | cons t r ih => rw [Jk, ih]; rfl
def qJ (ρ : ByteArray → ByteArray) (f : Ft) : Ft := ⟨f.op, ρ f.name, f.byz, f.kW, f.aH.map ρ, f.ax.map ρ⟩
def jk (ρ : ByteArray → ByteArray) (d : Dc) : Dc := ⟨d.kind, d.line, ρ d.name, d.names.map ρ, d.faults.map (qJ ρ), jO ρ d.term, d.proto, jO ρ d.read, jO ρ d.write, ρ d.use⟩

theorem tmMap_id : ∀ (n : Nat) (t : Tm), au t ≤ n → jO id t = t := by
  intro n
  induction n with
  | zero =>
      intro t ht; have : 0 < au t := by (cases t; rw [au]; omega)
      omega
  | succ n ih =>
    intro t ht
    cases t with
    | mk op nm nd ws ks =>
      have hs : au (.mk op nm nd ws ks) = 1 + nm.size + ws.length + aR ks := rfl
      rw [jO, ny]
      congr 1
      rw [List.map_congr_left (g := id) fun k hk => ih k (by have := bX hk; omega)]
      exact List.map_id _
theorem dcMap_id (d : Dc) : jk id d = d := by
  obtain ⟨k, l, n, ns, fs, t, p, r, u, z⟩ := d
  unfold jk
  have hf : fs.map (qJ id) = fs := by
    rw [List.map_congr_left (g := id) fun f _ => by obtain ⟨a, b, c, d, e, g⟩ := f; simp [qJ]]
    exact List.map_id _
  simp only [List.map_id, hf, tmMap_id _ _ (Nat.le_refl _), id]

section
variable {ρ : ByteArray → ByteArray} {Y : ByteArray → Prop} {t t' : List (ByteArray × Int)}
theorem zN {y : ByteArray} (h : eZ t' (ρ y) = eZ t y) (ks : List Int) : isE t' (ρ y) ks = isE t y ks := by unfold isE; rw [h]
theorem Kn (f : Tm → Tm) (ns : Nat) (l : List Tm) (h : ∀ k ∈ l, j5 t' ns (f k) = j5 t ns k) : mK t' ns (l.map f) = mK t ns l := by
  induction l with
  | nil => rfl
  | cons x r ih => rw [List.map_cons, mK, mK, h x (by simp), ih fun k hk => h k (by simp [hk])]
theorem termE_map (hk : ∀ y, Y y → eZ t' (ρ y) = eZ t y) (h0 : ∀ y, y.size = 0 → Y y) (hsv : ∀ y, ρ y = (⟨#[115, 101, 114, 118, 101, 114, 115]⟩ : ByteArray) ↔ y = (⟨#[115, 101, 114, 118, 101, 114, 115]⟩ : ByteArray)) (ns : Nat) :
    ∀ (n : Nat) (x : Tm), au x ≤ n → (∀ y ∈ aK x, Y y) → j5 t' ns (jO ρ x) = j5 t ns x := by
  intro n
  induction n with
  | zero =>
      intro t ht; have : 0 < au t := by (cases t; rw [au]; omega)
      omega
  | succ n ih =>
    intro x hx hY
    cases x with
    | mk op nm nd ws ks =>
      have hs : au (.mk op nm nd ws ks) = 1 + nm.size + ws.length + aR ks := rfl
      have hn : Y nm := by
        by_cases h : nm.size = 0
        · exact h0 nm h
        · exact hY nm (by rw [aK, if_neg h]; simp)
      have ho : ownE t' ns op (ρ nm) nd ws ks.length = ownE t ns op nm nd ws ks.length := by
        unfold ownE
        rw [zN (hk nm hn), zN (hk nm hn)]
        simp only [hsv nm]
      have hks : mK t' ns (ks.map (jO ρ)) = mK t ns ks := Kn _ ns ks fun k hk2 => ih k (by have := bX hk2; omega) fun y hy => hY y (by
        rw [aK, gP, List.mem_append]
        exact Or.inr (List.mem_flatMap.2 ⟨k, hk2, hy⟩))
      rw [jO, ny, j5, j5, List.length_map, ho, hks]
theorem zV (hk : ∀ y, Y y → eZ t' (ρ y) = eZ t y) (hi : ∀ a b, ρ a = ρ b ↔ a = b) (k : Int) : ∀ (l seen : List ByteArray), (∀ y ∈ l, Y y) → kK t' k (seen.map ρ) (l.map ρ) = kK t k seen l := by
  intro l
  induction l with
  | nil => intro seen _; rfl
  | cons x r ih =>
    intro seen hY
    have hc : (seen.map ρ).contains (ρ x) = seen.contains x := by
      rw [Bool.eq_iff_iff, rG, rG, List.mem_map]
      constructor
      · rintro ⟨y, hy, e⟩; rw [hi] at e; exact e ▸ hy
      · intro h; exact ⟨x, h, rfl⟩
    have := ih (seen ++ [x]) fun y hy => hY y (by simp [hy])
    rw [List.map_append, List.map_singleton] at this
    rw [List.map_cons, kK, kK, zN (hk x (hY x (by simp))), hc, this]
theorem Lx (hk : ∀ y, Y y → eZ t' (ρ y) = eZ t y) (hi : ∀ a b, ρ a = ρ b ↔ a = b) (ns : Nat) (f : Ft) (hY : ∀ y ∈ f.aH ++ f.ax ++ [f.name], Y y) : nU t' ns (qJ ρ f) = nU t ns f := by
  have hn : Y f.name := hY _ (by simp)
  have he := zV (t := t) (t' := t') hk hi 2 (f.aH ++ f.ax) [] (fun y hy => hY y (by rw [List.mem_append]; exact Or.inl hy))
  rw [List.map_nil, List.map_append] at he
  unfold nU qJ
  simp only [zN (hk _ hn), he]
theorem Iq (hk : ∀ y, Y y → eZ t' (ρ y) = eZ t y) (hi : ∀ a b, ρ a = ρ b ↔ a = b) (ns : Nat) (l : List Ft) (hY : ∀ f ∈ l, ∀ y ∈ f.aH ++ f.ax ++ [f.name], Y y) : jR t' ns (l.map (qJ ρ)) = jR t ns l := by
  induction l with
  | nil => rfl
  | cons f r ih => rw [List.map_cons, jR, jR, Lx hk hi ns f (hY f (by simp)), ih fun g hg => hY g (by simp [hg])]
theorem siteE_map (hk : ∀ y, Y y → eZ t' (ρ y) = eZ t y) (hi : ∀ a b, ρ a = ρ b ↔ a = b) (ns : Nat) (nm : ByteArray) : ∀ (l pre : List ByteArray), (∀ y ∈ l, Y y) → qP t' ns (ρ nm) (pre.map ρ) (l.map ρ) = qP t ns nm pre l := by
  intro l
  induction l with
  | nil => intro pre _; rfl
  | cons x r ih =>
    intro pre hY
    have hc : (pre.map ρ).contains (ρ x) = pre.contains x := by
      rw [Bool.eq_iff_iff, rG, rG, List.mem_map]
      constructor
      · rintro ⟨y, hy, e⟩; rw [hi] at e; exact e ▸ hy
      · intro h; exact ⟨x, h, rfl⟩
    have := ih (pre ++ [x]) fun y hy => hY y (by simp [hy])
    rw [List.map_append, List.map_singleton] at this
    rw [List.map_cons, qP, qP, hk x (hY x (by simp)), hc, this, List.length_map]
    simp only [hi x nm]
end
/-- All names that a declaration names. -/
def oN (d : Dc) : List ByteArray := d.name :: d.names ++ gq d
theorem FV {ρ : ByteArray → ByteArray} {Y : ByteArray → Prop} {l l' : List Dc} (h : Maps ρ Y l l') (h0 : ∀ y, y.size = 0 → Y y) (hsv : ∀ y, ρ y = (⟨#[115, 101, 114, 118, 101, 114, 115]⟩ : ByteArray) ↔ y = (⟨#[115, 101, 114, 118, 101, 114, 115]⟩ : ByteArray)) (hi : ∀ a b, ρ a = ρ b ↔ a = b) (hz : ∀ y, (ρ y).size = 0 ↔ y.size = 0)
    (d : Dc) (hY : ∀ y ∈ oN d, Y y) (ho : d.kind = 1 → dG l' = dG l) (h4 : d.kind = 4 → (6 ≤ fu 4 l' ↔ 6 ≤ fu 4 l)) (h6 : d.kind = 6 → (6 ≤ fu 6 l' ↔ 6 ≤ fu 6 l)) :
    jF l' (jk ρ d) = jF l d := by
  have hu : ∀ y ∈ gq d, Y y := fun y hy => hY y (by unfold oN; simp [hy])
  have hnm : Y d.name := hY _ (by unfold oN; simp)
  have hns : ∀ y ∈ d.names, Y y := fun y hy => hY y (by unfold oN; simp [hy])
  have hus : Y d.use := hu _ (by unfold gq; simp)
  have hT : ∀ (x : Tm), (∀ y ∈ aK x, y ∈ gq d) → j5 (tab l') (aN l') (jO ρ x) = j5 (tab l) (aN l) x := fun x hx => by
    rw [h.servers]; exact termE_map h.kinds h0 hsv _ _ x (Nat.le_refl _) fun y hy => hu y (hx y hy)
  have ht := hT d.term fun y hy => by unfold gq; simp [hy]
  have hr := hT d.read fun y hy => by unfold gq; simp [hy]
  have hw := hT d.write fun y hy => by unfold gq; simp [hy]
  have hf : jR (tab l') (aN l') (d.faults.map (qJ ρ)) = jR (tab l) (aN l) d.faults := by
    rw [h.servers]
    exact Iq h.kinds hi _ _ fun f hf y hy => hu y (by unfold gq; simp only [List.mem_append]; exact Or.inl (Or.inr (List.mem_flatMap.2 ⟨f, hf, hy⟩)))
  have hs : qP (tab l') (aN l') (ρ d.name) [] (d.names.map ρ) = qP (tab l) (aN l) d.name [] d.names := by
    rw [h.servers]
    have := siteE_map (t := tab l) (t' := tab l') h.kinds hi (aN l) d.name d.names [] hns
    exact this
  have he5 : kK (tab l') 2 (dY 5 l') (d.names.map ρ) = kK (tab l) 2 (dY 5 l) d.names := by rw [h.seen]; exact zV h.kinds hi 2 _ _ hns
  have he7 : kK (tab l') 5 [] (d.names.map ρ) = kK (tab l) 5 [] d.names := zV (t := tab l) (t' := tab l') h.kinds hi 5 d.names [] hns
  have hkn := h.kinds _ hnm
  have hiu := zN (h.kinds _ hus) [3]
  have hbu := h.byz _ hus
  have hzu := hz d.use
  have hch := h.chain
  obtain ⟨kind, line, name, names, faults, term, proto, read, write, use⟩ := d
  simp only at *
  unfold jF jk
  simp only
  rw [hkn, hs, hf, ht, hr, hw, hiu, hbu, he5, he7, hch]
  by_cases k1 : kind = 1
  · rw [ho k1]; simp only [k1]; simp
  · by_cases k4 : kind = 4
    · simp only [h4 k4, k4]; simp
    · by_cases k6 : kind = 6
      · simp only [h6 k6, k6, hzu]; simp
      · simp only [k1, k4, k6, false_and, if_false]
end Go.Proofs.YtbmglebipepdmaaGreatDoor
namespace Go.Proofs.YtbmglebipepdmaaGreatDoor
theorem F6 (d : Dc) : ∀ p ∈ BP d, p.2 ≠ 0 := by
  intro p hp
  unfold BP at hp
  rcases List.mem_append.1 hp with h | h
  · split at h
    · cases h
    · rename_i hk
      rw [List.mem_singleton] at h
      rw [h]; exact hk
  · split at h
    · obtain ⟨x, -, rfl⟩ := List.mem_map.1 h
      exact (by decide : (2 : Int) ≠ 0)
    · cases h
theorem tq (l : List Dc) : ∀ p ∈ tab l, p.2 ≠ 0 := by
  intro p hp
  obtain ⟨d, -, hd⟩ := List.mem_flatMap.1 hp
  exact F6 d p hd
theorem wJ {t : List (ByteArray × Int)} (ht : ∀ p ∈ t, p.2 ≠ 0) (y : ByteArray) : eZ t y = 0 ↔ ∀ p ∈ t, p.1 ≠ y := by
  induction t with
  | nil => simp [eZ]
  | cons p r ih =>
    have hi := ih fun q hq => ht q (by simp [hq])
    rw [eZ]
    by_cases h : (p.1 == y) = true
    · rw [if_pos h]
      constructor
      · intro e; exact absurd e (ht p (by simp))
      · intro e; exact absurd ((gY _ _).1 h) (e p (by simp))
    · rw [if_neg h, hi]
      have hne : p.1 ≠ y := fun e => h ((gY _ _).2 e)
      constructor
      · intro e q hq
        rcases List.mem_cons.1 hq with rfl | hq
        · exact hne
        · exact e q hq
      · intro e q hq; exact e q (by simp [hq])
theorem findK_mem {l : List Dc} {y : ByteArray} (h : eZ (tab l) y ≠ 0) : (y, eZ (tab l) y) ∈ tab l := by
  generalize tab l = t at h
  induction t with
  | nil => exact absurd rfl h
  | cons p r ih =>
    rw [eZ] at h ⊢
    by_cases hp : (p.1 == y) = true
    · rw [if_pos hp, ← (gY _ _).1 hp]; exact List.mem_cons_self
    · rw [if_neg hp] at h ⊢; exact List.mem_cons_of_mem _ (ih h)
theorem F7 {d : Dc} (h : jl d.kind ≠ 0) : (d.name, jl d.kind) ∈ BP d := by
  unfold BP; rw [if_neg h]; simp
theorem BN {l : List Dc} {d : Dc} (h : jF l d = 0) (hk : jl d.kind ≠ 0) : eZ (tab l) d.name = 0 :=
  Decidable.not_not.1 fun e => (lF h).2 ⟨hk, e⟩
theorem Kr {t : List (ByteArray × Int)} {ns : Nat} {nm : ByteArray} : ∀ {l pre : List ByteArray}, qP t ns nm pre l = 0 → ∀ y ∈ l, eZ t y = 0 := by
  intro l
  induction l with
  | nil => intro pre _ y hy; cases hy
  | cons x r ih =>
    intro pre h y hy
    rw [qP] at h
    split at h
    · cases h
    · rename_i h1
      split at h
      · cases h
      · rcases List.mem_cons.1 hy with rfl | hy
        · exact Decidable.not_not.1 fun e => h1 (Or.inl e)
        · exact ih h y hy
theorem BM {l : List Dc} {d : Dc} (h : jF l d = 0) (hk : d.kind = 1) : dG l = false ∧ qP (tab l) (aN l) d.name [] d.names = 0 := by
  obtain ⟨h1, h2⟩ := lF h
  unfold jF at h
  rw [if_neg h1, if_neg h2, if_pos hk] at h
  refine ⟨?_, h⟩
  cases e : dG l
  · rfl
  · exact absurd ⟨hk, e⟩ h1
theorem FX {l : List Dc} {d : Dc} (h : jF l d = 0) (hk : d.kind = 4) : ¬ 6 ≤ fu 4 l := by
  obtain ⟨h1, h2⟩ := lF h
  intro e
  unfold jF at h
  rw [if_neg h1, if_neg h2, if_neg (show ¬ d.kind = 1 by omega), if_neg (show ¬ d.kind = 2 by omega), if_neg (show ¬ d.kind = 3 by omega), if_pos hk, if_pos e] at h
  cases h
theorem FY {l : List Dc} {d : Dc} (h : jF l d = 0) (hk : d.kind = 6) : ¬ 6 ≤ fu 6 l := by
  obtain ⟨h1, h2⟩ := lF h
  intro e
  unfold jF at h
  rw [if_neg h1, if_neg h2, if_neg (show ¬ d.kind = 1 by omega), if_neg (show ¬ d.kind = 2 by omega), if_neg (show ¬ d.kind = 3 by omega), if_neg (show ¬ d.kind = 4 by omega), if_neg (show ¬ d.kind = 5 by omega), if_pos hk, if_pos e] at h
  cases h
theorem IL {l : List Dc} {d : Dc} (h : jF l d = 0) (hk : d.kind = 7) : kK (tab l) 5 [] d.names = 0 := by
  obtain ⟨h1, h2⟩ := lF h
  unfold jF at h
  rw [if_neg h1, if_neg h2, if_neg (show ¬ d.kind = 1 by omega), if_neg (show ¬ d.kind = 2 by omega), if_neg (show ¬ d.kind = 3 by omega), if_neg (show ¬ d.kind = 4 by omega), if_neg (show ¬ d.kind = 5 by omega), if_neg (show ¬ d.kind = 6 by omega), if_pos hk] at h
  by_cases e : eB l = true
  · rw [if_pos e] at h; cases h
  · rwa [if_neg e] at h

section
variable {x : ByteArray} {m : List Dc}
theorem fG {d : Dc} {r : List Dc} (h : d.name = x) : without x (d :: r) = without x r := by unfold without; rw [List.filter_cons, if_neg (by rw [(gY _ _).2 h]; simp)]
theorem gK {d : Dc} {r : List Dc} (h : d.name ≠ x) : without x (d :: r) = d :: without x r := by
  unfold without; rw [List.filter_cons, if_pos]
  cases e : (d.name == x)
  · rfl
  · exact absurd ((gY _ _).1 e) h
theorem pO {d : Dc} : d ∈ without x m ↔ d ∈ m ∧ d.name ≠ x := by
  unfold without
  rw [List.mem_filter]
  constructor
  · rintro ⟨h1, h2⟩; exact ⟨h1, fun e => by rw [(gY _ _).2 e] at h2; cases h2⟩
  · rintro ⟨h1, h2⟩; refine ⟨h1, ?_⟩
    cases e : (d.name == x)
    · rfl
    · exact absurd ((gY _ _).1 e) h2
theorem Fy (a b : List (ByteArray × Int)) (y : ByteArray) (h : ∀ p ∈ a, p.1 ≠ y) : eZ (a ++ b) y = eZ b y := by
  induction a with
  | nil => rfl
  | cons p r ih =>
    rw [List.cons_append, eZ, if_neg (fun e => h p (by simp) ((gY _ _).1 e)), ih fun q hq => h q (by simp [hq])]
theorem Ll (a b c : List (ByteArray × Int)) (y : ByteArray) (h : eZ b y = eZ c y) : eZ (a ++ b) y = eZ (a ++ c) y := by
  induction a with
  | nil => exact h
  | cons p r ih => rw [List.cons_append, List.cons_append, eZ, eZ, ih]
theorem maps_del (h : ∀ d ∈ m, d.name = x → d.kind ≠ 1 ∧ d.kind ≠ 5 ∧ d.kind ≠ 7) (hu : ∀ d ∈ m, d.name ≠ x → ∀ f ∈ d.faults, f.name ≠ x) : Maps id (· ≠ x) m (without x m) := by
  refine ⟨fun y hy => ?_, ?_, ?_, ?_, fun y hy => ?_⟩
  · unfold tab
    induction m with
    | nil => rfl
    | cons d r ih =>
      have hi := ih (fun e he => h e (by simp [he])) (fun e he => hu e (by simp [he]))
      by_cases hd : d.name = x
      · rw [fG hd, hi, List.flatMap_cons]
        refine (Fy _ _ _ fun p hp e => ?_).symm
        unfold BP at hp
        rw [if_neg (h d (by simp) hd).1, List.append_nil] at hp
        split at hp
        · cases hp
        · rw [List.mem_singleton] at hp
          rw [hp] at e
          exact hy (by rw [← hd]; exact e.symm)
      · rw [gK hd, List.flatMap_cons, List.flatMap_cons]
        exact Ll _ _ _ _ hi
  · unfold aN
    induction m with
    | nil => rfl
    | cons d r ih =>
      have hi := ih (fun e he => h e (by simp [he])) (fun e he => hu e (by simp [he]))
      by_cases hd : d.name = x
      · rw [fG hd, hi, List.map_cons, List.sum_cons, if_neg (h d (by simp) hd).1, Nat.zero_add]
      · rw [gK hd, List.map_cons, List.map_cons, List.sum_cons, List.sum_cons, hi]
  · unfold eB
    induction m with
    | nil => rfl
    | cons d r ih =>
      have hi := ih (fun e he => h e (by simp [he])) (fun e he => hu e (by simp [he]))
      by_cases hd : d.name = x
      · rw [fG hd, hi, List.any_cons, decide_eq_false (h d (by simp) hd).2.2, Bool.false_or]
      · rw [gK hd, List.any_cons, List.any_cons, hi]
  · unfold dY
    rw [List.map_id]
    induction m with
    | nil => rfl
    | cons d r ih =>
      have hi := ih (fun e he => h e (by simp [he])) (fun e he => hu e (by simp [he]))
      by_cases hd : d.name = x
      · rw [fG hd, hi, List.flatMap_cons, if_neg (h d (by simp) hd).2.1, List.nil_append]
      · rw [gK hd, List.flatMap_cons, List.flatMap_cons, hi]
  · unfold kL ER
    congr 1
    have gen : ∀ (kn kn' : List (ByteArray × Bool)), (∀ y, y ≠ x → nT kn' y = nT kn y) → nT (mJ kn' (without x m)) y = nT (mJ kn m) y := by
      have app : ∀ (a : List (ByteArray × Bool)) (p : ByteArray × Bool) (y : ByteArray), nT (a ++ [p]) y = (nT a y).or (if p.1 == y then some p.2 else none) := by
        intro a p y
        induction a with
        | nil => simp [nT]
        | cons q r ih =>
          rw [List.cons_append, nT, nT, ih]
          by_cases hq : (q.1 == y) = true
          · rw [if_pos hq, if_pos hq]; rfl
          · rw [if_neg hq, if_neg hq]
      induction m with
      | nil => intro kn kn' hk; exact hk y hy
      | cons d r ih =>
        intro kn kn' hk
        have hi := ih (fun e he => h e (by simp [he])) (fun e he => hu e (by simp [he]))
        by_cases hd : d.name = x
        · rw [fG hd, mJ]
          refine hi _ _ fun z hz => ?_
          rw [hk z hz]
          split
          · rw [app, if_neg (fun e => hz (by rw [← (gY _ _).1 e]; exact hd)), Option.or_none]
          · rfl
        · rw [gK hd, mJ, mJ]
          refine hi _ _ fun z hz => ?_
          have hf : d.faults.any (zS kn') = d.faults.any (zS kn) := by
            have hff := hu d (by simp) hd
            generalize d.faults = fs at hff
            induction fs with
            | nil => rfl
            | cons f r ihf =>
              rw [List.any_cons, List.any_cons, ihf fun g hg => hff g (by simp [hg])]
              congr 1
              unfold zS ER
              rw [hk f.name (hff f (by simp))]
          split
          · rw [app, app, hk z hz, hf]
          · exact hk z hz
    exact gen [] [] fun _ _ => rfl
end
/-- A part of what remains. -/
theorem D9 (x : ByteArray) (l : List Dc) : ∀ i (h : i < (without x l).length), ∃ j, ∃ hj : j < l.length, (without x l)[i] = l[j] ∧ (without x l).take i = without x (l.take j) ∧ l[j].name ≠ x := by
  induction l with
  | nil => intro i h; exact absurd h (by simp [without])
  | cons d r ih =>
    intro i h
    by_cases hd : d.name = x
    · have e : without x (d :: r) = without x r := fG hd
      obtain ⟨j, hj, h1, h2, h3⟩ := ih i (by rw [e] at h; exact h)
      refine ⟨j + 1, by simpa using hj, ?_, ?_, by simpa using h3⟩
      · rw [List.getElem_cons_succ, ← h1]; congr 1
      · rw [List.take_succ_cons, e, fG (r := r.take j) hd]; exact h2
    · have e : without x (d :: r) = d :: without x r := gK hd
      cases i with
      | zero => exact ⟨0, by simp, by simp [e], by rw [List.take_zero, List.take_zero]; rfl, hd⟩
      | succ i =>
        obtain ⟨j, hj, h1, h2, h3⟩ := ih i (by rw [e] at h; simpa using h)
        refine ⟨j + 1, by simpa using hj, ?_, ?_, by simpa using h3⟩
        · simp only [e, List.getElem_cons_succ]; exact h1
        · rw [e, List.take_succ_cons, List.take_succ_cons, gK hd, h2]
theorem wU {x : ByteArray} {l : List Dc} (h : ∀ d ∈ l, d.name ≠ x) : without x l = l := by
  unfold without
  refine List.filter_eq_self.2 fun d hd => ?_
  cases e : (d.name == x)
  · rfl
  · exact absurd ((gY _ _).1 e) (h d hd)
theorem Am {x : ByteArray} {l : List Dc} {i : Nat} (hi : i < l.length) (hx : l[i].name = x) (h : ∀ j (hj : j < l.length), l[j].name = x → j = i) : (without x l).length + 1 = l.length := by
  have e : l = l.take i ++ l[i] :: l.drop (i + 1) := by rw [List.getElem_cons_drop, List.take_append_drop]
  have h1 : without x (l.take i) = l.take i := wU fun d hd hn => by
    obtain ⟨k, hk, e⟩ := List.mem_iff_getElem.1 hd
    rw [List.length_take] at hk
    rw [List.getElem_take] at e
    have := h k (by omega) (by rw [e]; exact hn)
    omega
  have h2 : without x (l.drop (i + 1)) = l.drop (i + 1) := wU fun d hd hn => by
    obtain ⟨k, hk, e⟩ := List.mem_iff_getElem.1 hd
    rw [List.length_drop] at hk
    rw [List.getElem_drop] at e
    have := h (i + 1 + k) (by omega) (by rw [e]; exact hn)
    omega
  have h3 : without x l = l.take i ++ l.drop (i + 1) := by
    have : without x (l.take i ++ l[i] :: l.drop (i + 1)) = without x (l.take i) ++ without x (l[i] :: l.drop (i + 1)) := by unfold without; rw [List.filter_append]
    rw [← e, h1, fG hx, h2] at this
    exact this
  rw [h3, List.length_append, List.length_take, List.length_drop]
  omega

theorem KJ {d : Dc} (h : Gs d) (h0 : ¬ d.name.size = 0) : jl d.kind ≠ 0 := by
  have hn := h.hname
  rw [decide_eq_false h0] at hn
  rcases rD h with hk | hk | hk | hk | hk | hk | hk <;> rw [hk] at hn ⊢ <;> first | decide | (exact absurd hn (by decide))
/-- What is left if an unused declaration is left out has no error. -/
theorem unused_ok {l : List Dc} (h : (fZ l).2 = 0) {x : ByteArray} (hx : x ∈ mQ l) : (without x l).length + 1 = l.length ∧ fZ (without x l) = (0, 0) := by
  obtain ⟨hf, hE, hns, hcf, -⟩ := BQ h
  have hok : ∀ d ∈ l, Gs d := fun d hd => xK (List.all_eq_true.1 (nS hf).1 d hd)
  -- the declaration
  unfold mQ at hx
  obtain ⟨d, hd, hx⟩ := List.mem_flatMap.1 hx
  split at hx
  case isFalse => cases hx
  rename_i hm
  obtain rfl : x = d.name := by simpa using hx
  obtain ⟨hm1, hm2⟩ := hm
  obtain ⟨i, hi, hid⟩ := List.mem_iff_getElem.1 hd
  have hkind : d.kind = 2 ∨ d.kind = 3 ∨ (d.kind = 4 ∧ eB l = true) := by
    unfold ji at hm1
    simp only [Bool.or_eq_true, Bool.and_eq_true, decide_eq_true_eq] at hm1
    rcases hm1 with (hk | hk) | hk
    · exact Or.inl hk
    · exact Or.inr (Or.inl hk)
    · exact Or.inr (Or.inr hk)
  have hdk : jl d.kind ≠ 0 := by rcases hkind with hk | hk | hk <;> first | (rw [hk]; decide) | (rw [hk.1]; decide)
  have hz : ¬ d.name.size = 0 := by
    intro e
    have := (hok d hd).hname
    rw [decide_eq_true e] at this
    rcases hkind with hk | hk | hk
    · rw [hk] at this; exact absurd this (by decide)
    · rw [hk] at this; exact absurd this (by decide)
    · rw [hk.1] at this; exact absurd this (by decide)
  have hun : ∀ e ∈ l, d.name ∉ gq e := fun e he hc => by
    have : ∀ e ∈ l, ¬ (d.name.size ≠ 0 ∧ (gq e).contains d.name = true) := by
      intro e he hh
      have h2 := List.flatMap_eq_nil_iff.1 hm2 e he
      rw [if_pos hh] at h2
      cases h2
    exact this e he ⟨hz, (rG _ _).2 hc⟩
  have hin : ∀ j, i < j → ∀ (hj : j < l.length), d ∈ l.take j := fun j hij hj => List.mem_iff_getElem.2 ⟨i, by rw [List.length_take]; omega, by rw [List.getElem_take]; exact hid⟩
  have hen : ∀ j, i < j → ∀ (hj : j < l.length), eZ (tab (l.take j)) d.name ≠ 0 := fun j hij hj e => by
    rw [wJ (tq _)] at e
    exact e _ (List.mem_flatMap.2 ⟨d, hin j hij hj, F7 hdk⟩) rfl
  have hei : eZ (tab (l.take i)) d.name = 0 := by
    have := hE i hi
    rw [hid] at this
    exact BN this hdk
  -- no other has the name
  have huni : ∀ j (hj : j < l.length), l[j].name = d.name → j = i := by
    intro j hj hn
    have hjk : jl l[j].kind ≠ 0 := KJ (hok _ (List.getElem_mem hj)) (by rw [hn]; exact hz)
    rcases Nat.lt_trichotomy j i with hlt | heq | hgt
    · exfalso
      rw [wJ (tq _)] at hei
      refine hei (l[j].name, jl l[j].kind) (List.mem_flatMap.2 ⟨l[j], ?_, F7 hjk⟩) hn
      exact List.mem_iff_getElem.2 ⟨j, by rw [List.length_take]; omega, by rw [List.getElem_take]⟩
    · exact heq
    · exfalso
      have := BN (hE j hj) hjk
      rw [hn] at this
      exact hen j hgt hj this
  have hsame : ∀ e ∈ l, e.name = d.name → e = d := fun e he hn => by
    obtain ⟨j, hj, hje⟩ := List.mem_iff_getElem.1 he
    have := huni j hj (by rw [hje]; exact hn)
    subst this
    rw [← hje, hid]
  have hnk : d.kind ≠ 1 ∧ d.kind ≠ 5 ∧ d.kind ≠ 7 := by omega
  have hmp : ∀ j, Maps id (· ≠ d.name) (l.take j) (without d.name (l.take j)) := fun j => maps_del
    (fun e he hn => by rw [hsame e (List.mem_of_mem_take he) hn]; exact hnk)
    (fun e he _ f hf hn => hun e (List.mem_of_mem_take he) (by
      unfold gq
      simp only [List.mem_append]
      exact Or.inl (Or.inr (List.mem_flatMap.2 ⟨f, hf, by rw [hn]; simp⟩))))
  have hlen := Am hi (by rw [hid]) huni
  refine ⟨hlen, ?_⟩
  -- the error of each
  have hE2 : ∀ k (hk : k < (without d.name l).length), jF ((without d.name l).take k) (without d.name l)[k] = 0 := by
    intro k hk
    obtain ⟨j, hj, e1, e2, e3⟩ := D9 d.name l k hk
    rw [e1, e2]
    have h0 := hE j hj
    have hoj := hok _ (List.getElem_mem hj)
    have hus := hun _ (List.getElem_mem hj)
    have hY : ∀ y ∈ oN l[j], y ≠ d.name := by
      intro y hy hyx
      subst hyx
      unfold oN at hy
      simp only [List.cons_append, List.mem_cons, List.mem_append] at hy
      rcases hy with hy | hy | hy
      · exact e3 hy.symm
      · by_cases h57 : l[j].kind = 5 ∨ l[j].kind = 7
        · exact hus (by unfold gq; rw [if_pos h57]; simp [hy])
        · by_cases h1 : l[j].kind = 1
          · rcases Nat.lt_trichotomy j i with hlt | heq | hgt
            · rw [wJ (tq _)] at hei
              refine hei (d.name, 2) (List.mem_flatMap.2 ⟨l[j], List.mem_iff_getElem.2 ⟨j, by rw [List.length_take]; omega, by rw [List.getElem_take]⟩, ?_⟩) rfl
              unfold BP
              rw [if_pos h1, List.mem_append]
              exact Or.inr (List.mem_map.2 ⟨d.name, hy, rfl⟩)
            · subst heq; exact e3 (by rw [hid])
            · exact hen j hgt hj (Kr (BM h0 h1).2 _ hy)
          · have hnn := hoj.BB
            have hpos : 0 < l[j].names.length := List.length_pos_of_mem hy
            rw [decide_eq_true hpos] at hnn
            rcases rD hoj with hk | hk | hk | hk | hk | hk | hk
            · exact h1 hk
            · rw [hk] at hnn; exact absurd hnn (by decide)
            · rw [hk] at hnn; exact absurd hnn (by decide)
            · rw [hk] at hnn; exact absurd hnn (by decide)
            · exact h57 (Or.inl hk)
            · rw [hk] at hnn; exact absurd hnn (by decide)
            · exact h57 (Or.inr hk)
      · exact hus hy
    have hsub : ∀ (p : Dc → Bool), (without d.name (l.take j)).countP p ≤ (l.take j).countP p := fun p => List.Sublist.countP_le List.filter_sublist
    have := FV (hmp j) (fun y hy hyx => hz (by rw [← hyx]; exact hy)) (fun _ => Iff.rfl) (fun _ _ => Iff.rfl) (fun _ => Iff.rfl) l[j] hY
      (fun hk => by
        have := (BM h0 hk).1
        rw [this]
        unfold dG at this ⊢
        rw [List.any_eq_false] at this ⊢
        intro e he
        exact this e (pO.1 he).1)
      (fun hk => by have a := FX h0 hk; have b := hsub fun d => decide (d.kind = 4); unfold fu at *; omega)
      (fun hk => by have a := FY h0 hk; have b := hsub fun d => decide (d.kind = 6); unfold fu at *; omega)
    rw [dcMap_id] at this
    rw [this]; exact h0
  have hall := hmp l.length
  rw [List.take_length] at hall
  have hfw : (cO (without d.name l)).2 = 0 := BF List.filter_sublist hf
  rw [BR hfw hE2, if_neg]
  rintro (e | e)
  · rw [hall.servers] at e; omega
  · -- a configuration remains
    have hc0 : ∀ e2 ∈ without d.name l, e2.kind ≠ 4 := by
      unfold fu at e
      intro e2 he2 hk
      exact (List.countP_eq_zero.1 e) e2 he2 (decide_eq_true hk)
    rcases hkind with hk | hk | ⟨hk, hch⟩
    · unfold fu at hcf
      obtain ⟨e2, he2, hk2⟩ := List.countP_pos_iff.1 hcf
      exact hc0 e2 (pO.2 ⟨he2, fun hn => by have := hsame e2 he2 hn; subst this; simp [hk] at hk2⟩) (of_decide_eq_true hk2)
    · unfold fu at hcf
      obtain ⟨e2, he2, hk2⟩ := List.countP_pos_iff.1 hcf
      exact hc0 e2 (pO.2 ⟨he2, fun hn => by have := hsame e2 he2 hn; subst this; simp [hk] at hk2⟩) (of_decide_eq_true hk2)
    · unfold eB at hch
      obtain ⟨c, hcm, hck⟩ := List.any_eq_true.1 hch
      have hck := of_decide_eq_true hck
      obtain ⟨j, hj, hjc⟩ := List.mem_iff_getElem.1 hcm
      have hcE := hE j hj
      rw [hjc] at hcE
      have hce := IL hcE hck
      have hcn := (hok c hcm).BB
      rw [hck] at hcn
      have hpos : 0 < c.names.length := of_decide_eq_true hcn.symm
      have hcu := hun c hcm
      cases hcns : c.names with
      | nil => rw [hcns] at hpos; exact absurd hpos (by decide)
      | cons y r =>
        rw [hcns, kK] at hce
        have hy : y ≠ d.name := fun e => hcu (by unfold gq; rw [if_pos (Or.inr hck), hcns]; simp [e])
        by_cases h5 : isE (tab (l.take j)) y [5] ≠ 0
        · rw [if_pos h5] at hce; exact h5 hce
        · have h5 := Decidable.not_not.1 h5
          unfold isE at h5
          by_cases hf0 : eZ (tab (l.take j)) y = 0
          · rw [if_pos hf0] at h5; cases h5
          · rw [if_neg hf0] at h5
            have hmem := findK_mem hf0
            have hf5 : eZ (tab (l.take j)) y = 5 := by
              by_cases hc : ([5] : List Int).contains (eZ (tab (l.take j)) y) = true
              · simpa using hc
              · rw [if_neg hc] at h5; cases h5
            rw [hf5] at hmem
            obtain ⟨e2, he2, hp⟩ := List.mem_flatMap.1 hmem
            have he2 := List.mem_of_mem_take he2
            have : e2.name = y ∧ e2.kind = 4 := by
              unfold BP at hp
              rcases List.mem_append.1 hp with hp | hp
              · split at hp
                · cases hp
                · rw [List.mem_singleton] at hp
                  refine ⟨(congrArg Prod.fst hp).symm, ?_⟩
                  have h5 := (congrArg Prod.snd hp).symm
                  simp only at h5
                  unfold jl at h5
                  split at h5; · exact absurd h5 (by decide)
                  split at h5; · exact absurd h5 (by decide)
                  split at h5; · exact absurd h5 (by decide)
                  split at h5; · assumption
                  split at h5; · exact absurd h5 (by decide)
                  exact absurd h5 (by decide)
              · split at hp
                · obtain ⟨z, -, hz2⟩ := List.mem_map.1 hp
                  have := congrArg Prod.snd hz2
                  exact absurd this (by decide : (2 : Int) ≠ 5)
                · cases hp
            exact hc0 e2 (pO.2 ⟨he2, by rw [this.1]; exact hy⟩) this.2
end Go.Proofs.YtbmglebipepdmaaGreatDoor
namespace Go.Proofs.YtbmglebipepdmaaGreatDoor
end Go.Proofs.YtbmglebipepdmaaGreatDoor
namespace Go.Proofs.YtbmglebipepdmaaGreatDoor
theorem few_take (l : List Dc) (k : Nat) (h : k < l.length) : ((l.take (k + 1)).map dF).sum = ((l.take k).map dF).sum + dF l[k] := by
  rw [List.take_succ_eq_append_getElem h, List.map_append, List.sum_append]; simp
theorem Io (l : List Dc) (k : Nat) : ((l.take k).map dF).sum ≤ (l.map dF).sum := by
  have h := List.take_append_drop k l
  have : (l.map dF).sum = ((l.take k).map dF).sum + ((l.drop k).map dF).sum := by
    rw [← List.sum_append, ← List.map_append, h]
  omega
theorem fts_len (l : List Ft) : l.length ≤ (l.map jB).sum := by
  induction l with
  | nil => simp
  | cons f r ih =>
    have c := vO f
    rw [List.map_cons, List.sum_cons, List.length_cons]; omega
theorem few_dc (l : List Dc) : (l.map dF).sum ≤ 10 * (l.map d9).sum := by
  induction l with
  | nil => simp
  | cons d r ih =>
    have n1 := jV d.names
    have n2 := fts_len d.faults
    have e : dF d ≤ 10 * d9 d := by unfold dF d9; omega
    rw [List.map_cons, List.map_cons, List.sum_cons, List.sum_cons]; omega
end Go.Proofs.YtbmglebipepdmaaGreatDoor
namespace Go.Proofs.YtbmglebipepdmaaGreatDoor
open Go.RowKit
theorem Cm (l : List Tm) (k : Nat) (h : k < l.length) : fM (l.take (k + 1)) = max (fM (l.take k)) (dQ l[k]) := by
  have : ∀ (a : List Tm) (t : Tm), fM (a ++ [t]) = max (fM a) (dQ t) := by
    intro a t
    induction a with
    | nil => simp [fM]
    | cons x r ih => simp only [List.cons_append, fM, ih]; omega
  rw [List.take_succ_eq_append_getElem h, this]
theorem Ee (l : List Tm) (k : Nat) (h : k < l.length) : aR (l.take (k + 1)) = aR (l.take k) + au l[k] := by
  have : ∀ (a : List Tm) (t : Tm), aR (a ++ [t]) = aR a + au t := by
    intro a t
    induction a with
    | nil => simp [aR]
    | cons x r ih => simp only [List.cons_append, aR, ih]; omega
  rw [List.take_succ_eq_append_getElem h, this]
theorem Ed (l : List Tm) (k : Nat) : aR (l.take k) ≤ aR l := by
  have : ∀ (a b : List Tm), aR (a ++ b) = aR a + aR b := by
    intro a b
    induction a with
    | nil => simp [aR]
    | cons x r ih => simp only [List.cons_append, aR, ih]; omega
  have h := this (l.take k) (l.drop k)
  rw [List.take_append_drop] at h; omega
mutual
theorem AX : ∀ t : Tm, dQ t ≤ au t
  | .mk op name need ws kids => by
    have h := pR kids
    rw [dQ, au]; omega
theorem pR : ∀ l : List Tm, fM l ≤ aR l
  | [] => by simp [fM]
  | t :: r => by
    have h1 := AX t
    have h2 := pR r
    rw [fM, aR]; omega
end
def SzOk (t : Tm) : Prop := ∀ (v : Value) (w : World) (S : Nat → Prop), gm w S t v → (∀ g, S g → g < w.heap.size) → au t ≤ 1000000000 → Calls Tryz.prog 29 #[v] w fun e w' => e = .returned (.tuple #[.int .i64 (au t), .int .i64 (dQ t)]) ∧ Below w.heap.size w w'

set_option maxRecDepth 100000 in
set_option maxHeartbeats 4000000 in
theorem size_step (t : Tm) (ih : ∀ k ∈ t.kids, SzOk k) : SzOk t := by
  intro v w S hv hS hsz
  have HSS0 := Lib.hid (fH t)
  cases hv with
  | mk op nm need ws kids wA kA cw kc vs hw hwc hk hkc hl h =>
  have hss : au (.mk op nm need ws kids) = 1 + nm.size + ws.length + aR kids := HSS0.out
  have hdd : dQ (.mk op nm need ws kids) = fM kids + 1 := by rw [dQ]
  have hkl := kz kids
  have hbig : 1 + nm.size + ws.length + aR kids ≤ 1000000000 := by omega
  have IH := Lib.hid (show ∀ k ∈ kids, SzOk k from ih)
  have HL := Lib.hid (show bG (gm w S) w S 5 kA kids from ⟨vs, hl, hk, h⟩)
  have hkb : kids.length ≤ 1000000000 := by omega
  have HSS := Lib.hid hss
  have HDD := Lib.hid hdd
  clear ih hw hk hl h hss hdd hsz
  obtain ⟨w0, hw0⟩ : ∃ w0 : World, w0 = w.alloc (.cells #[.int .i64 op, .string nm, .int .i64 need, .slice wA ws.length cw, .slice kA kids.length kc] 39) := ⟨_, rfl⟩
  have hb0 : Below w.heap.size w w0 := by rw [hw0]; exact (Below.refl _ _).alloc (Nat.le_refl _) _
  have hz0 : w0.heap.size = w.heap.size + 1 := by rw [hw0]; simp
  have hr0 : w0.heap[w.heap.size]? = some (.cells #[.int .i64 op, .string nm, .int .i64 need, .slice wA ws.length cw, .slice kA kids.length kc] 39 (0, 0)) := by rw [hw0]; exact heap_alloc_new w _
  have uy : w.heap.size + 1 ≤ w0.heap.size := by omega
  have HR0 := Lib.hid hr0
  have hnI : (nm.size : Int) ≤ 1000000000 := by omega
  have hwI : (ws.length : Int) ≤ 1000000000 := by omega
  have HW0 := Lib.hid hw0
  clear hz0 hr0 hw0
  go_enter Tryz.func29, Tryz.ntmps29
  go_wp2
  rw [← HW0.out]
  go_loopw [4, 5, 6] (fun x y z wr => ∃ k : Nat, k ≤ kids.length ∧ z = .int .i64 k ∧ x = .int .i64 ((1 + nm.size + ws.length + aR (kids.take k) : Nat) : Int) ∧ y = .int .i64 (fM (kids.take k) : Nat) ∧ Below (w.heap.size + 1) w0 wr) (fun _ _ z _ => kids.length - (intOf z).toNat)
  case atStart => exact ⟨0, Nat.zero_le _, rfl, by simp [aR], by simp [fM], Below.refl _ _⟩
  case round =>
    obtain ⟨k, hk, rfl, rfl, rfl, hb⟩ := hrel
    have hsr := hb.size
    have hbw : Below w.heap.size w wr := hb0.trans (hb.mono (by omega))
    have hr1 := (hb.block _ (by omega)).trans HR0.out
    obtain ⟨c0, c1, c2, c3, c4, -⟩ := iH hr1
    clear hr1
    by_cases hlt : k < kids.length
    · have hlr := HL.out.keep (P' := gm wr S) (aF hbw hS) (fun _ _ h => h.keep (aF hbw hS))
      obtain ⟨g, o, op1, nm1, nd1, wA1, wn1, wc1, kA1, kn1, kc1, rfl, hSg, htm, k0, k1, k2, k3, k4, -⟩ := gV hlr hlt
      have hgs : g < wr.heap.size := World.block_lt_of_cell? wr _ k0
      have hkI : (k : Int) < (kids.length : Int) := by omega
      have hk0 : (0 : Int) ≤ (k : Int) := by omega
      have hmem : kids[k] ∈ kids := List.getElem_mem hlt
      have hts := bX hmem
      have hsn := Ee kids k hlt
      have hdn := Cm kids k hlt
      have htk := Ed kids (k + 1)
      have hdl := AX kids[k]
      have hdk := pR (kids.take k)
      have HC := Lib.hid (IH.out _ hmem _ wr S htm (fun g hg => by have := hS g hg; have := hbw.size; omega) (by omega))
      obtain ⟨a, ha⟩ : ∃ a, a = au kids[k] := ⟨_, rfl⟩
      obtain ⟨d, hd⟩ : ∃ d, d = dQ kids[k] := ⟨_, rfl⟩
      rw [← ha, ← hd] at HC
      rw [← ha] at hsn
      rw [← hd] at hdn
      obtain ⟨p, hp⟩ : ∃ p, p = 1 + nm.size + ws.length + aR (kids.take k) := ⟨_, rfl⟩
      obtain ⟨q, hq⟩ : ∃ q, q = fM (kids.take k) := ⟨_, rfl⟩
      have hpa : p + a ≤ 1000000000 := by omega
      have hqb : q ≤ 1000000000 := by omega
      have hdb : d ≤ 1000000000 := by omega
      have HSN := Lib.hid (show 1 + nm.size + ws.length + aR (kids.take (k + 1)) = p + a by omega)
      have HDN := Lib.hid (show fM (kids.take (k + 1)) = max q d by rw [hdn, hq])
      rw [← hp, ← hq]
      clear htm hlr hsn hdn htk hdl hdk ha hd hp hq hts
      by_cases hqd : q ≤ d
      · have m1 : (q : Int) ≤ (d : Int) := by omega
        have m2 : ¬ (d : Int) < (q : Int) := by omega
        have HM := Lib.hid (show max q d = d by omega)
        go_wp2_with fail
        refine HC.out.mono ?_
        rintro e W2 ⟨rfl, hb2⟩
        go_wp2
        go_roundw
        case rel => exact ⟨k + 1, by omega, by go_num, by rw [HSN.out]; go_num, by rw [HDN.out, HM.out]; congr 1; omega, hb.trans (hb2.mono (by omega))⟩
        case measure => simp [intOf]; omega
      · have m1 : ¬ (q : Int) ≤ (d : Int) := by omega
        have m2 : (d : Int) < (q : Int) := by omega
        have HM := Lib.hid (show max q d = q by omega)
        go_wp2_with fail
        refine HC.out.mono ?_
        rintro e W2 ⟨rfl, hb2⟩
        go_wp2
        go_roundw
        case rel => exact ⟨k + 1, by omega, by go_num, by rw [HSN.out]; go_num, by rw [HDN.out, HM.out]; congr 1; omega, hb.trans (hb2.mono (by omega))⟩
        case measure => simp [intOf]; omega
    · obtain rfl : k = kids.length := by omega
      have hkI : ¬ (kids.length : Int) < (kids.length : Int) := by omega
      rw [List.take_length]
      have hdl := pR kids
      obtain ⟨q, hq⟩ : ∃ q, q = fM kids := ⟨_, rfl⟩
      obtain ⟨p, hp⟩ : ∃ p, p = 1 + nm.size + ws.length + aR kids := ⟨_, rfl⟩
      have HSZ := Lib.hid (HSS.out.trans hp.symm)
      have HDZ := Lib.hid (show dQ (.mk op nm need ws kids) = q + 1 by rw [HDD.out, hq])
      have hqb : q ≤ 1000000000 := by omega
      rw [← hp, ← hq]
      clear hq hp hdl
      go_wp2
      go_ret2
      refine ⟨?_, hbw⟩
      rw [HSZ.out, HDZ.out]; rfl
theorem Cv (t : Tm) : SzOk t := by
  have : ∀ (n : Nat) (t : Tm), au t ≤ n → SzOk t := by
    intro n
    induction n with
    | zero =>
        intro t ht; have : 0 < au t := by (cases t; rw [au]; omega)
        omega
    | succ n ih => intro t ht; exact size_step t (fun k hk => ih k (by have := iC hk; omega))
  exact this _ t (Nat.le_refl _)
end Go.Proofs.YtbmglebipepdmaaGreatDoor
namespace Go.Proofs.YtbmglebipepdmaaGreatDoor
open Go.RowKit
set_option maxRecDepth 100000 in
set_option maxHeartbeats 4000000 in
theorem few_ref (l : List Dc) (A : Option Addr) (c : Nat) (w : World) (S : Nat → Prop) (hl : bG (jE w S) w S 22 A l) (hS : ∀ g, S g → g < w.heap.size) (hsz : (l.map d9).sum ≤ 1100000) :
    Calls Tryz.prog 11 #[.slice A l.length c] w fun e w' => e = .returned (.bool (decide ((l.map dF).sum ≤ 10000))) ∧ Below w.heap.size w w' := by
  have HL := Lib.hid hl
  have hll := uh l
  have hlb : l.length ≤ 1100000 := by omega
  have hfd := few_dc l
  have hfb : (l.map dF).sum ≤ 11000000 := by omega
  have HFB := Lib.hid (show ∀ k, ((l.take k).map dF).sum ≤ 11000000 from fun k => by have := Io l k; omega)
  clear hl hsz hll hfd
  go_enter Tryz.func11, Tryz.ntmps11
  go_wp2
  go_loopw [3, 4] (fun n x wr => ∃ k : Nat, k ≤ l.length ∧ x = .int .i64 k ∧ n = .int .i64 (((l.take k).map dF).sum : Nat) ∧ Below w.heap.size w wr) (fun _ x _ => l.length - (intOf x).toNat)
  case atStart => exact ⟨0, Nat.zero_le _, rfl, rfl, Below.refl _ _⟩
  case round =>
    obtain ⟨k, hk, rfl, rfl, hb⟩ := hrel
    have hsr := hb.size
    by_cases hlt : k < l.length
    · obtain ⟨g, o, v, rfl, hSg, hp, hc⟩ := iM (fun _ _ h => qB h) (HL.out.keep (P' := jE wr S) (aF hb hS) (fun _ _ h => h.keep (aF hb hS))) hlt
      have hgs : g < wr.heap.size := by have := hS g hSg; omega
      have hkI : (k : Int) < (l.length : Int) := by omega
      have hk0 : (0 : Int) ≤ (k : Int) := by omega
      have hft := few_take l k hlt
      have hfk := HFB.out (k + 1)
      rw [hft] at hfk
      generalize l[k] = d at hp hft hfk
      obtain ⟨kind, line, name, names, faults, term, proto, read, write, use⟩ := d
      obtain ⟨nA, nc, fA, fc, vt, vr, vw, rfl, h1, h2, h3, h4, h5, h6, h7⟩ := hp
      obtain ⟨o1, m1, d1, wA1, wn1, wc1, kA1, kn1, kc1, rfl⟩ := h5.form
      obtain ⟨o2, m2, d2, wA2, wn2, wc2, kA2, kn2, kc2, rfl⟩ := h6.form
      obtain ⟨o3, m3, d3, wA3, wn3, wc3, kA3, kn3, kc3, rfl⟩ := h7.form
      simp only at h5 h6 h7
      have hfs : dF ⟨kind, line, name, names, faults, term, proto, read, write, use⟩ = au term + au read + au write + name.size + names.length + 10 * faults.length + proto.size + use.size := rfl
      rw [hfs] at hft hfk
      have hc2 : ∀ (j : Nat) (u : Value), ([.int .i64 kind, .int .i64 line, .string name, .slice nA names.length nc, .slice fA faults.length fc, .int .i64 o1, .string m1, .int .i64 d1, .slice wA1 wn1 wc1, .slice kA1 kn1 kc1, .string proto, .int .i64 o2, .string m2, .int .i64 d2, .slice wA2 wn2 wc2, .slice kA2 kn2 kc2, .int .i64 o3, .string m3, .int .i64 d3, .slice wA3 wn3 wc3, .slice kA3 kn3 kc3, .string use] : List Value)[j]? = some u → wr.cell? ⟨g, o + k * 22 + j, none⟩ = some u := fun j u hu => hc j u (by simpa [cellsOf, Value.cells] using hu)
      have hSW : ∀ (W : World), Below wr.heap.size wr W → ∀ g, S g → g < W.heap.size := fun W hW g hg => by have := hS g hg; have := hW.size; omega
      have e1 : au term ≤ 11000000 := by omega
      have e2 : au read ≤ 11000000 := by omega
      have e3 : au write ≤ 11000000 := by omega
      have hs1 := fun (W : World) (hW : Below wr.heap.size wr W) => Cv term _ W S (h5.keep (aW hW)) (hSW W hW) (by omega)
      have hs2 := fun (W : World) (hW : Below wr.heap.size wr W) => Cv read _ W S (h6.keep (aW hW)) (hSW W hW) (by omega)
      have hs3 := fun (W : World) (hW : Below wr.heap.size wr W) => Cv write _ W S (h7.keep (aW hW)) (hSW W hW) (by omega)
      obtain ⟨z1, y1⟩ : ∃ z, z = au term := ⟨_, rfl⟩
      obtain ⟨z2, y2⟩ : ∃ z, z = au read := ⟨_, rfl⟩
      obtain ⟨z3, y3⟩ : ∃ z, z = au write := ⟨_, rfl⟩
      simp only [← y1] at hs1
      simp only [← y2] at hs2
      simp only [← y3] at hs3
      rw [← y1, ← y2, ← y3] at hft hfk
      have HS1 := Lib.hid hs1
      have HS2 := Lib.hid hs2
      have HS3 := Lib.hid hs3
      obtain ⟨p, hp⟩ : ∃ p, p = ((l.take k).map dF).sum := ⟨_, rfl⟩
      rw [← hp] at hft hfk
      rw [← hp]
      have HSN := Lib.hid hft
      have p1 : p ≤ 11000000 := by omega
      have p2 : z1 ≤ 11000000 := by omega
      have p3 : z2 ≤ 11000000 := by omega
      have p4 : z3 ≤ 11000000 := by omega
      have p5 : name.size ≤ 11000000 := by omega
      have p6 : names.length ≤ 11000000 := by omega
      have p7 : faults.length ≤ 11000000 := by omega
      have p8 : proto.size ≤ 11000000 := by omega
      have p9 : use.size ≤ 11000000 := by omega
      clear hft hfk hfs hs1 hs2 hs3 h1 h2 h3 h4 h5 h6 h7 hc y1 y2 y3 hp e1 e2 e3
      have HC := Lib.hid hc2
      have a5 : wr.cell? ⟨g, o + k * 22 + 5, none⟩ = some (.int .i64 o1) := HC.out 5 _ rfl
      have a6 : wr.cell? ⟨g, o + k * 22 + 6, none⟩ = some (.string m1) := HC.out 6 _ rfl
      have a7 : wr.cell? ⟨g, o + k * 22 + 7, none⟩ = some (.int .i64 d1) := HC.out 7 _ rfl
      have a8 : wr.cell? ⟨g, o + k * 22 + 8, none⟩ = some (.slice wA1 wn1 wc1) := HC.out 8 _ rfl
      have a9 : wr.cell? ⟨g, o + k * 22 + 9, none⟩ = some (.slice kA1 kn1 kc1) := HC.out 9 _ rfl
      go_wp2_with fail
      refine (HS1.out wr (Below.refl _ _)).mono ?_
      rintro e W1 ⟨rfl, hb1⟩
      clear a5 a6 a7 a8 a9
      have b11 : W1.cell? ⟨g, o + k * 22 + 11, none⟩ = some (.int .i64 o2) := (hb1.cell (p := ⟨g, o + k * 22 + 11, none⟩) hgs).trans (HC.out 11 _ rfl)
      have b12 : W1.cell? ⟨g, o + k * 22 + 12, none⟩ = some (.string m2) := (hb1.cell (p := ⟨g, o + k * 22 + 12, none⟩) hgs).trans (HC.out 12 _ rfl)
      have b13 : W1.cell? ⟨g, o + k * 22 + 13, none⟩ = some (.int .i64 d2) := (hb1.cell (p := ⟨g, o + k * 22 + 13, none⟩) hgs).trans (HC.out 13 _ rfl)
      have b14 : W1.cell? ⟨g, o + k * 22 + 14, none⟩ = some (.slice wA2 wn2 wc2) := (hb1.cell (p := ⟨g, o + k * 22 + 14, none⟩) hgs).trans (HC.out 14 _ rfl)
      have b15 : W1.cell? ⟨g, o + k * 22 + 15, none⟩ = some (.slice kA2 kn2 kc2) := (hb1.cell (p := ⟨g, o + k * 22 + 15, none⟩) hgs).trans (HC.out 15 _ rfl)
      go_wp2_with fail
      refine (HS2.out W1 hb1).mono ?_
      rintro e W2 ⟨rfl, hb2⟩
      have hx2 : Below wr.heap.size wr W2 := hb1.trans (hb2.mono hb1.size)
      clear b11 b12 b13 b14 b15
      have e16 : W2.cell? ⟨g, o + k * 22 + 16, none⟩ = some (.int .i64 o3) := (hx2.cell (p := ⟨g, o + k * 22 + 16, none⟩) hgs).trans (HC.out 16 _ rfl)
      have e17 : W2.cell? ⟨g, o + k * 22 + 17, none⟩ = some (.string m3) := (hx2.cell (p := ⟨g, o + k * 22 + 17, none⟩) hgs).trans (HC.out 17 _ rfl)
      have e18 : W2.cell? ⟨g, o + k * 22 + 18, none⟩ = some (.int .i64 d3) := (hx2.cell (p := ⟨g, o + k * 22 + 18, none⟩) hgs).trans (HC.out 18 _ rfl)
      have e19 : W2.cell? ⟨g, o + k * 22 + 19, none⟩ = some (.slice wA3 wn3 wc3) := (hx2.cell (p := ⟨g, o + k * 22 + 19, none⟩) hgs).trans (HC.out 19 _ rfl)
      have e20 : W2.cell? ⟨g, o + k * 22 + 20, none⟩ = some (.slice kA3 kn3 kc3) := (hx2.cell (p := ⟨g, o + k * 22 + 20, none⟩) hgs).trans (HC.out 20 _ rfl)
      go_wp2_with fail
      refine (HS3.out W2 hx2).mono ?_
      rintro e W3 ⟨rfl, hb3⟩
      have hx3 : Below wr.heap.size wr W3 := hx2.trans (hb3.mono hx2.size)
      have hgs3 : g < W3.heap.size := Nat.lt_of_lt_of_le hgs hx3.size
      clear e16 e17 e18 e19 e20
      have f2 : W3.cell? ⟨g, o + k * 22 + 2, none⟩ = some (.string name) := (hx3.cell (p := ⟨g, o + k * 22 + 2, none⟩) hgs).trans (HC.out 2 _ rfl)
      have f3 : W3.cell? ⟨g, o + k * 22 + 3, none⟩ = some (.slice nA names.length nc) := (hx3.cell (p := ⟨g, o + k * 22 + 3, none⟩) hgs).trans (HC.out 3 _ rfl)
      have f4 : W3.cell? ⟨g, o + k * 22 + 4, none⟩ = some (.slice fA faults.length fc) := (hx3.cell (p := ⟨g, o + k * 22 + 4, none⟩) hgs).trans (HC.out 4 _ rfl)
      have f10 : W3.cell? ⟨g, o + k * 22 + 10, none⟩ = some (.string proto) := (hx3.cell (p := ⟨g, o + k * 22 + 10, none⟩) hgs).trans (HC.out 10 _ rfl)
      have f21 : W3.cell? ⟨g, o + k * 22 + 21, none⟩ = some (.string use) := (hx3.cell (p := ⟨g, o + k * 22 + 21, none⟩) hgs).trans (HC.out 21 _ rfl)
      go_upto_region 8 with fail
      go_quiet (fail)
      go_wp2
      go_roundw
      case rel =>
        refine ⟨k + 1, by omega, by go_num, ?_, below_drewN (hb.trans (hx3.mono hsr)) _⟩
        rw [HSN.out]
        go_num
      case measure => simp [intOf]; omega
    · obtain rfl : k = l.length := by omega
      have hkI : ¬ (l.length : Int) < (l.length : Int) := by omega
      rw [List.take_length]
      obtain ⟨n, hn⟩ : ∃ n, n = (l.map dF).sum := ⟨_, rfl⟩
      rw [← hn]
      have HN := Lib.hid hn
      rw [← hn] at hfb
      clear hn
      go_wp2
      go_ret
      refine ⟨?_, hb⟩
      show Ending.returned (.bool (decide ((n : Int) ≤ 10000))) = _
      rw [show decide ((n : Int) ≤ 10000) = decide (n ≤ 10000) by rw [Bool.eq_iff_iff, decide_eq_true_iff, decide_eq_true_iff]; omega, HN.out]
end Go.Proofs.YtbmglebipepdmaaGreatDoor
namespace Go.Proofs.YtbmglebipepdmaaGreatDoor
open Go.RowKit
end Go.Proofs.YtbmglebipepdmaaGreatDoor
namespace Go.Proofs.YtbmglebipepdmaaGreatDoor
open Go.RowKit
end Go.Proofs.YtbmglebipepdmaaGreatDoor
namespace Go.Proofs.YtbmglebipepdmaaGreatDoor
open Go.RowKit
section
variable {t : List (ByteArray × Int)} {A : Option Addr} {w : World} {S : Nat → Prop}
theorem ba_tl (a b : ByteArray) : (a == b) = (a.toList == b.toList) := by
  rw [Bool.eq_iff_iff, gY, beq_iff_eq, ByteArray.toList_eq, ByteArray.toList_eq]
  exact ⟨fun h => by rw [h], fun h => ByteArray.ext (Array.toList_inj.1 h)⟩
end
end Go.Proofs.YtbmglebipepdmaaGreatDoor
namespace Go.Proofs.YtbmglebipepdmaaGreatDoor
open Go.RowKit
end Go.Proofs.YtbmglebipepdmaaGreatDoor
namespace Go.Proofs.YtbmglebipepdmaaGreatDoor
open Go.RowKit
def Mj (l : List Dc) (w : World) (e : Ending) (w' : World) : Prop := ∃ v, e = .returned v ∧ w'.ownsRow w.heap.size 9 1 v (mQ l).length (aO (mQ l)) ∧ Below w.heap.size w w'
theorem L8 (w : World) (S : Nat → Prop) (l : List Dc) : Tests (fun W x v => jE W S x v) w 50 l (fun d => decide (d.kind = 7)) := by
  intro d _ v W hd _
  show Calls Tryz.prog 50 #[v] W fun e W' => e = .returned (.bool (decide (d.kind = 7))) ∧ Below W.heap.size W W'
  obtain ⟨cs, nA, nc, hcl, hone, rfl, c0, -⟩ := rC hd
  have e0 : (W.alloc (.cells cs.toArray 41)).cell? ⟨W.heap.size, 0, none⟩ = some (.int .i64 d.kind) := rE (heap_alloc_new W _) c0
  have hfin := (Below.refl W.heap.size W).alloc (Nat.le_refl _) (.cells cs.toArray 41)
  obtain ⟨q, hq⟩ : ∃ q, q = decide (d.kind = 7) := ⟨_, rfl⟩
  have hqb : (d.kind == (7 : Int)) = q := by rw [hq]; rfl
  rw [← hq]
  clear hd c0 hcl hone hq
  go_enter Tryz.func50, Tryz.ntmps50
  go_wp2
  go_ret
  exact ⟨rfl, hfin⟩
/-- Unused of a part, with the whole's chain and uses. -/
def mP (m l : List Dc) : List ByteArray := l.flatMap fun d => if ji (eB m) d = true ∧ tyUses m d.name = [] then [d.name] else []
theorem Ck (m l : List Dc) (d : Dc) : mP m (l ++ [d]) = mP m l ++ if ji (eB m) d = true ∧ tyUses m d.name = [] then [d.name] else [] := by unfold mP; rw [List.flatMap_append]; simp
theorem Ec (m l : List Dc) : (mP m l).length ≤ l.length := by
  unfold mP
  induction l with
  | nil => simp
  | cons d r ih =>
    have h1 : (if ji (eB m) d = true ∧ tyUses m d.name = [] then [d.name] else []).length ≤ 1 := by split <;> simp
    rw [List.flatMap_cons, List.length_append, List.length_cons]; omega
set_option maxRecDepth 100000 in
set_option maxHeartbeats 8000000 in
theorem unused_any (l : List Dc) (A : Option Addr) (c : Nat) (w : World) (S : Nat → Prop) (hl : bG (jE w S) w S 22 A l) (hS : ∀ g, S g → g < w.heap.size) (hsz : (l.map d9).sum ≤ 10000000) (hll : l.length ≤ 10000000) :
    Calls Tryz.prog 19 #[.slice A l.length c] w (Mj l w) := by
  have HL := Lib.hid hl
  have HC := Lib.hid (vV l S A c w hl hS (by omega) 50 (enters_of Tryz.func50 (by kernel_rfl) rfl) _ (L8 w S l))
  have HU := Lib.hid (fun (W : World) (hW : Below w.heap.size w W) (x : ByteArray) => Jd l A c x W S (hl.keep (aF hW hS) (fun _ _ h => h.keep (aF hW hS))) (fun g hg => by have := hS g hg; have := hW.size; omega) hsz hll)
  obtain ⟨ch, hch⟩ : ∃ ch, ch = eB l := ⟨_, rfl⟩
  have hch2 : l.any (fun d => decide (d.kind = 7)) = ch := hch.symm
  rw [hch2] at HC
  have HCH := Lib.hid hch
  clear hl hch hch2
  go_enter Tryz.func19, Tryz.ntmps19
  go_wp2_with fail
  refine HC.out.mono ?_
  rintro e w1 ⟨rfl, hb1⟩
  go_wp2_with fail
  go_loopw [4, 12] (fun v x' wr => ∃ k : Nat, k ≤ l.length ∧ x' = .int .i64 k ∧ wr.ownsRow w.heap.size 9 1 v (mP l (l.take k)).length (aO (mP l (l.take k))) ∧ Below w.heap.size w wr) (fun _ x _ => l.length - (intOf x).toNat)
  case atStart => exact ⟨0, Nat.zero_le _, rfl, World.ownsRow_nil _ _ _ _, hb1⟩
  case round =>
    obtain ⟨k, hk, rfl, hown, hb⟩ := hrel
    have hsr := hb.size
    by_cases hlt : k < l.length
    · obtain ⟨g, o, v2, rfl, hSg, hp, hc⟩ := iM (fun _ _ h => qB h) HL.out hlt
      have hgs : g < w.heap.size := hS g hSg
      obtain ⟨d, hd⟩ : ∃ d, d = l[k] := ⟨_, rfl⟩
      have htk := A8 l k hlt
      rw [← hd] at hp htk
      obtain ⟨cs, nA, nc, hcl, hone, rfl, c0, -, c2, c3, -, hsn, hnc⟩ := rC hp
      have hrange : w.rangeAt g (o + k * 22) cs := fun j u hu => hc j u (by simpa [cellsOf, Value.cells] using hu)
      have hrr : wr.rangeAt g (o + k * 22) cs := xR hrange hb hgs
      have BA : (Tryz.prog.info? 41).map (·.size) = some cs.length := by rw [hcl]; exact fP
      have hcs2 : cs.toArray.size = 22 := by simpa using hcl
      have Mv := Lib.hid hone
      have HCS := Lib.hid hcs2
      have C0 := Lib.hid c0
      have C2 := Lib.hid c2
      have hkI : (k : Int) < (l.length : Int) := by omega
      have hk0 : (0 : Int) ≤ (k : Int) := by omega
      have hbA : ∀ o, Below wr.heap.size wr (wr.alloc o) := fun o => (Below.refl _ _).alloc (Nat.le_refl _) o
      obtain ⟨cur, hcur⟩ : ∃ cur, cur = mP l (l.take k) := ⟨_, rfl⟩
      have htu := Ck l (l.take k) d
      rw [← htk, ← hcur, ← HCH.out] at htu
      have hcll : cur.length ≤ 10000000 := by rw [hcur]; have := Ec l (l.take k); rw [List.length_take] at this; omega
      rw [← hcur] at hown
      have HTU := Lib.hid htu
      clear hcur htk hd hc hcl c0 c2 c3 hone hsn htu hp hcs2
      go_upto_region 6 with (first | (with_reducible refine wpList_load_mid rfl 41 (.tmp 14) rfl g (o + k * 22) rfl cs _ hrr Tryz.underlying41 rfl BA ?_) | (with_reducible refine gG _ rfl rfl (.tmp 6) (.tmp 15) rfl wr.heap.size cs.toArray rfl rfl _ (heap_alloc_new wr _) rfl HCS.out Mv.out ?_; intro W5 hr5 hg5; have hb5 : Below wr.heap.size wr W5 := (hbA _).trans (below_grown hg5 (Nat.le_refl _) (by simp)); have hz5 : wr.heap.size < W5.heap.size := lt_of_block hr5))
      have JU : Below w.heap.size w W5 := hb.trans (hb5.mono hsr)
      have hs5 := JU.size
      have hown5 := own_below hown hb5 (Nat.le_refl _)
      have e0 : W5.cell? ⟨wr.heap.size, 0, none⟩ = some (.int .i64 d.kind) := rE hr5 C0.out
      have e2 : W5.cell? ⟨wr.heap.size, 2, none⟩ = some (.string d.name) := rE hr5 C2.out
      have HR5 := Lib.hid hr5
      clear hown hr5 hg5 hrr hrange BA hb5 hb
      obtain ⟨q, hq⟩ : ∃ q, q = ji ch d := ⟨_, rfl⟩
      rw [← hq] at HTU
      unfold ji at hq
      have HQ := Lib.hid hq
      clear hq
      go_cut [7] (fun s7 wx => s7 = .bool q ∧ W5 = wx)
      case first =>
        obtain ⟨kd, hkd⟩ : ∃ kd, kd = d.kind := ⟨_, rfl⟩
        rw [← hkd] at e0 HQ
        clear hkd
        by_cases h2 : kd = 2
        · subst h2
          have hq1 : q = true := by rw [HQ.out]; rfl
          subst hq1
          go_wp2
          go_meet
          exact ⟨rfl, rfl⟩
        by_cases h3 : kd = 3
        · subst h3
          have hq1 : q = true := by rw [HQ.out]; rfl
          subst hq1
          go_wp2
          go_meet
          exact ⟨rfl, rfl⟩
        have b2 : (kd == (2 : Int)) = false := by rw [beq_eq_false_iff_ne]; exact h2
        have b3 : (kd == (3 : Int)) = false := by rw [beq_eq_false_iff_ne]; exact h3
        by_cases h4 : kd = 4
        · subst h4
          have hq1 : q = ch := by rw [HQ.out]; simp
          subst hq1
          clear h2 h3
          cases q
          · go_wp2
            go_meet
            exact ⟨rfl, rfl⟩
          · go_wp2
            go_meet
            exact ⟨rfl, rfl⟩
        have b4 : (kd == (4 : Int)) = false := by rw [beq_eq_false_iff_ne]; exact h4
        have hq1 : q = false := by rw [HQ.out]; simp [h2, h3, h4]
        subst hq1
        clear h2 h3 h4
        go_wp2
        go_meet
        exact ⟨rfl, rfl⟩
      case rest =>
        obtain ⟨rfl, rfl⟩ := hcut
        cases q
        · have HT2 := Lib.hid (show mP l (l.take (k + 1)) = cur by rw [HTU.out, if_neg (fun h => by cases h.1), List.append_nil])
          go_wp2
          go_roundw
          case rel =>
            refine ⟨k + 1, by omega, by go_num, ?_, JU⟩
            rw [HT2.out]
            exact hown5
          case measure => simp [intOf]; omega
        · have HUC := Lib.hid (HU.out W5 JU d.name)
          unfold Ka at HUC
          obtain ⟨us, hus⟩ : ∃ us, us = tyUses l d.name := ⟨_, rfl⟩
          rw [← hus] at HUC HTU
          clear hus
          go_wp2_with fail
          refine HUC.out.mono ?_
          rintro e W6 ⟨v6, rfl, hown6, hb6⟩
          obtain ⟨A6, c6, rfl, hc6⟩ := bV hown6
          have Ik := own_below hown5 hb6 (Nat.le_refl _)
          have hbw6 : Below w.heap.size w W6 := JU.trans (hb6.mono JU.size)
          have hs6 := hbw6.size
          have e2 : W6.cell? ⟨wr.heap.size, 2, none⟩ = some (.string d.name) := rE ((hb6.block wr.heap.size hz5).trans HR5.out) C2.out
          by_cases hu0 : us.length = 0
          · have hn0 : ((us.length : Int) == 0) = true := by rw [hu0]; rfl
            have HT2 := Lib.hid (show mP l (l.take (k + 1)) = cur ++ [d.name] by rw [HTU.out, if_pos (by exact ⟨by trivial, List.eq_nil_of_length_eq_zero hu0⟩)])
            clear hu0 hown6
            go_wp2_with (at_builtin; refine jc W6 rfl (.tmp 41) (.tmp 44) rfl w.heap.size _ _ _ Ik rfl d.name rfl (by omega) hs6 ?_; intro v' w' hown' hg' hv')
            go_roundw
            case rel =>
              refine ⟨k + 1, by omega, by go_num, ?_, hbw6.trans (bH Ik hg' hs6)⟩
              rw [HT2.out, List.length_append, nH]
              exact hown'
            case measure => simp [intOf]; omega
          · have hn0 : ((us.length : Int) == 0) = false := by rw [beq_eq_false_iff_ne]; omega
            have HT2 := Lib.hid (show mP l (l.take (k + 1)) = cur by rw [HTU.out, if_neg (fun h => hu0 (by rw [h.2]; rfl)), List.append_nil])
            clear hu0 hown6
            go_wp2
            go_roundw
            case rel =>
              refine ⟨k + 1, by omega, by go_num, ?_, hbw6⟩
              rw [HT2.out]
              exact Ik
            case measure => simp [intOf]; omega
    · obtain rfl : k = l.length := by omega
      have hkI : ¬ (l.length : Int) < (l.length : Int) := by omega
      rw [List.take_length] at hown
      go_wp2
      go_ret
      exact ⟨_, rfl, hown, hb⟩
end Go.Proofs.YtbmglebipepdmaaGreatDoor
namespace Go.Proofs.YtbmglebipepdmaaGreatDoor
open Go.RowKit
/-- Elements of a row in block b. -/
def RowEls (w : World) (S : Nat → Prop) (b : Nat) (l : List Dc) : Prop := ∀ t d, l[t]? = some d → ∃ v, jE w S d v ∧ w.rangeAt b (t * 22) (cellsOf v)
theorem dc_one {w : World} {S : Nat → Prop} {d : Dc} {v : Value} (h : jE w S d v) : ∀ u ∈ cellsOf v, u.oneCell' = true := by
  obtain ⟨cs, nA, nc, hcl, hone, rfl, -⟩ := rC h
  intro u hu
  have : u ∈ cs.toArray := by simpa [cellsOf, Value.cells] using hu
  exact Array.all_eq_true_iff_forall_mem.1 hone u this
/-- A list of declarations appended to a row of the call's own. -/
theorem wp_decls (w : World) {ops : Array Oper} {rest : List Oper} {o : Oper} {a : Act} {Q : Exit → Act → World → Prop} (hgd : o.guard = none) (s x : Operand)
    (ho : o.op = .call { callee := .builtin .append, args := #[s, x], argTypes := #[22, 22] })
    (base : Nat) (v : Value) (n : Nat) (xs : List Value) (hown : w.ownsRow base 41 22 v n xs) (hs : a.eval s = v)
    (g off m c : Nat) (news : List Value) (hx : a.eval x = .slice (some ⟨g, off, none⟩) m c) (hl : news.length = m * 22) (hcells : ∀ j u, news[j]? = some u → w.cell? ⟨g, off + j, none⟩ = some u) (h1 : ∀ u ∈ news, u.oneCell' = true)
    (hlim : n + m ≤ 100000000) (hbase : base ≤ w.heap.size)
    (h : ∀ v' w', w'.ownsRow base 41 22 v' (n + m) (xs ++ news) → w.grownBy w' v.ownBlock → (v'.ownBlock = v.ownBlock ∨ v'.ownBlock = some w.heap.size) → wpList Tryz.prog ops Q rest (a.put o.dst v') w') :
    wpList Tryz.prog ops Q (o :: rest) a w := by
  obtain ⟨i0, hi, hz0, hz1, hz2⟩ := info_parts info_decl
  refine wpList_plain hgd fun _ hK => ?_
  obtain ⟨v', w', h1', h2, h3, _, h5⟩ := run_append_own_at (P := Tryz.prog) w base 22 o.type 41 i0 _ 22 352 Tryz.underlying22 hi hz0 hz1 hz2 rfl (by decide) v n xs hown ⟨g, off, none⟩ m c news hl (fun j u hu => by rw [Go.WideShapes.add_plain]; exact hcells j u hu) h1 (by unfold maxLen; omega) (by omega) hbase
  unfold Oper.wp execOp
  simp only [ho, resolve, invoke, builtin, Sem.run_bind, Sem.run_pure, Result.andThen_ok, List.map_toArray, List.map_cons, List.map_nil, hs, hx, h1']
  exact hK _ _ (h v' w' h2 h3 h5)
theorem flat22 {vs : List Value} (h : ∀ u ∈ vs, (cellsOf u).length = 22) : (vs.flatMap cellsOf).length = vs.length * 22 := by
  induction vs with
  | nil => simp
  | cons x r ih => rw [List.flatMap_cons, List.length_append, ih (fun u hu => h u (List.mem_cons_of_mem _ hu)), h x (List.mem_cons_self ..), List.length_cons, Nat.succ_mul]; omega
def ClonePost (S : Nat → Prop) (l : List Dc) (w : World) (e : Ending) (w' : World) : Prop := ∃ b c, e = .returned (.slice (some ⟨b, 0, none⟩) l.length c) ∧ l.length ≤ c ∧ w.heap.size ≤ b ∧ b < w'.heap.size ∧ RowEls w' S b l ∧ w'.there b 0 (l.length * 22) ∧ Below w.heap.size w w'
set_option maxRecDepth 100000 in
set_option maxHeartbeats 2000000 in
theorem clone_any (l : List Dc) (A : Option Addr) (c : Nat) (w : World) (S : Nat → Prop) (hl : bG (jE w S) w S 22 A l) (hS : ∀ g, S g → g < w.heap.size) (hl0 : 0 < l.length) (hll : l.length ≤ 10000000) :
    Calls Tryz.prog 15 #[.slice A l.length c] w (ClonePost S l w) := by
  obtain ⟨vs, h1, h2, h3⟩ := hl
  obtain ⟨g, o, rfl, hSg, hc⟩ := h2.cells hl0
  have hd : ∀ i (h : i < vs.length), ∃ d, l[i]? = some d ∧ jE w S d vs[i] := fun i h => ⟨l[i]'(by omega), List.getElem?_eq_getElem _, h3 i _ _ (List.getElem?_eq_getElem (by omega)) (List.getElem?_eq_getElem h)⟩
  have h22 : ∀ u ∈ vs, (cellsOf u).length = 22 := fun u hu => by
    obtain ⟨i, hi, rfl⟩ := List.getElem_of_mem hu
    obtain ⟨d, -, hd⟩ := hd i hi
    exact qB hd
  have hone : ∀ u ∈ vs.flatMap cellsOf, u.oneCell' = true := fun u hu => by
    obtain ⟨v, hv, hu⟩ := List.mem_flatMap.1 hu
    obtain ⟨i, hi, rfl⟩ := List.getElem_of_mem hv
    obtain ⟨d, -, hd⟩ := hd i hi
    exact dc_one hd u hu
  obtain ⟨flat, hflat⟩ : ∃ flat, flat = vs.flatMap cellsOf := ⟨_, rfl⟩
  rw [← hflat] at hc hone
  have hlen : flat.length = l.length * 22 := by rw [hflat, flat22 h22, h1]
  obtain ⟨X, hX⟩ : ∃ X : World, X = w.alloc (.cells #[] 41 (0, 0)) := ⟨_, rfl⟩
  have hbX : Below w.heap.size w X := by rw [hX]; exact (Below.refl _ _).alloc (Nat.le_refl _) _
  have hzX : w.heap.size ≤ X.heap.size := hbX.size
  have hoX : X.ownsRow w.heap.size 41 22 (.slice (some ⟨w.heap.size, 0, none⟩) 0 0) 0 [] := by rw [hX]; exact World.ownsRow_lit (base := w.heap.size) (e := 41) (size := 22) w #[] 0 (Nat.le_refl _) (by decide) rfl
  have hcX : ∀ j u, flat[j]? = some u → X.cell? ⟨g, o + j, none⟩ = some u := fun j u hu => (hbX.cell (p := ⟨g, o + j, none⟩) (hS g hSg)).trans (hc j u hu)
  have HX := Lib.hid hX
  have HC := Lib.hid hcX
  have Mv := Lib.hid hone
  have HLEN := Lib.hid hlen
  have HFIN := Lib.hid (fun (W : World) (v : Value) (hown : W.ownsRow w.heap.size 41 22 v (0 + l.length) ([] ++ flat)) (hb : Below w.heap.size w W) => show ClonePost S l w (.returned v) W by
    rw [Nat.zero_add, List.nil_append] at hown
    obtain ⟨k1, k2⟩ := hown
    rcases k2 with ⟨rfl, k2⟩ | ⟨b, cap, cur, rfl, hbb, hh, hcap, -, hcur, htake⟩
    · omega
    · refine ⟨b, cap, rfl, hcap, hbb, lt_of_block hh, fun t d ht => ?_, fun j hj => ⟨?_, frozen_of_row _ _ _ _ _ hh⟩, hb⟩
      · have htl : t < vs.length := by have := (List.getElem?_eq_some_iff.1 ht).1; omega
        refine ⟨vs[t], (h3 t d _ ht (List.getElem?_eq_getElem htl)).keep (aF hb hS), fun j u hu => ?_⟩
        have hj : j < 22 := by rw [← h22 _ (List.getElem_mem htl)]; exact (List.getElem?_eq_some_iff.1 hu).1
        have e := flatN (m := 22) (fun i u hu => h22 u (List.mem_of_getElem? hu)) t j _ (List.getElem?_eq_getElem htl) hj
        rw [cell_of_row W b (t * 22 + j) _ _ _ hh]
        rw [← hflat] at e
        have h5 := e.trans hu
        rw [← htake, List.getElem?_take] at h5
        split at h5
        · simpa using h5
        · cases h5
      · rw [cell_of_row W b (0 + j) _ _ _ hh, Nat.zero_add]
        have : j < cur.size := by rw [hcur]; exact Nat.lt_of_lt_of_le hj (Nat.mul_le_mul_right _ hcap)
        simp [this])
  clear hX hcX hc hone hlen h1 h2 h3 hd h22 hflat
  have heq := fun (W : World) => Lib.run_eql_slice_nil (P := Tryz.prog) W 22 41 (some (⟨g, o, none⟩ : Addr)) l.length c 0 0 Tryz.underlying22
  go_enter Tryz.func15, Tryz.ntmps15
  go_upto_region 3 with fail
  go_wp2_with (rw [← HX.out]; refine wp_decls X rfl (.tmp 5) (.tmp 6) rfl w.heap.size _ 0 [] hoX rfl g o l.length c flat rfl HLEN.out HC.out Mv.out (by omega) hzX ?_; intro v3 X3 hown3 hg3 hv3)
  go_ret
  exact HFIN.out X3 v3 hown3 (hbX.trans (bH hoX hg3 hzX))
end Go.Proofs.YtbmglebipepdmaaGreatDoor
namespace Go.Proofs.YtbmglebipepdmaaGreatDoor
open Go.RowKit
set_option maxHeartbeats 1000000 in
theorem del_test (d : Dc) (v : Value) (W : World) (S : Nat → Prop) (hd : jE W S d v) (pb : Nat) (x : ByteArray) (hp : W.cell? ⟨pb, 0, none⟩ = some (.string x)) (q : Bool) (hq : q = (d.name.toList == x.toList)) :
    Calls Tryz.prog 33 #[v, .pointer (some ⟨pb, 0, none⟩)] W fun e W' => e = .returned (.bool q) ∧ Below W.heap.size W W' := by
  obtain ⟨cs, nA, nc, hcl, hone, rfl, -, -, c2, -⟩ := rC hd
  have e2 : (W.alloc (.cells cs.toArray 41)).cell? ⟨W.heap.size, 2, none⟩ = some (.string d.name) := rE (heap_alloc_new W _) c2
  have ep : (W.alloc (.cells cs.toArray 41)).cell? ⟨pb, 0, none⟩ = some (.string x) := (((Below.refl W.heap.size W).alloc (Nat.le_refl _) _).cell (p := ⟨pb, 0, none⟩) (World.block_lt_of_cell? W _ hp)).trans hp
  have hfin := (Below.refl W.heap.size W).alloc (Nat.le_refl _) (.cells cs.toArray 41)
  have hqb : (d.name.toList == x.toList) = q := hq.symm
  clear hd c2 hcl hone hq hp
  go_enter Tryz.func33, Tryz.ntmps33
  go_wp2
  go_ret
  exact ⟨rfl, hfin⟩
/-- The row's state: only block b has changed, and its cells can be written. -/
theorem rowEls_below {w W : World} {S : Nat → Prop} {b : Nat} {l : List Dc} (h : RowEls w S b l) (hb : Below w.heap.size w W) (hS : ∀ g, S g → g < w.heap.size) (hbl : b < w.heap.size) : RowEls W S b l := fun t d ht => by
  obtain ⟨v, h1, h2⟩ := h t d ht
  exact ⟨v, h1.keep (aF hb hS), fun j u hu => (hb.cell (p := ⟨b, t * 22 + j, none⟩) hbl).trans (h2 j u hu)⟩
def FirstPost (l : List Dc) (x : ByteArray) (w : World) (e : Ending) (w' : World) : Prop := ∃ k : Nat, e = .returned (.int .i64 k) ∧ k < l.length ∧ (∀ d, l[k]? = some d → d.name = x) ∧ (∀ j d, j < k → l[j]? = some d → d.name ≠ x) ∧ Below w.heap.size w w'
theorem enters_del : ∀ (args : Array Value) (w : World), (callFunc 33 args).run Tryz.prog w = .ok (.enter 33 args) w := enters_of Tryz.func33 (by kernel_rfl) rfl
set_option maxRecDepth 100000 in
set_option maxHeartbeats 4000000 in
theorem first_any (l : List Dc) (x : ByteArray) (b c pb : Nat) (w : World) (S : Nat → Prop) (hr : RowEls w S b l) (hS : ∀ g, S g → g < w.heap.size) (hbl : b < w.heap.size) (hp : w.cell? ⟨pb, 0, none⟩ = some (.string x)) (hll : l.length ≤ 10000000) (hex : ∃ d ∈ l, d.name = x) :
    Calls Tryz.prog 60 #[.slice (some ⟨b, 0, none⟩) l.length c, .func (.func 33) #[] #[.pointer (some ⟨pb, 0, none⟩)]] w (FirstPost l x w) := by
  have he := enters_del
  have HR := Lib.hid hr
  have HP := Lib.hid hp
  have HEX := Lib.hid hex
  have hpl : pb < w.heap.size := World.block_lt_of_cell? w _ hp
  clear hr hp hex
  go_enter Tryz.func60, Tryz.ntmps60
  go_wp2
  go_loopw [8] (fun i wr => ∃ k : Nat, k ≤ l.length ∧ i = .int .i64 k ∧ Hid (∀ j d, j < k → l[j]? = some d → d.name ≠ x) ∧ Below w.heap.size w wr) (fun i _ => l.length - (intOf i).toNat)
  case atStart => exact ⟨0, Nat.zero_le _, rfl, Lib.hid (fun j d h _ => absurd h (by omega)), Below.refl _ _⟩
  case round =>
    obtain ⟨k, hk, rfl, hno, hb⟩ := hrel
    have hsz := hb.size
    by_cases hlt : k < l.length
    · obtain ⟨v, hdv, hrg⟩ := rowEls_below HR.out hb hS hbl k l[k] (List.getElem?_eq_getElem hlt)
      obtain ⟨d, hd⟩ : ∃ d, d = l[k] := ⟨_, rfl⟩
      rw [← hd] at hdv
      have hdv2 := hdv
      obtain ⟨cs, nA, nc, hcl, hone, rfl, -⟩ := rC hdv2
      have hrange : wr.rangeAt b (k * 22) cs := fun j u hu => hrg j u (by simpa [cellsOf, Value.cells] using hu)
      have BA : (Tryz.prog.info? 41).map (·.size) = some cs.length := by rw [hcl]; exact fP
      obtain ⟨q, hq⟩ : ∃ q, q = (d.name.toList == x.toList) := ⟨_, rfl⟩
      have HC := Lib.hid (del_test d _ wr S hdv pb x ((hb.cell (p := ⟨pb, 0, none⟩) hpl).trans HP.out) q hq)
      have hkI : (k : Int) < (l.length : Int) := by omega
      have hk0 : (0 : Int) ≤ (k : Int) := by omega
      rw [← ba_tl] at hq
      have HD := Lib.hid hd
      have HQ := Lib.hid hq
      clear hdv hdv2 hrg hcl hone hd hq
      cases q
      · have HN := Lib.hid (show d.name ≠ x from fun h => by have := HQ.out; rw [h] at this; rw [(gY x x).2 rfl] at this; cases this)
        go_wp2_with (with_reducible refine wpList_load_mid rfl 41 (.tmp 14) rfl b (k * 22) rfl cs _ hrange Tryz.underlying41 rfl BA ?_)
        refine HC.out.mono ?_
        rintro e W2 ⟨rfl, hb2⟩
        go_wp2
        go_roundw
        case rel =>
          refine ⟨k + 1, by omega, by go_num, Lib.hid ?_, hb.trans (hb2.mono hsz)⟩
          intro j d' hj hd'
          by_cases h9 : j < k
          · exact hno.out j d' h9 hd'
          · obtain rfl : j = k := by omega
            rw [List.getElem?_eq_getElem hlt, ← HD.out] at hd'
            rw [← Option.some.inj hd']; exact HN.out
        case measure => simp [intOf]; omega
      · have HN := Lib.hid (show d.name = x from (gY _ _).1 HQ.out.symm)
        go_wp2_with (with_reducible refine wpList_load_mid rfl 41 (.tmp 14) rfl b (k * 22) rfl cs _ hrange Tryz.underlying41 rfl BA ?_)
        refine HC.out.mono ?_
        rintro e W2 ⟨rfl, hb2⟩
        go_wp2
        go_ret
        refine ⟨k, rfl, hlt, fun d' hd' => ?_, hno.out, hb.trans (hb2.mono hsz)⟩
        rw [List.getElem?_eq_getElem hlt, ← HD.out] at hd'
        rw [← Option.some.inj hd']; exact HN.out
    · obtain ⟨d, hd, hn⟩ := HEX.out
      obtain ⟨j, hj, hje⟩ := List.getElem_of_mem hd
      exact absurd hn (hno.out j d (by omega) (by rw [List.getElem?_eq_getElem hj, hje]))
end Go.Proofs.YtbmglebipepdmaaGreatDoor
namespace Go.Proofs.YtbmglebipepdmaaGreatDoor
open Go.RowKit
theorem But.setCells {b : Nat} : ∀ (vs : List Value) (o : Nat) (a w : World), But (fun g => g = b) a w → But (fun g => g = b) a (w.setCells b o vs)
  | [], _, _, _, h => h
  | v :: r, o, a, _w, h => But.setCells r (o + 1) a _ (h.setCell rfl o v)
def zDc : Array Value := #[.int .i64 0, .int .i64 0, .string ByteArray.empty, .slice none 0 0, .slice none 0 0, .int .i64 0, .string ByteArray.empty, .int .i64 0, .slice none 0 0, .slice none 0 0, .string ByteArray.empty, .int .i64 0, .string ByteArray.empty, .int .i64 0, .slice none 0 0, .slice none 0 0, .int .i64 0, .string ByteArray.empty, .int .i64 0, .slice none 0 0, .slice none 0 0, .string ByteArray.empty]
theorem zDc_one (k : Nat) (h : k < 22) : (zDc[k]!).oneCell' = true := by
  have e : ((List.range 22).all fun k => (zDc[k]!).oneCell') = true := by kernel_rfl
  exact List.all_eq_true.1 e k (List.mem_range.2 h)
theorem run_clear22 (w : World) (ty : TypeId) (b o m c : Nat) (hm : 0 < m) (hth : w.there b o (m * 22)) :
    (Builtin.clear_ #[22] ty #[.slice (some ⟨b, o, none⟩) m c]).run Tryz.prog w = .ok (.tuple #[]) (w.setCells b o (Builtin.zeroCells zDc m).toList) := by
  have hz : zDc.size = 22 := rfl
  have hlen : (Builtin.zeroCells zDc m).toList.length = m * 22 := by simp [Builtin.zeroCells, hz]
  have hone : ∀ v ∈ (Builtin.zeroCells zDc m).toList, v.oneCell' = true := by
    intro v hv
    unfold Builtin.zeroCells at hv
    simp only [Array.toList_map, List.mem_map] at hv
    obtain ⟨i, -, rfl⟩ := hv
    exact zDc_one _ (Nat.mod_lt _ (by rw [hz]; decide))
  have hst := run_storeCells_cells (P := Tryz.prog) b o (Builtin.zeroCells zDc m).toList 0 w (fun j hj => by rw [Nat.add_zero]; exact (hth j (by rw [← hlen]; exact hj)).1) (fun j hj => by rw [Nat.add_zero]; exact (hth j (by rw [← hlen]; exact hj)).2) hone
  simp only [Nat.add_zero] at hst
  have hzv : (zeroValue 41).run Tryz.prog w = .ok (.agg zDc) w := zero_dc w
  have hcz : (Value.agg zDc).cells = zDc := rfl
  obtain ⟨m, rfl⟩ : ∃ n, m = n + 1 := ⟨m - 1, by omega⟩
  simp [Builtin.clear_, run_underlying Tryz.underlying22, hzv, hcz, hst]
theorem wp_clear (w : World) {ops : Array Oper} {rest : List Oper} {o : Oper} {a : Act} {Q : Exit → Act → World → Prop} (hgd : o.guard = none) (x : Operand)
    (ho : o.op = .call { callee := .builtin .clear, args := #[x], argTypes := #[22] }) (b off m c : Nat) (hx : a.eval x = .slice (some ⟨b, off, none⟩) m c) (hm : 0 < m) (hth : w.there b off (m * 22))
    (h : ∀ w', w' = w.setCells b off (Builtin.zeroCells zDc m).toList → wpList Tryz.prog ops Q rest (a.put o.dst (.tuple #[])) w') : wpList Tryz.prog ops Q (o :: rest) a w := by
  refine wpList_plain hgd fun _ hK => ?_
  unfold Oper.wp execOp
  simp only [ho, resolve, invoke, builtin, Sem.run_bind, Sem.run_pure, Result.andThen_ok, List.map_toArray, List.map_cons, List.map_nil, hx, run_clear22 w o.type b off m c hm hth]
  exact hK _ _ (h _ rfl)
theorem rowEls_list {W : World} {S : Nat → Prop} {b : Nat} {l : List Dc} (h : RowEls W S b l) : bG (jE W S) W (fun g => g = b) 22 (some ⟨b, 0, none⟩) l := by
  have hex : ∀ i : Fin l.length, ∃ v, jE W S l[i] v ∧ W.rangeAt b (i.1 * 22) (cellsOf v) := fun i => h i.1 _ (List.getElem?_eq_getElem i.2)
  obtain ⟨f, hf⟩ := Classical.axiomOfChoice hex
  have hvl : (List.ofFn f).length = l.length := by simp
  have hget : ∀ (i : Nat) (v : Value), (List.ofFn f)[i]? = some v → ∃ hi : i < l.length, v = f ⟨i, hi⟩ := fun i v hv => by
    obtain ⟨h1, h2⟩ := List.getElem?_eq_some_iff.1 hv
    rw [hvl] at h1
    exact ⟨h1, by rw [← h2]; simp⟩
  have h22 : ∀ (i : Nat) (u : Value), (List.ofFn f)[i]? = some u → (cellsOf u).length = 22 := fun i u hu => by
    obtain ⟨hi, rfl⟩ := hget i u hu
    exact qB (hf ⟨i, hi⟩).1
  have hfl : ((List.ofFn f).flatMap cellsOf).length = l.length * 22 := by
    rw [flat22 (fun u hu => by obtain ⟨i, hi, rfl⟩ := List.getElem_of_mem hu; exact h22 i _ (List.getElem?_eq_getElem hi)), hvl]
  refine ⟨List.ofFn f, hvl, ⟨hfl, fun _ => ⟨b, 0, rfl, rfl, fun j u hu => ?_⟩⟩, fun i x v hx hv => ?_⟩
  · have hj := (List.getElem?_eq_some_iff.1 hu).1
    rw [hfl] at hj
    have hq : j / 22 < l.length := by omega
    have hr : j % 22 < 22 := Nat.mod_lt _ (by decide)
    have e := flatN (m := 22) h22 (j / 22) (j % 22) _ (List.getElem?_eq_getElem (by rw [hvl]; exact hq)) hr
    rw [Nat.div_add_mod' j 22] at e
    rw [e] at hu
    simp only [List.getElem_ofFn] at hu
    have := (hf ⟨j / 22, hq⟩).2 (j % 22) u hu
    rw [Nat.zero_add]
    rwa [Nat.div_add_mod' j 22] at this
  · obtain ⟨hi, rfl⟩ := hget i v hv
    obtain ⟨h1, h2⟩ := List.getElem?_eq_some_iff.1 hx
    rw [← h2]
    exact (hf ⟨i, hi⟩).1
structure DelInv (x : ByteArray) (l : List Dc) (b : Nat) (S : Nat → Prop) (w wr : World) (j : Nat) : Prop where
  but : But (fun g => g = b) w wr
  th : wr.there b 0 (l.length * 22)
  done : RowEls wr S b (without x (l.take j))
  rest : ∀ t d, j ≤ t → l[t]? = some d → ∃ v, jE wr S d v ∧ wr.rangeAt b (t * 22) (cellsOf v)
section
variable {x : ByteArray} {l : List Dc} {b : Nat} {S : Nat → Prop} {w wr W : World} {j : Nat}
theorem DelInv.below (h : DelInv x l b S w wr j) (hb : Below wr.heap.size wr W) (hS : ∀ g, S g → g < wr.heap.size) (hbl : b < wr.heap.size) : DelInv x l b S w W j :=
  ⟨h.but.trans (.of_below hb), fun i hi => ⟨by rw [hb.cell (p := ⟨b, 0 + i, none⟩) hbl]; exact (h.th i hi).1, by rw [hb.frozen (p := ⟨b, 0 + i, none⟩) hbl]; exact (h.th i hi).2⟩, rowEls_below h.done hb hS hbl, fun t d h1 h2 => by
    obtain ⟨v, h3, h4⟩ := h.rest t d h1 h2
    exact ⟨v, h3.keep (aF hb hS), fun i u hu => (hb.cell (p := ⟨b, t * 22 + i, none⟩) hbl).trans (h4 i u hu)⟩⟩
theorem without_snoc (x : ByteArray) (l : List Dc) (d : Dc) : without x (l ++ [d]) = without x l ++ if d.name = x then [] else [d] := by
  unfold without
  rw [List.filter_append]
  congr 1
  by_cases h : d.name = x
  · rw [if_pos h, List.filter_cons, if_neg (by rw [(gY _ _).2 h]; simp)]; rfl
  · rw [if_neg h, List.filter_cons, if_pos (by simp only [Bool.not_eq_true']; cases e : (d.name == x); rfl; exact absurd ((gY _ _).1 e) h)]; rfl
theorem DelInv.skip (h : DelInv x l b S w wr j) (hj : j < l.length) (hx : l[j].name = x) : DelInv x l b S w wr (j + 1) := by
  refine ⟨h.but, h.th, ?_, fun t d h1 h2 => h.rest t d (by omega) h2⟩
  rw [A8 l j hj, without_snoc, if_pos hx, List.append_nil]
  exact h.done
theorem DelInv.move (h : DelInv x l b S w wr j) (hj : j < l.length) (hx : l[j].name ≠ x) {v : Value} (hv : jE wr S l[j] v) (hi : (without x (l.take j)).length ≤ j) (hSb : ∀ g, S g → g ≠ b) (_hS : ∀ g, S g → g < wr.heap.size) :
    DelInv x l b S w (wr.setCells b ((without x (l.take j)).length * 22) (cellsOf v)) (j + 1) := by
  obtain ⟨i, hie⟩ : ∃ i, i = (without x (l.take j)).length := ⟨_, rfl⟩
  rw [← hie] at hi ⊢
  have hb := But.setCells (b := b) (cellsOf v) (i * 22) wr wr (But.refl _ _)
  have hk : Kept S wr (wr.setCells b (i * 22) (cellsOf v)) := hb.kept hSb
  have h22 := qB hv
  have hth : wr.there b (i * 22) (cellsOf v).length := fun q hq => by
    have := h.th (i * 22 + q) (by rw [h22] at hq; have : i < l.length := by omega
                                  omega)
    rw [Nat.zero_add] at this
    exact this
  refine ⟨h.but.trans hb, World.there_setCells h.th _ _ _, ?_, fun t d h1 h2 => ?_⟩
  · rw [A8 l j hj, without_snoc, if_neg hx]
    intro t d ht
    by_cases htl : t < i
    · rw [List.getElem?_append_left (by omega)] at ht
      obtain ⟨u, h3, h4⟩ := h.done t d ht
      exact ⟨u, h3.keep hk, World.rangeAt_setCells_apart h4 _ _ _ (Or.inr (Or.inl (by rw [qB h3]; omega)))⟩
    · have hte : t = i := by
        have := (List.getElem?_eq_some_iff.1 ht).1
        rw [List.length_append, List.length_cons, List.length_nil] at this; omega
      subst hte
      rw [List.getElem?_append_right (by omega), ← hie, Nat.sub_self] at ht
      obtain rfl : l[j] = d := Option.some.inj ht
      exact ⟨v, hv.keep hk, World.rangeAt_setCells_same _ _ _ _ hth⟩
  · obtain ⟨u, h3, h4⟩ := h.rest t d (by omega) h2
    exact ⟨u, h3.keep hk, World.rangeAt_setCells_apart h4 _ _ _ (Or.inr (Or.inr (by rw [h22]; omega)))⟩
end
theorem without_lt {x : ByteArray} {l : List Dc} (hex : ∃ d ∈ l, d.name = x) : (without x l).length < l.length := by
  obtain ⟨d, hd, hn⟩ := hex
  unfold without
  refine Nat.lt_of_le_of_ne (List.length_filter_le _ _) fun h => ?_
  have := List.length_filter_eq_length_iff.1 h d hd
  rw [(gY _ _).2 hn] at this
  cases this
theorem without_first {x : ByteArray} {l : List Dc} {k : Nat} (hk : k < l.length) (h1 : l[k].name = x) (h2 : ∀ j d, j < k → l[j]? = some d → d.name ≠ x) : without x (l.take (k + 1)) = l.take k := by
  rw [A8 l k hk, without_snoc, if_pos h1, List.append_nil]
  refine wU fun d hd => ?_
  obtain ⟨j, hj, rfl⟩ := List.getElem_of_mem hd
  rw [List.length_take] at hj
  rw [List.getElem_take]
  exact h2 j _ (by omega) (List.getElem?_eq_getElem _)
def DelPost (l : List Dc) (x : ByteArray) (b : Nat) (S : Nat → Prop) (w : World) (e : Ending) (w' : World) : Prop := ∃ c, e = .returned (.slice (some ⟨b, 0, none⟩) (without x l).length c) ∧ RowEls w' S b (without x l) ∧ But (fun g => g = b) w w'
set_option maxRecDepth 100000 in
set_option maxHeartbeats 8000000 in
theorem delete_any (l : List Dc) (x : ByteArray) (b c pb : Nat) (w : World) (S : Nat → Prop) (hr : RowEls w S b l) (hth : w.there b 0 (l.length * 22)) (hS : ∀ g, S g → g < w.heap.size ∧ g ≠ b) (hbl : b < w.heap.size) (hp : w.cell? ⟨pb, 0, none⟩ = some (.string x)) (hpb : pb ≠ b) (hlc : l.length ≤ c) (hll : l.length ≤ 10000000) (hex : ∃ d ∈ l, d.name = x) :
    Calls Tryz.prog 32 #[.slice (some ⟨b, 0, none⟩) l.length c, .func (.func 33) #[] #[.pointer (some ⟨pb, 0, none⟩)]] w (DelPost l x b S w) := by
  have he := enters_del
  have HFI := Lib.hid (first_any l x b c pb w S hr (fun g hg => (hS g hg).1) hbl hp hll hex)
  have HWL := Lib.hid (without_lt hex)
  have HR := Lib.hid hr
  have HTH := Lib.hid hth
  have HP := Lib.hid hp
  have hpl : pb < w.heap.size := World.block_lt_of_cell? w _ hp
  clear hr hth hp hex
  go_enter Tryz.func32, Tryz.ntmps32
  go_wp2_with fail
  refine HFI.out.mono ?_
  rintro e W1 ⟨k, rfl, hk, hkx, hkn, hb1⟩
  have hs1 := hb1.size
  have hm1 : ((k : Int) == (-1 : Int)) = false := by rw [beq_eq_false_iff_ne]; omega
  have HI0 := Lib.hid (show DelInv x l b S w W1 (k + 1) from by
    have h0 : DelInv x l b S w w (k + 1) := ⟨But.refl _ _, HTH.out, by
      rw [without_first hk (hkx _ (List.getElem?_eq_getElem hk)) hkn]
      exact fun t d ht => HR.out t d (by rw [List.getElem?_take] at ht; split at ht; exact ht; cases ht), fun t d _ h2 => HR.out t d h2⟩
    exact h0.below hb1 (fun g hg => (hS g hg).1) hbl)
  have HI1 := Lib.hid (show (without x (l.take (k + 1))).length = k by rw [without_first hk (hkx _ (List.getElem?_eq_getElem hk)) hkn, List.length_take]; omega)
  have hwr : IntKind.i64.wrap ((k : Int) + 1) = (k : Int) + 1 := IntWalk.i64_in _ (by omega)
  clear hkx hkn
  go_wp2_with fail
  go_loopw [5, 6] (fun i y wr => ∃ j : Nat, k + 1 ≤ j ∧ j ≤ l.length ∧ y = .int .i64 j ∧ i = .int .i64 ((without x (l.take j)).length : Nat) ∧ Hid (DelInv x l b S w wr j)) (fun _ y _ => l.length - (intOf y).toNat)
  case atStart => exact ⟨k + 1, by omega, by omega, by go_num, by rw [HI1.out], HI0⟩
  case round =>
    clear HI0 HI1 hwr
    obtain ⟨j, hkj, hj, rfl, rfl, hinv⟩ := hrel
    obtain ⟨i, hi⟩ : ∃ i, i = (without x (l.take j)).length := ⟨_, rfl⟩
    have hij : i ≤ j := by rw [hi]; unfold without; exact Nat.le_trans (List.length_filter_le _ _) (by rw [List.length_take]; omega)
    have hsr := hinv.out.but.size
    by_cases hlt : j < l.length
    · obtain ⟨v, hdv, hrg⟩ := hinv.out.rest j l[j] (Nat.le_refl _) (List.getElem?_eq_getElem hlt)
      have hdv2 := hdv
      obtain ⟨cs, nA, nc, hcl, hone, rfl, -⟩ := rC hdv2
      have hrange : wr.rangeAt b (j * 22) cs := fun q u hu => hrg q u (by simpa [cellsOf, Value.cells] using hu)
      have BA : (Tryz.prog.info? 41).map (·.size) = some cs.length := by rw [hcl]; exact fP
      have hcs2 : cs.toArray.size = 22 := by simpa using hcl
      have hszd2 : (Tryz.prog.info? 41).map (·.size) = some cs.toArray.size := by rw [hcs2]; exact fP
      have Mv := Lib.hid hone
      have HCS := Lib.hid hcs2
      have HDV := Lib.hid hdv
      have HSZ2 := Lib.hid hszd2
      have HIE := Lib.hid hi
      have HW := Lib.hid (A8 l j hlt)
      have hkI : (j : Int) < (l.length : Int) := by omega
      have hk0 : (0 : Int) ≤ (j : Int) := by omega
      have hbA : ∀ o, Below wr.heap.size wr (wr.alloc o) := fun o => (Below.refl _ _).alloc (Nat.le_refl _) o
      rw [← hi]
      clear hdv hdv2 hrg hcl hone hcs2 hszd2 hi
      go_wp2_with (first | (with_reducible refine wpList_load_mid rfl 41 (.tmp 24) rfl b (j * 22) rfl cs _ hrange Tryz.underlying41 rfl BA ?_) | (with_reducible refine gG _ rfl rfl (.tmp 7) (.tmp 25) rfl wr.heap.size cs.toArray rfl rfl _ (heap_alloc_new wr _) rfl HCS.out Mv.out ?_; intro W5 hr5 hg5) | (with_reducible refine fQ _ rfl (.tmp 7) rfl wr.heap.size rfl _ hr5 HCS.out ?_))
      have hb5 : Below wr.heap.size wr W5 := (hbA _).trans (below_grown hg5 (Nat.le_refl _) (by simp))
      have hz5 : wr.heap.size < W5.heap.size := lt_of_block hr5
      obtain ⟨q, hq⟩ : ∃ q, q = (l[j].name.toList == x.toList) := ⟨_, rfl⟩
      have hcp : W5.cell? ⟨pb, 0, none⟩ = some (.string x) := (hb5.cell (p := ⟨pb, 0, none⟩) (show pb < wr.heap.size by omega)).trans ((cell_of_block (hinv.out.but.block pb hpb hpl)).trans HP.out)
      have HC := Lib.hid (del_test l[j] _ W5 S (HDV.out.keep (aW hb5)) pb x hcp q hq)
      rw [← ba_tl] at hq
      have HQ := Lib.hid hq
      have HR5 := Lib.hid hr5
      clear hr5 hg5 hrange BA hq hcp
      refine HC.out.mono ?_
      rintro e W6 ⟨rfl, hb6⟩
      have hb56 : Below wr.heap.size wr W6 := hb5.trans (hb6.mono hb5.size)
      have HI6 := Lib.hid (hinv.out.below hb56 (fun g hg => by have := (hS g hg).1; omega) (by omega))
      have hr6 := (hb6.block wr.heap.size hz5).trans HR5.out
      have hz6 : wr.heap.size ≤ W6.heap.size := hb56.size
      cases q
      · have HN := Lib.hid (show l[j].name ≠ x from fun h => by have := HQ.out; rw [h] at this; rw [(gY x x).2 rfl] at this; cases this)
        have HTS := Lib.hid (show W6.there b (i * 22) cs.toArray.size from fun q hq => by
          rw [HCS.out] at hq
          have := HI6.out.th (i * 22 + q) (by omega)
          rw [Nat.zero_add] at this
          exact this)
        have HMV := Lib.hid (show DelInv x l b S w (W6.setCells b (i * 22) cs.toArray.toList) (j + 1) from by
          have := HI6.out.move hlt HN.out (HDV.out.keep (aW hb56)) (by rw [← HIE.out]; exact hij) (fun g hg => (hS g hg).2) (fun g hg => by have := (hS g hg).1; omega)
          rw [← HIE.out] at this
          exact this)
        have HLN := Lib.hid (show (without x (l.take (j + 1))).length = i + 1 by rw [HW.out, without_snoc, if_neg HN.out, List.length_append, ← HIE.out]; rfl)
        have hiI : (i : Int) < (l.length : Int) := by omega
        have hi0 : (0 : Int) ≤ (i : Int) := by omega
        go_wp2_with (first | (with_reducible refine fQ _ rfl (.tmp 7) rfl wr.heap.size rfl _ hr6 HCS.out ?_) | (with_reducible refine wpList_store_mid rfl 41 (.tmp 33) (.tmp 32) rfl b (i * 22) cs.toArray rfl rfl HTS.out HSZ2.out Mv.out ?_))
        go_roundw
        case rel => exact ⟨j + 1, by omega, by omega, by go_num, by rw [HLN.out]; go_num, HMV⟩
        case measure => simp [intOf]; omega
      · have HSK := Lib.hid (HI6.out.skip hlt ((gY _ _).1 HQ.out.symm))
        have HLN := Lib.hid (show (without x (l.take (j + 1))).length = i by rw [HW.out, without_snoc, if_pos ((gY _ _).1 HQ.out.symm), List.append_nil, ← HIE.out])
        go_wp2
        go_roundw
        case rel => exact ⟨j + 1, by omega, by omega, by go_num, by rw [HLN.out], HSK⟩
        case measure => simp [intOf]; omega
    · obtain rfl : j = l.length := by omega
      have hkI : ¬ (l.length : Int) < (l.length : Int) := by omega
      have hin : i < l.length := by rw [hi, List.take_length]; exact HWL.out
      have HIE := Lib.hid (show (without x l).length = i by rw [hi, List.take_length])
      rw [← hi]
      clear hi
      have hlo : (0 : Int) ≤ (i : Int) := by omega
      have hhi : (i : Int) ≤ (l.length : Int) := by omega
      have hhc : (l.length : Int) ≤ (c : Int) := by omega
      have hic : (i : Int) ≤ (c : Int) := by omega
      have hne : ¬ c = i := by omega
      have HTC := Lib.hid (show wr.there b (i * 22) ((l.length - i) * 22) from fun q hq => by
        have := hinv.out.th (i * 22 + q) (by omega)
        rw [Nat.zero_add] at this
        exact this)
      have HFIN := Lib.hid (fun (w9 : World) (h9 : w9 = wr.setCells b (i * 22) (Builtin.zeroCells zDc (l.length - i)).toList) => show RowEls w9 S b (without x l) ∧ But (fun g => g = b) w w9 from by
        subst h9
        have hb := But.setCells (b := b) (Builtin.zeroCells zDc (l.length - i)).toList (i * 22) wr wr (But.refl _ _)
        refine ⟨fun t d ht => ?_, hinv.out.but.trans hb⟩
        have hd := hinv.out.done
        rw [List.take_length] at hd
        obtain ⟨u, h3, h4⟩ := hd t d ht
        have htl := (List.getElem?_eq_some_iff.1 ht).1
        rw [HIE.out] at htl
        exact ⟨u, h3.keep (hb.kept (fun g hg => (hS g hg).2)), World.rangeAt_setCells_apart h4 _ _ _ (Or.inr (Or.inl (by rw [qB h3]; omega)))⟩)
      go_wp2_with (refine wp_clear wr rfl (.tmp 38) rfl b (i * 22) (l.length - i) (c - i) rfl (by omega) HTC.out ?_; intro w9 hw9; have HW9 := Lib.hid hw9; clear hw9)
      go_ret
      obtain ⟨f1, f2⟩ := HFIN.out w9 HW9.out
      exact ⟨c, by rw [HIE.out]; rfl, f1, f2⟩
end Go.Proofs.YtbmglebipepdmaaGreatDoor
