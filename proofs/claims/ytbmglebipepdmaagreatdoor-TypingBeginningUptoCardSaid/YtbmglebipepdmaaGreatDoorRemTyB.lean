/- What this closing text needs beyond the base: parts of the texts on typing and on the syntax; the conditions stand at each theorem. -/
import Derived.Lib.Join
import Derived.Laws.Concat
import Derived.Lib.ItoaNum
import Derived.Lib.ItoaLen
import Derived.KernelRfl
import Derived.Test.YtbmglebipepdmaaGreatDoorPkPlain
import Derived.Test.YtbmglebipepdmaaGreatDoorPkRound
import Derived.Test.YtbmglebipepdmaaGreatDoorPkTyp
import Derived.Test.YtbmglebipepdmaaGreatDoorPkMem
import Derived.Test.YtbmglebipepdmaaGreatDoorPkPara
import Derived.Test.YtbmglebipepdmaaGreatDoorPkParb
import Derived.Test.YtbmglebipepdmaaGreatDoorPkLex
import Derived.Test.YtbmglebipepdmaaGreatDoorPkPare
import Derived.Test.YtbmglebipepdmaaGreatDoorPkVala
import Derived.Test.YtbmglebipepdmaaGreatDoorPkValb
import Derived.Test.YtbmglebipepdmaaGreatDoorPkValc
import Derived.Test.YtbmglebipepdmaaGreatDoorPkFmta
import Derived.Test.YtbmglebipepdmaaGreatDoorPkFmtb
import Derived.Test.YtbmglebipepdmaaGreatDoorPkNms
import Derived.Test.YtbmglebipepdmaaGreatDoorPkTya
import Derived.Test.YtbmglebipepdmaaGreatDoorPkTyb
import Derived.Test.YtbmglebipepdmaaGreatDoorPkOpen
import Derived.Test.YtbmglebipepdmaaGreatDoorPkCheck
import Derived.Test.YtbmglebipepdmaaGreatDoorPkRefl
import Derived.Test.YtbmglebipepdmaaGreatDoorPkRefa
import Derived.Test.YtbmglebipepdmaaGreatDoorPkRefb
import Derived.Test.YtbmglebipepdmaaGreatDoorPkRefc
import Derived.Test.YtbmglebipepdmaaGreatDoorPkRefd
import Derived.Test.YtbmglebipepdmaaGreatDoorPkEq
import Derived.Test.YtbmglebipepdmaaGreatDoorPkHead
import Derived.Test.YtbmglebipepdmaaGreatDoorPkUses
import Derived.Test.YtbmglebipepdmaaGreatDoorPkAwt
namespace Go.Proofs.YtbmglebipepdmaaGreatDoor
end Go.Proofs.YtbmglebipepdmaaGreatDoor
namespace Go.Proofs.YtbmglebipepdmaaGreatDoor
end Go.Proofs.YtbmglebipepdmaaGreatDoor
namespace Go.Proofs.YtbmglebipepdmaaGreatDoor
theorem lex_nil (line : Nat) (acc : List (Tok × Nat)) : lex [] line acc = (acc, 0, 0) := rfl
end Go.Proofs.YtbmglebipepdmaaGreatDoor
namespace Go.Proofs.YtbmglebipepdmaaGreatDoor
end Go.Proofs.YtbmglebipepdmaaGreatDoor
namespace Go.Proofs.YtbmglebipepdmaaGreatDoor
end Go.Proofs.YtbmglebipepdmaaGreatDoor
namespace Go.Proofs.YtbmglebipepdmaaGreatDoor
mutual
def dQ : Tm → Nat
  | .mk _ _ _ _ kids => fM kids + 1
def fM : List Tm → Nat
  | [] => 0
  | t :: r => max (dQ t) (fM r)
end
end Go.Proofs.YtbmglebipepdmaaGreatDoor
namespace Go.Proofs.YtbmglebipepdmaaGreatDoor
end Go.Proofs.YtbmglebipepdmaaGreatDoor
namespace Go.Proofs.YtbmglebipepdmaaGreatDoor
end Go.Proofs.YtbmglebipepdmaaGreatDoor
namespace Go.Proofs.YtbmglebipepdmaaGreatDoor
def bytesOf (l : List Pc) : List UInt8 := l.flatMap Pc.bytes
theorem aX (a b : List Pc) : bytesOf (a ++ b) = bytesOf a ++ bytesOf b := by simp [bytesOf]
theorem aI (a b : List Pc) : aJ (a ++ b) = aJ a ++ aJ b := by simp [aJ]
theorem mr (x : Pc) (r : List Pc) : bytesOf (x :: r) = x.bytes ++ bytesOf r := rfl
theorem dU (x : Pc) (r : List Pc) : aJ (x :: r) = x.toks ++ aJ r := rfl
theorem uo : bytesOf [] = [] := rfl
theorem mW (b : Bool) (c : UInt8) (r : List Pc) : qQ b (.sym c :: r) = qQ false r := by simp [qQ, Pc.yI]
theorem mX (b : Bool) (g : List UInt8) (r : List Pc) : qQ b (.gap g :: r) = qQ false r := by simp [qQ, Pc.yI]
theorem CB (b : Bool) : qQ b [] = true := rfl

/-- The bytes begin with one that ends a word, or there are none. -/
def brk (l : List UInt8) : Prop := ∀ c r, l = c :: r → bZ c.toNat = false
theorem yH : ∀ c ∈ En, fI c.toNat = false ∧ eF c.toNat = false ∧ isDigit c.toNat = false ∧ c ≠ 34 := by decide
theorem J8 {r : List Pc} (h : qQ true r = true) (hok : ∀ x ∈ r, x.ok) : brk (bytesOf r) := by
  cases r with
  | nil => intro c r e; simp [bytesOf] at e
  | cons x r =>
    have hx := hok x (by simp)
    intro c s e
    rw [mr] at e
    cases x with
    | word b => simp [qQ, Pc.yI] at h
    | int n => simp [qQ, Pc.yI] at h
    | sym d =>
      have e1 : d = c := by simp [Pc.bytes] at e; exact e.1
      subst e1
      have := yH d hx.1
      unfold bZ; rw [this.2.1, this.2.2.1]; rfl
    | gap g =>
      obtain ⟨⟨d, q, rfl, hd⟩, -⟩ := hx
      have e1 : d = c := by simp [Pc.bytes] at e; exact e.1
      subst e1; exact hd

theorem Bf (p : Nat → Bool) (a r : List UInt8) (ha : ∀ c ∈ a, p c.toNat = true) (hr : ∀ c s, r = c :: s → p c.toNat = false) : pre p (a ++ r) = a.length := by
  induction a with
  | nil =>
    cases r with
    | nil => rfl
    | cons c s => unfold pre; simp [hr c s rfl]
  | cons c a ih =>
    have h0 := ha c (by simp)
    have h1 := ih (fun d hd => ha d (by simp [hd]))
    unfold pre at h1 ⊢
    rw [List.cons_append, List.takeWhile_cons, if_pos h0, List.length_cons, h1, List.length_cons]
/-- Digits. -/
theorem nW : ∀ i, i < 10 → (UInt8.ofNat (48 + i)).toNat = 48 + i := by
  intro i h
  rw [UInt8.toNat_ofNat']; omega
theorem LY (n : Nat) : ∀ u, u ≤ n → ∀ c ∈ Lib.decDigits u, isDigit c.toNat = true := by
  induction n with
  | zero =>
    intro u hu c hc
    have : u = 0 := by omega
    subst this
    rw [Lib.decDigits_one (by omega)] at hc
    simp at hc; subst hc; decide
  | succ n ih =>
    intro u hu c hc
    rw [Lib.decDigits] at hc
    split at hc
    · rename_i h
      obtain rfl := List.mem_singleton.1 hc
      unfold isDigit; rw [nW u h]; simp; omega
    · rename_i h
      rcases List.mem_append.1 hc with hc | hc
      · exact ih (u / 10) (by omega) c hc
      · obtain rfl := List.mem_singleton.1 hc
        have : u % 10 < 10 := Nat.mod_lt _ (by omega)
        unfold isDigit; rw [nW _ this]; simp; omega
theorem EM (a b : List UInt8) : ∀ v, lY v (a ++ b) = (lY v a).bind fun x => lY x b := by
  induction a with
  | nil => intro v; rfl
  | cons c r ih =>
    intro v
    rw [List.cons_append, lY, lY]
    split
    · rfl
    · exact ih _
theorem numGo_dec (n : Nat) : ∀ u, u ≤ n → u ≤ 100000 → lY 0 (Lib.decDigits u) = some u := by
  induction n with
  | zero =>
    intro u hu _
    have : u = 0 := by omega
    subst this
    rw [Lib.decDigits_one (by omega)]; rfl
  | succ n ih =>
    intro u hu hl
    rw [Lib.decDigits]
    split
    · rename_i h
      rw [lY, nW u h, if_neg (by omega), lY]
      congr 1; omega
    · rename_i h
      have hm : u % 10 < 10 := Nat.mod_lt _ (by omega)
      rw [EM, ih (u / 10) (by omega) (by omega)]
      show lY (u / 10) [UInt8.ofNat (48 + u % 10)] = some u
      rw [lY, nW _ hm, if_neg (by omega), lY]
      congr 1; omega
theorem J7 (n : Nat) : ∀ u, u ≤ n → ∃ c r, Lib.decDigits u = c :: r ∧ (0 < u → c ≠ 48) := by
  induction n with
  | zero =>
    intro u hu
    have : u = 0 := by omega
    subst this
    rw [Lib.decDigits_one (by omega)]; exact ⟨_, _, rfl, fun h => by omega⟩
  | succ n ih =>
    intro u hu
    rw [Lib.decDigits]
    split
    · rename_i h
      refine ⟨_, _, rfl, fun h0 e => ?_⟩
      have := congrArg UInt8.toNat e
      rw [nW u h] at this
      have e48 : (48 : UInt8).toNat = 48 := rfl
      omega
    · rename_i h
      obtain ⟨c, r, e, hc⟩ := ih (u / 10) (by omega)
      rw [e]
      exact ⟨c, r ++ _, rfl, fun _ => hc (by omega)⟩
theorem num_dec (u : Nat) (h : u ≤ 100000) : num (Lib.decDigits u) = some u := by
  unfold num
  rw [if_neg, numGo_dec u u (Nat.le_refl _) h]
  rintro ⟨h1, h2⟩
  by_cases h10 : u < 10
  · rw [Lib.decDigits_one h10] at h1; simp at h1
  · obtain ⟨c, r, e, hc⟩ := J7 u u (Nat.le_refl _)
    rw [e] at h2; simp at h2
    exact hc (by omega) h2
theorem itoa_nat {n : Int} (h : small n = true) : Lib.itoa n = Lib.decDigits n.toNat := by
  have := nJ h
  unfold Lib.itoa; rw [if_neg (by omega)]

theorem EY {c : Nat} (h : eF c = true) : fI c = false ∧ c ≠ 47 := by
  unfold eF at h
  unfold fI
  simp only [Bool.or_eq_true, Bool.and_eq_true, beq_iff_eq, decide_eq_true_eq] at h
  refine ⟨?_, by omega⟩
  simp only [Bool.or_eq_false_iff, beq_eq_false_iff_ne]
  omega
theorem Iz {c : Nat} (h : isDigit c = true) : fI c = false ∧ c ≠ 47 ∧ eF c = false := by
  unfold isDigit at h
  unfold fI eF
  simp only [Bool.and_eq_true, decide_eq_true_eq] at h
  refine ⟨?_, by omega, ?_⟩
  · simp only [Bool.or_eq_false_iff, beq_eq_false_iff_ne]; omega
  · simp only [Bool.or_eq_false_iff, Bool.and_eq_false_iff, beq_eq_false_iff_ne, decide_eq_false_iff_not]; omega
theorem JF {b : List UInt8} (h : dZ b = true) (r : List UInt8) (hr : brk r) (line : Nat) (acc : List (Tok × Nat)) : lex (b ++ r) line acc = lex r line (acc ++ [(aC b, line)]) := by
  obtain ⟨c, s, rfl, hc, hl, hall⟩ := kP h
  obtain ⟨h1, h2⟩ := EY hc
  have hp : pre bZ (c :: s ++ r) = (c :: s).length := Bf bZ _ _ hall hr
  have e : gM (c :: s ++ r) = some (aC (c :: s), (c :: s).length) := by
    rw [List.cons_append] at hp ⊢
    rw [gM, if_pos hc, hp, if_neg (by omega)]
    rw [← List.cons_append, List.take_left]; rfl
  rw [List.cons_append] at e ⊢
  rw [nM c (s ++ r) line acc _ _ h1 (fun hh => h2 (by rw [hh.1]; rfl)) e, ← List.cons_append, List.drop_left]
theorem lex_int {n : Int} (h : small n = true) (r : List UInt8) (hr : brk r) (line : Nat) (acc : List (Tok × Nat)) : lex (Lib.itoa n ++ r) line acc = lex r line (acc ++ [(iY n, line)]) := by
  have hn := nJ h
  rw [itoa_nat h]
  have hd := LY n.toNat n.toNat (Nat.le_refl _)
  have hv := num_dec n.toNat (by omega)
  obtain ⟨c, s, ec, -⟩ := J7 n.toNat n.toNat (Nat.le_refl _)
  rw [ec] at hd hv ⊢
  have hc := hd c (by simp)
  obtain ⟨h1, h2, h3⟩ := Iz hc
  have hp : pre isDigit (c :: s ++ r) = (c :: s).length := Bf isDigit _ _ hd (fun c' s' e' => by
    have := hr c' s' e'
    unfold bZ at this
    simp only [Bool.or_eq_false_iff] at this
    exact this.2)
  have e : gM (c :: s ++ r) = some (iY n, (c :: s).length) := by
    rw [List.cons_append] at hp ⊢
    rw [gM, if_neg (by rw [h3]; simp), if_pos hc, hp, ← List.cons_append, List.take_left, hv]; rfl
  rw [List.cons_append] at e ⊢
  rw [nM c (s ++ r) line acc _ _ h1 (fun hh => h2 (by rw [hh.1]; rfl)) e, ← List.cons_append, List.drop_left]
theorem lex_sym {c : UInt8} (h : c ∈ En ∧ c ≠ 47) (r : List UInt8) (line : Nat) (acc : List (Tok × Nat)) : lex (c :: r) line acc = lex r line (acc ++ [(iU c, line)]) := by
  obtain ⟨h1, h2, h3, h4⟩ := yH c h.1
  have e : gM (c :: r) = some (iU c, 1) := by
    rw [gM, if_neg (by rw [h2]; simp), if_neg (by rw [h3]; simp), if_neg h4, if_pos h.1]; rfl
  rw [nM c r line acc _ _ h1 (fun hh => h.2 hh.1) e]; rfl

/-- Well-separated pieces are read as their tokens. -/
theorem C8 : ∀ (ps : List Pc) (b : Bool), qQ b ps = true → (∀ x ∈ ps, x.ok) → ∀ line acc, ∃ L : aU, lex (bytesOf ps) line acc = (acc ++ L, 0, 0) ∧ L.map (·.1) = aJ ps := by
  intro ps
  induction ps with
  | nil => intro b _ _ line acc; exact ⟨[], by rw [uo, lex_nil, List.append_nil], rfl⟩
  | cons x r ih =>
    intro b hs hok line acc
    have hx := hok x (by simp)
    have hr : ∀ y ∈ r, y.ok := fun y hy => hok y (by simp [hy])
    have hsr : qQ x.yI r = true := by simp [qQ] at hs; exact hs.2
    rw [mr]
    cases x with
    | word w =>
      obtain ⟨L, h1, h2⟩ := ih _ hsr hr line (acc ++ [(aC w, line)])
      refine ⟨(aC w, line) :: L, ?_, by rw [dU, List.map_cons, h2]; rfl⟩
      rw [show (Pc.word w).bytes = w from rfl, JF hx _ (J8 hsr hr), h1]; simp
    | int n =>
      obtain ⟨L, h1, h2⟩ := ih _ hsr hr line (acc ++ [(iY n, line)])
      refine ⟨(iY n, line) :: L, ?_, by rw [dU, List.map_cons, h2]; rfl⟩
      rw [show (Pc.int n).bytes = Lib.itoa n from rfl, lex_int hx _ (J8 hsr hr), h1]; simp
    | sym c =>
      obtain ⟨L, h1, h2⟩ := ih _ hsr hr line (acc ++ [(iU c, line)])
      refine ⟨(iU c, line) :: L, ?_, by rw [dU, List.map_cons, h2]; rfl⟩
      rw [show (Pc.sym c).bytes = [c] from rfl, List.singleton_append, lex_sym hx, h1]; simp
    | gap g =>
      obtain ⟨line', hl⟩ := hx.2 (bytesOf r) line acc
      obtain ⟨L, h1, h2⟩ := ih _ hsr hr line' acc
      exact ⟨L, by rw [show (Pc.gap g).bytes = g from rfl, hl, h1], by rw [dU, h2]; rfl⟩

theorem JW : GapOk [10] := ⟨⟨_, _, rfl, by decide⟩, Fj [10] (by decide)⟩
end Go.Proofs.YtbmglebipepdmaaGreatDoor
namespace Go.Proofs.YtbmglebipepdmaaGreatDoor
theorem Km (l : List Tm) : Jj l = l.map dz := by
  induction l with
  | nil => rfl
  | cons t r ih => rw [Jj, ih]; rfl
theorem jX (t : Tm) : dz t = Lc t (t.kids.map dz) := by
  cases t with
  | mk op name need ws kids => rw [dz, Km]; rfl

theorem Me (r : List (List Pc)) (sep : List Pc) : bytesOf (r.flatMap (sep ++ ·)) = Lib.joinTail (bytesOf sep) (r.map bytesOf) := by
  induction r with
  | nil => rfl
  | cons x r ih =>
    rw [List.flatMap_cons, aX, ih, aX]
    simp [Lib.joinTail]
theorem pF (l : List (List Pc)) (sep : List Pc) : bytesOf (kJ l sep) = Lib.join (l.map bytesOf) (bytesOf sep) := by
  cases l with
  | nil => rfl
  | cons x r => rw [kJ, aX, Me, List.map_cons, Lib.join_cons]
theorem bytes_par (ops : List Int) (t : Tm) (x : List Pc) : bytesOf (mM ops t x) = par ops t (bytesOf x) := by
  unfold mM par
  split
  · rw [aX, aX]; rfl
  · rfl
theorem DC (ws : List Int) : ∀ (l : List (List Pc)), (iq ws l).map bytesOf = weighed ws (l.map bytesOf) := by
  intro l
  unfold iq weighed
  split
  · rfl
  · induction l generalizing ws with
    | nil => simp
    | cons x r ih =>
      cases ws with
      | nil => simp
      | cons w ws =>
        rw [List.zipWith_cons_cons, List.map_cons, List.map_cons, List.zipWith_cons_cons]
        congr 1
        · rw [aX]; simp [bytesOf, Pc.bytes]
        · by_cases h0 : ws.length = 0
          · have : ws = [] := List.length_eq_zero_iff.1 h0
            subst this; simp
          · exact ih _ h0
theorem Gh (ops : List Int) (ks : List Tm) : ∀ (l : List (List Pc)), (List.zipWith (mM ops) ks l).map bytesOf = List.zipWith (par ops) ks (l.map bytesOf) := by
  induction ks with
  | nil => intro l; simp
  | cons k r ih =>
    intro l
    cases l with
    | nil => simp
    | cons x l => rw [List.zipWith_cons_cons, List.map_cons, List.map_cons, List.zipWith_cons_cons, ih, bytes_par]
theorem Mf (t : Tm) (l : List (List Pc)) : bytesOf (Lc t l) = vK t (l.map bytesOf) := by
  unfold Lc vK
  split
  · rw [pF, Gh]; rfl
  split
  · rw [pF, Gh]; rfl
  split
  · rw [aX, aX]
    cases l <;> rfl
  split
  · simp [bytesOf, Pc.bytes]
  split
  · simp [bytesOf, Pc.bytes]
  split
  · simp [bytesOf, Pc.bytes]
  split
  · rw [aX, aX, pF, DC]
    simp [bytesOf, Pc.bytes, qD]
  · simp [bytesOf, Pc.bytes]
theorem tm_bytes : ∀ (n : Nat) (t : Tm), au t ≤ n → bytesOf (dz t) = aS t := by
  intro n
  induction n with
  | zero =>
      intro t ht; have : 0 < au t := by (cases t; rw [au]; omega)
      omega
  | succ n ih =>
    intro t ht
    rw [jX, jH, Mf, List.map_map]
    congr 1
    refine List.map_congr_left fun k hk => ih k ?_
    have := bX hk
    have := fH t
    omega
theorem sV (t : Tm) : bytesOf (dz t) = aS t := tm_bytes _ t (Nat.le_refl _)

theorem neat_line : dJ [.gap [10]] := ⟨rfl, fun x hx => by simp at hx; subst hx; exact JW⟩
theorem mo {b : List UInt8} (h : dZ b = true) : dJ [.word b] := ⟨rfl, fun x hx => by simp at hx; subst hx; exact h⟩
theorem yc {n : Int} (h : small n = true) : dJ [.int n] := ⟨rfl, fun x hx => by simp at hx; subst hx; exact h⟩
theorem dJ.oL {w : List UInt8} {c : UInt8} {b : List Pc} (hw : dZ w = true) (hb : dJ (.sym c :: b)) : dJ (.word w :: .sym c :: b) := dJ.ahead (a := [.word w]) (mo hw) hb (fun d => by rw [mW]; have := hb.1; rwa [mW] at this)
theorem dJ.gN {w : List UInt8} {c : List UInt8} {b : List Pc} (hw : dZ w = true) (hb : dJ (.gap c :: b)) : dJ (.word w :: .gap c :: b) := dJ.ahead (a := [.word w]) (mo hw) hb (fun d => by rw [mX]; have := hb.1; rwa [mX] at this)
theorem dJ.intSym {w : Int} {c : UInt8} {b : List Pc} (hw : small w = true) (hb : dJ (.sym c :: b)) : dJ (.int w :: .sym c :: b) := dJ.ahead (a := [.int w]) (yc hw) hb (fun d => by rw [mW]; have := hb.1; rwa [mW] at this)
theorem dJ.intGap {w : Int} {c : List UInt8} {b : List Pc} (hw : small w = true) (hb : dJ (.gap c :: b)) : dJ (.int w :: .gap c :: b) := dJ.ahead (a := [.int w]) (yc hw) hb (fun d => by rw [mX]; have := hb.1; rwa [mX] at this)
theorem dJ.xG {a b : List Pc} {c : UInt8} (ha : dJ a) (hb : dJ (.sym c :: b)) : dJ (a ++ .sym c :: b) := ha.ahead hb (fun d => by rw [mW]; have := hb.1; rwa [mW] at this)
theorem dJ.Ce {a b : List Pc} {c : List UInt8} (ha : dJ a) (hb : dJ (.gap c :: b)) : dJ (a ++ .gap c :: b) := ha.ahead hb (fun d => by rw [mX]; have := hb.1; rwa [mX] at this)

/-- A separator: a symbol or gap at both ends. -/
def SepOk (sep : List Pc) : Prop := dJ sep ∧ (∀ b, qQ b sep = true) ∧ (∀ b, ends b sep = false)
theorem andSep_ok : SepOk xH := ⟨(dJ.sym rW).gap, fun b => by simp [xH, mX, mW, CB], fun b => rfl⟩
theorem Jy : SepOk qR := ⟨(dJ.sym rW).gap, fun b => by simp [qR, mX, mW, CB], fun b => rfl⟩
theorem Gb : SepOk qD := ⟨dJ.sym rW, fun b => by simp [qD, mX, mW, CB], fun b => rfl⟩
theorem neat_tail {sep : List Pc} (hs : SepOk sep) (r : List (List Pc)) (h : ∀ x ∈ r, dJ x) : dJ (r.flatMap (sep ++ ·)) ∧ ∀ b, qQ b (r.flatMap (sep ++ ·)) = true := by
  induction r with
  | nil => exact ⟨.nil, fun _ => rfl⟩
  | cons x r ih =>
    obtain ⟨h1, h2⟩ := ih (fun y hy => h y (by simp [hy]))
    have hx : dJ (sep ++ x) := hs.1.behind (h x (by simp)) (hs.2.2 _)
    rw [List.flatMap_cons]
    refine ⟨hx.ahead h1 h2, fun b => ?_⟩
    rw [pY, pY, hs.2.1, hs.2.2, (h x (by simp)).1, h2]; rfl
theorem qV {sep : List Pc} (hs : SepOk sep) (l : List (List Pc)) (h : ∀ x ∈ l, dJ x) : dJ (kJ l sep) := by
  cases l with
  | nil => exact .nil
  | cons x r =>
    obtain ⟨h1, h2⟩ := neat_tail hs r (fun y hy => h y (by simp [hy]))
    exact (h x (by simp)).ahead h1 h2
theorem JB (ops : List Int) (t : Tm) (x : List Pc) (h : dJ x) : dJ (mM ops t x) := by
  unfold mM
  split
  · rw [List.append_assoc]; exact dJ.sym (h.xG iL)
  · exact h
theorem dh {x : ByteArray} (h : aP x = true) : dZ x.data.toList = true := by
  unfold aP at h
  rw [Bool.and_eq_true] at h
  exact h.1
theorem GX : dZ ((⟨#[115, 101, 114, 118, 101, 114, 115]⟩ : ByteArray)).data.toList = true := by decide
/-- Names that stand in parentheses behind a function. -/
theorem o9 {x : ByteArray} (h : (aP x || x == (⟨#[115, 101, 114, 118, 101, 114, 115]⟩ : ByteArray)) = true) : dZ x.data.toList = true := by
  rw [Bool.or_eq_true] at h
  rcases h with h | h
  · exact dh h
  · rw [(gY _ _).1 h]; exact GX
theorem vJ (nm : ByteArray) (nd : Int) (ws : List Int) (ks : List Tm) : bO (.mk 1 nm nd ws ks) = (aP nm && bare (.mk 1 nm nd ws ks)) := rfl
theorem vI (nm : ByteArray) (nd : Int) (ws : List Int) (ks : List Tm) : bO (.mk 2 nm nd ws ks) = (decide (nm.size = 0) && small nd && decide (0 < ks.length) && (decide (ws.length = 0) || decide (ws.length = ks.length))) := rfl
theorem vH (nm : ByteArray) (nd : Int) (ws : List Int) (ks : List Tm) : bO (.mk 5 nm nd ws ks) = (decide (nm.size = 0) && decide (nd = 0) && decide (ws.length = 0) && decide (ks.length = 1)) := rfl
theorem vG (nm : ByteArray) (nd : Int) (ws : List Int) (ks : List Tm) : bO (.mk 6 nm nd ws ks) = ((aP nm || nm == (⟨#[115, 101, 114, 118, 101, 114, 115]⟩ : ByteArray)) && bare (.mk 6 nm nd ws ks)) := rfl
theorem vF (nm : ByteArray) (nd : Int) (ws : List Int) (ks : List Tm) : bO (.mk 7 nm nd ws ks) = ((aP nm || nm == (⟨#[115, 101, 114, 118, 101, 114, 115]⟩ : ByteArray)) && bare (.mk 7 nm nd ws ks)) := rfl
theorem vE (nm : ByteArray) (nd : Int) (ws : List Int) (ks : List Tm) : bO (.mk 8 nm nd ws ks) = ((aP nm || nm == (⟨#[115, 101, 114, 118, 101, 114, 115]⟩ : ByteArray)) && bare (.mk 8 nm nd ws ks)) := rfl
theorem zQ {op : Int} {nm : ByteArray} {nd : Int} {ws : List Int} {ks : List Tm} (h : bO (.mk op nm nd ws ks) = true) : op = 1 ∨ op = 2 ∨ op = 3 ∨ op = 4 ∨ op = 5 ∨ op = 6 ∨ op = 7 ∨ op = 8 := by
  apply Decidable.byContradiction
  intro hn
  have e : bO (.mk op nm nd ws ks) = false := by
    unfold bO
    show (if op = 1 then _ else if op = 6 ∨ op = 7 ∨ op = 8 then _ else if op = 2 then _ else if op = 3 ∨ op = 4 then _ else if op = 5 then _ else false) = false
    rw [if_neg (by omega), if_neg (by omega), if_neg (by omega), if_neg (by omega), if_neg (by omega)]
  rw [e] at h; cases h
theorem pcs1 (nm : ByteArray) (nd : Int) (ws : List Int) (ks : List Tm) : dz (.mk 1 nm nd ws ks) = [.word nm.data.toList] := by rw [jX]; rfl
theorem pcs2 (nm : ByteArray) (nd : Int) (ws : List Int) (ks : List Tm) : dz (.mk 2 nm nd ws ks) = [.int nd, .sym 40] ++ kJ (iq ws (ks.map dz)) qD ++ [.sym 41] := by rw [jX]; rfl
theorem zipP {α : Type} (f : Tm → List Pc → α) (g : Tm → List Pc) (l : List Tm) : List.zipWith f l (l.map g) = l.map (fun k => f k (g k)) := by
  induction l with
  | nil => rfl
  | cons x r ih => simp [ih]
theorem pcs3 (nm : ByteArray) (nd : Int) (ws : List Int) (ks : List Tm) : dz (.mk 3 nm nd ws ks) = kJ (ks.map fun k => mM [3, 4] k (dz k)) xH := by rw [jX]; show kJ (List.zipWith (mM [3, 4]) ks (ks.map dz)) xH = _; rw [zipP]
theorem pcs4 (nm : ByteArray) (nd : Int) (ws : List Int) (ks : List Tm) : dz (.mk 4 nm nd ws ks) = kJ (ks.map fun k => mM [4] k (dz k)) qR := by rw [jX]; show kJ (List.zipWith (mM [4]) ks (ks.map dz)) qR = _; rw [zipP]
theorem pcs5 (nm : ByteArray) (nd : Int) (ws : List Int) (k : Tm) : dz (.mk 5 nm nd ws [k]) = [.word [100, 117, 97, 108], .sym 40] ++ dz k ++ [.sym 41] := by rw [jX]; rfl
theorem pcs6 (nm : ByteArray) (nd : Int) (ws : List Int) (ks : List Tm) : dz (.mk 6 nm nd ws ks) = [.word [109, 97, 106, 111, 114, 105, 116, 121], .sym 40, .word nm.data.toList, .sym 41] := by rw [jX]; rfl
theorem pcs7 (nm : ByteArray) (nd : Int) (ws : List Int) (ks : List Tm) : dz (.mk 7 nm nd ws ks) = [.word [97, 108, 108], .sym 40, .word nm.data.toList, .sym 41] := by rw [jX]; rfl
theorem pcs8 (nm : ByteArray) (nd : Int) (ws : List Int) (ks : List Tm) : dz (.mk 8 nm nd ws ks) = [.word [97, 110, 121], .sym 40, .word nm.data.toList, .sym 41] := by rw [jX]; rfl
theorem qN {ws : List Int} {ls : List (List Pc)} {x : List Pc} (h : x ∈ iq ws ls) : ∃ y ∈ ls, x = y ∨ ∃ w ∈ ws, x = y ++ [.sym 42, .int w] := by
  unfold iq at h
  split at h
  · exact ⟨x, h, Or.inl rfl⟩
  · obtain ⟨i, hi, rfl⟩ := List.mem_iff_getElem.1 h
    rw [List.length_zipWith] at hi
    exact ⟨ls[i], List.getElem_mem _, Or.inr ⟨ws[i], List.getElem_mem _, by simp⟩⟩
theorem tm_neat : ∀ (n : Nat) (t : Tm), au t ≤ n → dX t = true → dJ (dz t) := by
  intro n
  induction n with
  | zero =>
      intro t ht; have : 0 < au t := by (cases t; rw [au]; omega)
      omega
  | succ n ih =>
    intro t ht hok
    obtain ⟨h1, h2, h3⟩ := nC hok
    have hs := fH t
    obtain ⟨op, nm, nd, ws, ks⟩ := t
    have hk : ∀ k ∈ ks, dJ (dz k) := fun k hk => ih k (by have := bX hk; have hs : au (.mk op nm nd ws ks) = 1 + nm.size + ws.length + aR ks := hs; omega) (h3 k hk)
    have h2 : ∀ w ∈ ws, small w = true := h2
    rcases zQ h1 with rfl | rfl | rfl | rfl | rfl | rfl | rfl | rfl
    · rw [vJ, Bool.and_eq_true] at h1
      rw [pcs1]; exact mo (dh h1.1)
    · rw [vI] at h1
      simp only [Bool.and_eq_true] at h1
      rw [pcs2, List.append_assoc]
      refine dJ.intSym h1.1.1.2 (dJ.sym ?_)
      refine dJ.xG (qV Gb _ fun x hx => ?_) iL
      obtain ⟨y, hy, hxy⟩ := qN hx
      obtain ⟨k, hkk, rfl⟩ := List.mem_map.1 hy
      rcases hxy with rfl | ⟨w, hw, rfl⟩
      · exact hk k hkk
      · exact (hk k hkk).xG (dJ.sym (yc (h2 w hw)))
    · rw [pcs3]
      refine qV andSep_ok _ fun x hx => ?_
      obtain ⟨k, hkk, rfl⟩ := List.mem_map.1 hx
      exact JB _ _ _ (hk k hkk)
    · rw [pcs4]
      refine qV Jy _ fun x hx => ?_
      obtain ⟨k, hkk, rfl⟩ := List.mem_map.1 hx
      exact JB _ _ _ (hk k hkk)
    · rw [vH] at h1
      simp only [Bool.and_eq_true, decide_eq_true_eq] at h1
      obtain ⟨k, rfl⟩ := List.length_eq_one_iff.1 h1.2
      rw [pcs5, List.append_assoc]
      exact dJ.oL (by decide) (dJ.sym ((hk k (by simp)).xG iL))
    · rw [vG, Bool.and_eq_true] at h1
      rw [pcs6]; exact dJ.oL (by decide) (dJ.sym (dJ.oL (o9 h1.1) iL))
    · rw [vF, Bool.and_eq_true] at h1
      rw [pcs7]; exact dJ.oL (by decide) (dJ.sym (dJ.oL (o9 h1.1) iL))
    · rw [vE, Bool.and_eq_true] at h1
      rw [pcs8]; exact dJ.oL (by decide) (dJ.sym (dJ.oL (o9 h1.1) iL))
theorem oZ {t : Tm} (h : dX t = true) : dJ (dz t) := tm_neat _ t (Nat.le_refl _) h
end Go.Proofs.YtbmglebipepdmaaGreatDoor
namespace Go.Proofs.YtbmglebipepdmaaGreatDoor
theorem jY {x : ByteArray} (h : x.size = 0) : x = bs [] := by
  rw [← dR x]
  have : x.data.toList.length = 0 := by simpa using h
  rw [List.length_eq_zero_iff.1 this]
end Go.Proofs.YtbmglebipepdmaaGreatDoor
namespace Go.Proofs.YtbmglebipepdmaaGreatDoor
def nameP (x : ByteArray) : List Pc := [.word x.data.toList]
def iy (l : List ByteArray) : List Pc := kJ (l.map nameP) qD
def jS (w : List UInt8) (l : List ByteArray) : List Pc := [.word w, .gap [32], .sym 123, .gap [32]] ++ (iy l ++ [.gap [32], .sym 125])
def Ev (f : Ft) : List Pc :=
  if f.aH.length = 0 then jS [99, 114, 97, 115, 104] f.ax
  else if f.ax.length = 0 then jS [98, 121, 122] f.aH
  else jS [98, 121, 122] f.aH ++ (.gap [32] :: jS [99, 114, 97, 115, 104] f.ax)
def ftP (f : Ft) : List Pc :=
  if f.op = 1 then [.word [110, 111, 110, 101]]
  else if f.op = 2 then [.word [116, 104, 114, 101, 115, 104, 111, 108, 100], .gap [32], .int f.byz, .gap [32], .int f.kW]
  else if f.op = 4 then [.word [115, 105, 116, 101], .gap [32], .word f.name.data.toList, .gap [32], .word [98, 121, 122]]
  else if f.op = 5 then [.word [115, 105, 116, 101], .gap [32], .word f.name.data.toList, .gap [32], .word [99, 114, 97, 115, 104]]
  else if f.op = 3 then Ev f
  else [.word f.name.data.toList]
def dcP (d : Dc) : List Pc :=
  if d.kind = 1 then [.word [115, 105, 116, 101], .gap [32], .word d.name.data.toList, .gap [32], .sym 123, .gap [32]] ++ (iy d.names ++ [.gap [32], .sym 125, .sym 59])
  else if d.kind = 2 then [.word [102, 97, 117, 108, 116, 115], .gap [32], .word d.name.data.toList, .gap [32], .sym 61, .gap [32]] ++ (kJ (d.faults.map ftP) qR ++ [.sym 59])
  else if d.kind = 3 then [.word [113, 117, 111, 114, 117, 109], .gap [32], .word d.name.data.toList, .gap [32], .sym 61, .gap [32]] ++ (dz d.term ++ [.sym 59])
  else if d.kind = 4 then [.word [99, 111, 110, 102, 105, 103], .gap [32], .word d.name.data.toList, .gap [32], .word d.proto.data.toList, .gap [32], .word [114, 101, 97, 100], .gap [32]] ++ (dz d.read ++ (.gap [32] :: .word [119, 114, 105, 116, 101] :: .gap [32] :: (dz d.write ++ [.gap [32], .word [102, 97, 117, 108, 116, 115], .gap [32], .word d.use.data.toList, .sym 59])))
  else if d.kind = 5 then [.word [119, 105, 116, 110, 101, 115, 115], .gap [32]] ++ (iy d.names ++ [.sym 59])
  else if d.kind = 7 then [.word [99, 104, 97, 105, 110], .gap [32]] ++ (iy d.names ++ [.sym 59])
  else if d.use.size = 0 then [.word [99, 108, 105, 101, 110, 116], .gap [32], .word d.name.data.toList, .sym 59]
  else [.word [99, 108, 105, 101, 110, 116], .gap [32], .word d.name.data.toList, .gap [32], .word [102, 97, 117, 108, 116, 115], .gap [32], .word d.use.data.toList, .sym 59]
def qL (l : List Dc) : List Pc := l.flatMap fun d => dcP d ++ [.gap [10]]

theorem qg (l : List ByteArray) : bytesOf (iy l) = eD l := by
  unfold iy eD joined
  rw [pF]
  have e : (l.map nameP).map bytesOf = lst l := by
    unfold lst
    rw [List.map_map]
    refine List.map_congr_left fun x _ => ?_
    simp [nameP, bytesOf, Pc.bytes]
  rw [e]; rfl
theorem oI (w : List UInt8) (l : List ByteArray) : bytesOf (jS w l) = mE w l := by
  unfold jS mE
  rw [aX, aX, qg]
  simp [bytesOf, Pc.bytes]
theorem ft_bytes {f : Ft} (h : aZ f = true) : bytesOf (ftP f) = iB f := by
  unfold ftP iB
  split
  · rfl
  split
  · simp [bytesOf, Pc.bytes]
  split
  · simp [bytesOf, Pc.bytes]
  split
  · simp [bytesOf, Pc.bytes]
  split
  · rename_i h1 h2 h4 h5 h3
    have hn : 0 < f.aH.length + f.ax.length := by
      unfold aZ at h
      rw [if_neg h1, if_neg h2, if_pos h3] at h
      simp only [Bool.and_eq_true, gH, decide_eq_true_eq] at h
      exact h.1.1.2
    unfold Ev pX
    by_cases hb : f.aH.length = 0
    · have hc : f.ax.length ≠ 0 := by omega
      rw [if_pos hb, if_pos hb, if_neg hc, oI, List.nil_append, Lib.join_one]
    · rw [if_neg hb, if_neg hb]
      by_cases hc : f.ax.length = 0
      · rw [if_pos hc, if_pos hc, oI, List.append_nil, Lib.join_one]
      · rw [if_neg hc, if_neg hc, aX, mr, oI, oI, List.singleton_append, Lib.join_cons]
        simp [Lib.joinTail, Pc.bytes]
  · simp [bytesOf, Pc.bytes]
theorem dc_bytes {d : Dc} (h : d.faults.all aZ = true) : bytesOf (dcP d) = fT d := by
  unfold dcP fT
  split
  · rw [aX, aX, qg]; simp [bytesOf, Pc.bytes]
  split
  · rw [aX, aX, pF, List.map_map]
    have e : d.faults.map (bytesOf ∘ ftP) = d.faults.map iB := List.map_congr_left fun f hf => ft_bytes (List.all_eq_true.1 h f hf)
    rw [e]; simp [bytesOf, Pc.bytes, qR]
  split
  · rw [aX, aX, sV]; simp [bytesOf, Pc.bytes]
  split
  · simp only [aX, mr, uo, sV]; simp [Pc.bytes]
  split
  · rw [aX, aX, qg]; simp [bytesOf, Pc.bytes]
  split
  · rw [aX, aX, qg]; simp [bytesOf, Pc.bytes]
  split
  · simp [bytesOf, Pc.bytes]
  · simp [bytesOf, Pc.bytes]

theorem tO {l : List ByteArray} (h : aY l = true) : ∀ x ∈ l, aP x = true := List.all_eq_true.1 h
theorem rX {l : List ByteArray} (h : aY l = true) : dJ (iy l) := by
  refine qV Gb _ fun x hx => ?_
  obtain ⟨y, hy, rfl⟩ := List.mem_map.1 hx
  exact mo (dh (tO h y hy))
theorem qA {w : List UInt8} {l : List ByteArray} (hw : dZ w = true) (h : aY l = true) : dJ (jS w l) :=
  dJ.gN hw (dJ.gap (dJ.sym (dJ.gap ((rX h).Ce (dJ.gap iL)))))
theorem ft_ok {f : Ft} (h : aZ f = true) : (f.op = 1 ∧ f = ⟨1, bs [], 0, 0, [], []⟩) ∨ (f.op = 2 ∧ small f.byz = true ∧ small f.kW = true ∧ f = ⟨2, bs [], f.byz, f.kW, [], []⟩) ∨
    (f.op = 3 ∧ 0 < f.aH.length + f.ax.length ∧ aY f.aH = true ∧ aY f.ax = true ∧ f = ⟨3, bs [], 0, 0, f.aH, f.ax⟩) ∨
    ((f.op = 4 ∨ f.op = 5 ∨ f.op = 6) ∧ aP f.name = true ∧ f = ⟨f.op, f.name, 0, 0, [], []⟩) := by
  obtain ⟨op, nm, x, y, bl, cl⟩ := f
  unfold aZ at h
  simp only at h
  have named : ∀ (o : Int), gH ⟨o, nm, x, y, bl, cl⟩ = false → bl = [] ∧ cl = [] := by
    intro o ho
    have : ¬ 0 < bl.length + cl.length := of_decide_eq_false ho
    exact ⟨List.length_eq_zero_iff.1 (by omega), List.length_eq_zero_iff.1 (by omega)⟩
  have numbered : ∀ (o : Int), dB ⟨o, nm, x, y, bl, cl⟩ = false → x = 0 ∧ y = 0 := by
    intro o ho
    have : (!decide (x = 0) || !decide (y = 0)) = false := ho
    simpa using this
  split at h
  · rename_i h1
    subst h1
    simp only [Bool.and_eq_true, decide_eq_true_eq, Bool.not_eq_true'] at h
    obtain ⟨rfl, rfl⟩ := named _ h.2
    obtain ⟨rfl, rfl⟩ := numbered _ h.1.2
    exact Or.inl ⟨rfl, by rw [jY h.1.1]⟩
  split at h
  · rename_i h1
    subst h1
    simp only [Bool.and_eq_true, decide_eq_true_eq, Bool.not_eq_true'] at h
    obtain ⟨rfl, rfl⟩ := named _ h.2
    exact Or.inr (Or.inl ⟨rfl, h.1.1.2, h.1.2, by rw [jY h.1.1.1]⟩)
  split at h
  · rename_i h1
    subst h1
    simp only [Bool.and_eq_true, decide_eq_true_eq, Bool.not_eq_true'] at h
    obtain ⟨rfl, rfl⟩ := numbered _ h.1.1.1.2
    exact Or.inr (Or.inr (Or.inl ⟨rfl, of_decide_eq_true h.1.1.2, h.1.2, h.2, by rw [jY h.1.1.1.1]⟩))
  split at h
  · rename_i h1
    simp only [Bool.and_eq_true, Bool.not_eq_true'] at h
    obtain ⟨rfl, rfl⟩ := named _ h.2
    obtain ⟨rfl, rfl⟩ := numbered _ h.1.2
    exact Or.inr (Or.inr (Or.inr ⟨h1, h.1.1, rfl⟩))
  · cases h
theorem sets_neat {f : Ft} (h1 : aY f.aH = true) (h2 : aY f.ax = true) : dJ (Ev f) := by
  unfold Ev
  split
  · exact qA (by decide) h2
  split
  · exact qA (by decide) h1
  · exact (qA (by decide) h1).Ce (dJ.gap (qA (by decide) h2))
theorem ft_neat {f : Ft} (h : aZ f = true) : dJ (ftP f) := by
  rcases ft_ok h with ⟨h1, -⟩ | ⟨h1, h2, h3, -⟩ | ⟨h1, -, h3, h4, -⟩ | ⟨h1, h2, -⟩
  · unfold ftP; rw [if_pos h1]; exact mo (by decide)
  · unfold ftP; rw [if_neg (by omega), if_pos h1]
    exact dJ.gN (by decide) (dJ.gap (dJ.intGap h2 (dJ.gap (yc h3))))
  · unfold ftP; rw [if_neg (by omega), if_neg (by omega), if_neg (by omega), if_neg (by omega), if_pos h1]
    exact sets_neat h3 h4
  · unfold ftP
    rcases h1 with h1 | h1 | h1
    · rw [if_neg (by omega), if_neg (by omega), if_pos h1]
      exact dJ.gN (by decide) (dJ.gap (dJ.gN (dh h2) (dJ.gap (mo (by decide)))))
    · rw [if_neg (by omega), if_neg (by omega), if_neg (by omega), if_pos h1]
      exact dJ.gN (by decide) (dJ.gap (dJ.gN (dh h2) (dJ.gap (mo (by decide)))))
    · rw [if_neg (by omega), if_neg (by omega), if_neg (by omega), if_neg (by omega), if_neg (by omega)]
      exact mo (dh h2)
theorem dc_neat {d : Dc} (h0 : iE d = true) : dJ (dcP d) := by
  have h := xK h0
  unfold dcP
  rcases rD h with hk | hk | hk | hk | hk | hk | hk
  · rw [if_pos hk]
    have hn := eG h (by rw [hk]; rfl)
    exact dJ.gN (by decide) (dJ.gap (dJ.gN (dh hn) (dJ.gap (dJ.sym (dJ.gap ((rX h.names).Ce (dJ.gap (dJ.sym iL))))))))
  · rw [if_neg (by omega), if_pos hk]
    have hn := eG h (by rw [hk]; rfl)
    refine dJ.gN (by decide) (dJ.gap (dJ.gN (dh hn) (dJ.gap (dJ.sym (dJ.gap (dJ.xG (qV Jy _ fun x hx => ?_) iL))))))
    obtain ⟨f, hf, rfl⟩ := List.mem_map.1 hx
    exact ft_neat (List.all_eq_true.1 h.faults f hf)
  · rw [if_neg (by omega), if_neg (by omega), if_pos hk]
    have hn := eG h (by rw [hk]; rfl)
    have ht : dX d.term = true := by have := h.term; rw [hk] at this; exact this
    exact dJ.gN (by decide) (dJ.gap (dJ.gN (dh hn) (dJ.gap (dJ.sym (dJ.gap ((oZ ht).xG iL))))))
  · rw [if_neg (by omega), if_neg (by omega), if_neg (by omega), if_pos hk]
    have hn := eG h (by rw [hk]; rfl)
    obtain ⟨hp, hr, hw, hu⟩ := wM h (by rw [hk]; rfl)
    exact dJ.gN (by decide) (dJ.gap (dJ.gN (dh hn) (dJ.gap (dJ.gN (uO hp) (dJ.gap (dJ.gN (by decide) (dJ.gap
      ((oZ hr).Ce (dJ.gap (dJ.gN (by decide) (dJ.gap ((oZ hw).Ce (dJ.gap (dJ.gN (by decide) (dJ.gap (dJ.oL (dh hu) iL))))))))))))))))
  · rw [if_neg (by omega), if_neg (by omega), if_neg (by omega), if_neg (by omega), if_pos hk]
    exact dJ.gN (by decide) (dJ.gap ((rX h.names).xG iL))
  · rw [if_neg (by omega), if_neg (by omega), if_neg (by omega), if_neg (by omega), if_neg (by omega), if_neg (by omega)]
    have hn := eG h (by rw [hk]; rfl)
    split
    · exact dJ.gN (by decide) (dJ.gap (dJ.oL (dh hn) iL))
    · rename_i hu
      have hu2 : aP d.use = true := by
          rcases h.use with h | h
          · exact absurd h hu
          · exact h
      exact dJ.gN (by decide) (dJ.gap (dJ.gN (dh hn) (dJ.gap (dJ.gN (by decide) (dJ.gap (dJ.oL (dh hu2) iL))))))
  · rw [if_neg (by omega), if_neg (by omega), if_neg (by omega), if_neg (by omega), if_neg (by omega), if_pos hk]
    exact dJ.gN (by decide) (dJ.gap ((rX h.names).xG iL))
theorem vT {l : List Dc} (h : l.all iE = true) : bytesOf (qL l) = dn l := by
  unfold qL dn
  induction l with
  | nil => rfl
  | cons d r ih =>
    rw [List.all_cons, Bool.and_eq_true] at h
    rw [List.flatMap_cons, List.flatMap_cons, aX, aX, ih h.2, dc_bytes (xK h.1).faults]; rfl
theorem Dx {l : List Dc} (h : l.all iE = true) : dJ (qL l) := by
  unfold qL
  induction l with
  | nil => exact .nil
  | cons d r ih =>
    rw [List.all_cons, Bool.and_eq_true] at h
    rw [List.flatMap_cons]
    refine dJ.behind ((dc_neat h.1).Ce neat_line) (ih h.2) ?_
    have : ∀ (l : List Pc) b, ends b (l ++ [.gap [10]]) = false := by
      intro l
      induction l with
      | nil => intro b; rfl
      | cons x r ih => intro b; exact ih _
    exact this _ _
end Go.Proofs.YtbmglebipepdmaaGreatDoor
namespace Go.Proofs.YtbmglebipepdmaaGreatDoor
end Go.Proofs.YtbmglebipepdmaaGreatDoor
namespace Go.Proofs.YtbmglebipepdmaaGreatDoor
theorem vR (l : List Dc) : aJ (qL l) = (l.map fun d => aJ (dcP d)).flatten := by
  unfold qL
  induction l with
  | nil => rfl
  | cons d r ih => rw [List.flatMap_cons, aI, ih, aI]; simp [aJ, Pc.toks]
end Go.Proofs.YtbmglebipepdmaaGreatDoor
namespace Go.Proofs.YtbmglebipepdmaaGreatDoor
/-- No error ahead of the end. -/
theorem L6 {l : List Dc} : ∀ {pre : List Dc}, (jh pre l).2 = 0 → (∀ i (h : i < l.length), jF (pre ++ l.take i) l[i] = 0) ∧ 0 < aN (pre ++ l) ∧ 0 < fu 4 (pre ++ l) := by
  induction l with
  | nil =>
    intro pre h
    rw [jh] at h
    split at h
    · cases h
    · exact ⟨fun i hi => by simp at hi, by rw [List.append_nil]; omega, by rw [List.append_nil]; omega⟩
  | cons d r ih =>
    intro pre h
    rw [jh] at h
    split at h
    · rename_i hne
      exact absurd h hne
    · rename_i h0
      obtain ⟨h1, h2, h3⟩ := ih h
      rw [List.append_assoc, List.singleton_append] at h2 h3
      refine ⟨fun i hi => ?_, h2, h3⟩
      cases i with
      | zero => rw [List.take_zero, List.append_nil]; exact Decidable.not_not.1 h0
      | succ i =>
        have := h1 i (by simpa using hi)
        rw [List.append_assoc, List.singleton_append] at this
        exact this
theorem BS {l : List Dc} : ∀ {pre : List Dc}, (∀ i (h : i < l.length), jF (pre ++ l.take i) l[i] = 0) → jh pre l = if aN (pre ++ l) = 0 ∨ fu 4 (pre ++ l) = 0 then (0, 9) else (0, 0) := by
  induction l with
  | nil => intro pre _; rw [jh, List.append_nil]
  | cons d r ih =>
    intro pre h
    have h0 := h 0 (by simp)
    rw [List.take_zero, List.append_nil] at h0
    rw [jh, if_neg (by rw [Decidable.not_not]; exact h0), ih (fun i hi => ?_)]
    · rw [List.append_assoc, List.singleton_append]
    · have := h (i + 1) (by simpa using hi)
      rw [List.take_succ_cons] at this
      rw [List.append_assoc, List.singleton_append]
      exact this
theorem BQ {l : List Dc} (h : (fZ l).2 = 0) : (cO l).2 = 0 ∧ (∀ i (h : i < l.length), jF (l.take i) l[i] = 0) ∧ 0 < aN l ∧ 0 < fu 4 l ∧ fZ l = (0, 0) := by
  unfold fZ at h ⊢
  by_cases hf : (cO l).2 = 0
  · rw [if_neg (by rw [Decidable.not_not]; exact hf)] at h ⊢
    obtain ⟨h1, h2, h3⟩ := L6 h
    simp only [List.nil_append] at h1 h2 h3
    refine ⟨hf, h1, h2, h3, ?_⟩
    rw [BS (by simpa using h1)]
    simp only [List.nil_append]
    rw [if_neg (by omega)]
  · rw [if_pos hf] at h
    exact absurd h hf
theorem BR {l : List Dc} (hf : (cO l).2 = 0) (h : ∀ i (h : i < l.length), jF (l.take i) l[i] = 0) : fZ l = if aN l = 0 ∨ fu 4 l = 0 then (0, 9) else (0, 0) := by
  unfold fZ
  rw [if_neg (by rw [Decidable.not_not]; exact hf), BS (by simpa using h)]
  simp only [List.nil_append]
end Go.Proofs.YtbmglebipepdmaaGreatDoor
namespace Go.Proofs.YtbmglebipepdmaaGreatDoor
theorem yJ {l : List Dc} (h : l.all iE = true) : nK (dn l) = (decide ((dn l).length ≤ 65536) && decide ((aJ (qL l)).length ≤ 3000)) := by
  have hn := Dx h
  obtain ⟨L, h1, h2⟩ := C8 (qL l) false hn.1 hn.2 1 []
  have hll : L.length = (aJ (qL l)).length := by rw [← List.length_map (f := (·.1)), h2]
  rw [vT h, List.nil_append] at h1
  unfold nK
  rw [h1, ← hll]
  simp
theorem nS {l : List Dc} (h : (cO l).2 = 0) : l.all iE = true ∧ (dn l).length ≤ 65536 ∧ (aJ (qL l)).length ≤ 3000 := by
  unfold cO at h
  by_cases ho : l.all iE = true
  · rw [if_pos ho] at h
    unfold iO at h
    by_cases hs : nK (dn l) = true
    · rw [yJ ho] at hs
      simp only [Bool.and_eq_true, decide_eq_true_eq] at hs
      exact ⟨ho, hs⟩
    · rw [if_neg hs] at h; simp at h
  · rw [if_neg ho] at h; simp at h
theorem Fv {l : List Dc} (h : l.all iE = true) (h1 : (dn l).length ≤ 65536) (h2 : (aJ (qL l)).length ≤ 3000) : (cO l).2 = 0 := by
  unfold cO
  rw [if_pos h]
  unfold iO
  rw [if_pos (by rw [yJ h]; simp only [Bool.and_eq_true, decide_eq_true_eq]; exact ⟨h1, h2⟩)]
theorem JY {α β : Type} (f : α → List β) {m l : List α} (h : m.Sublist l) : (m.flatMap f).length ≤ (l.flatMap f).length := by
  induction h with
  | slnil => exact Nat.le_refl _
  | cons a h ih => rw [List.flatMap_cons, List.length_append]; omega
  | cons_cons a h ih => rw [List.flatMap_cons, List.flatMap_cons, List.length_append, List.length_append]; omega
theorem BF {m l : List Dc} (hs : m.Sublist l) (h : (cO l).2 = 0) : (cO m).2 = 0 := by
  obtain ⟨h1, h2, h3⟩ := nS h
  refine Fv (List.all_eq_true.2 fun d hd => List.all_eq_true.1 h1 d (hs.subset hd)) ?_ ?_
  · have := JY (fun d => fT d ++ [10]) hs
    unfold dn at h2 ⊢; omega
  · have := JY (fun d => aJ (dcP d)) hs
    rw [vR] at h3 ⊢
    rw [← List.flatMap_def] at h3 ⊢
    omega

/-- A beginning of declarations without an error has no error but DV. -/
theorem begin_ok {l : List Dc} (h : (fZ l).2 = 0) (k : Nat) : fZ (l.take k) = (0, 9) ∨ fZ (l.take k) = (0, 0) := by
  obtain ⟨h1, h2, -, -, -⟩ := BQ h
  rw [BR (BF (List.take_sublist k l) h1) (fun i hi => ?_)]
  · split
    · exact Or.inl rfl
    · exact Or.inr rfl
  · rw [List.length_take] at hi
    rw [List.getElem_take, List.take_take, Nat.min_eq_left (by omega)]
    exact h2 i (by omega)
end Go.Proofs.YtbmglebipepdmaaGreatDoor
namespace Go.Proofs.YtbmglebipepdmaaGreatDoor
section
variable {ρ : ByteArray → ByteArray} {Y : ByteArray → Prop} {t t' : List (ByteArray × Int)}
end
end Go.Proofs.YtbmglebipepdmaaGreatDoor
namespace Go.Proofs.YtbmglebipepdmaaGreatDoor
section
variable {x : ByteArray} {m : List Dc}
end
end Go.Proofs.YtbmglebipepdmaaGreatDoor
namespace Go.Proofs.YtbmglebipepdmaaGreatDoor
end Go.Proofs.YtbmglebipepdmaaGreatDoor
namespace Go.Proofs.YtbmglebipepdmaaGreatDoor
theorem few_take (l : List Dc) (k : Nat) (h : k < l.length) : ((l.take (k + 1)).map dF).sum = ((l.take k).map dF).sum + dF l[k] := by
  rw [List.take_succ_eq_append_getElem h, List.map_append, List.sum_append]; simp
theorem Io (l : List Dc) (k : Nat) : ((l.take k).map dF).sum ≤ (l.map dF).sum := by
  have h := List.take_append_drop k l
  have : (l.map dF).sum = ((l.take k).map dF).sum + ((l.drop k).map dF).sum := by
    rw [← List.sum_append, ← List.map_append, h]
  omega
theorem fts_len (l : List Ft) : l.length ≤ (l.map jB).sum := by
  induction l with
  | nil => simp
  | cons f r ih =>
    have c := vO f
    rw [List.map_cons, List.sum_cons, List.length_cons]; omega
theorem few_dc (l : List Dc) : (l.map dF).sum ≤ 10 * (l.map d9).sum := by
  induction l with
  | nil => simp
  | cons d r ih =>
    have n1 := jV d.names
    have n2 := fts_len d.faults
    have e : dF d ≤ 10 * d9 d := by unfold dF d9; omega
    rw [List.map_cons, List.map_cons, List.sum_cons, List.sum_cons]; omega
end Go.Proofs.YtbmglebipepdmaaGreatDoor
namespace Go.Proofs.YtbmglebipepdmaaGreatDoor
open Go.RowKit
theorem Cm (l : List Tm) (k : Nat) (h : k < l.length) : fM (l.take (k + 1)) = max (fM (l.take k)) (dQ l[k]) := by
  have : ∀ (a : List Tm) (t : Tm), fM (a ++ [t]) = max (fM a) (dQ t) := by
    intro a t
    induction a with
    | nil => simp [fM]
    | cons x r ih => simp only [List.cons_append, fM, ih]; omega
  rw [List.take_succ_eq_append_getElem h, this]
theorem Ee (l : List Tm) (k : Nat) (h : k < l.length) : aR (l.take (k + 1)) = aR (l.take k) + au l[k] := by
  have : ∀ (a : List Tm) (t : Tm), aR (a ++ [t]) = aR a + au t := by
    intro a t
    induction a with
    | nil => simp [aR]
    | cons x r ih => simp only [List.cons_append, aR, ih]; omega
  rw [List.take_succ_eq_append_getElem h, this]
theorem Ed (l : List Tm) (k : Nat) : aR (l.take k) ≤ aR l := by
  have : ∀ (a b : List Tm), aR (a ++ b) = aR a + aR b := by
    intro a b
    induction a with
    | nil => simp [aR]
    | cons x r ih => simp only [List.cons_append, aR, ih]; omega
  have h := this (l.take k) (l.drop k)
  rw [List.take_append_drop] at h; omega
mutual
theorem AX : ∀ t : Tm, dQ t ≤ au t
  | .mk op name need ws kids => by
    have h := pR kids
    rw [dQ, au]; omega
theorem pR : ∀ l : List Tm, fM l ≤ aR l
  | [] => by simp [fM]
  | t :: r => by
    have h1 := AX t
    have h2 := pR r
    rw [fM, aR]; omega
end
def SzOk (t : Tm) : Prop := ∀ (v : Value) (w : World) (S : Nat → Prop), gm w S t v → (∀ g, S g → g < w.heap.size) → au t ≤ 1000000000 → Calls Tryz.prog 29 #[v] w fun e w' => e = .returned (.tuple #[.int .i64 (au t), .int .i64 (dQ t)]) ∧ Below w.heap.size w w'

set_option maxRecDepth 100000 in
set_option maxHeartbeats 4000000 in
theorem size_step (t : Tm) (ih : ∀ k ∈ t.kids, SzOk k) : SzOk t := by
  intro v w S hv hS hsz
  have HSS0 := Lib.hid (fH t)
  cases hv with
  | mk op nm need ws kids wA kA cw kc vs hw hwc hk hkc hl h =>
  have hss : au (.mk op nm need ws kids) = 1 + nm.size + ws.length + aR kids := HSS0.out
  have hdd : dQ (.mk op nm need ws kids) = fM kids + 1 := by rw [dQ]
  have hkl := kz kids
  have hbig : 1 + nm.size + ws.length + aR kids ≤ 1000000000 := by omega
  have IH := Lib.hid (show ∀ k ∈ kids, SzOk k from ih)
  have HL := Lib.hid (show bG (gm w S) w S 5 kA kids from ⟨vs, hl, hk, h⟩)
  have hkb : kids.length ≤ 1000000000 := by omega
  have HSS := Lib.hid hss
  have HDD := Lib.hid hdd
  clear ih hw hk hl h hss hdd hsz
  obtain ⟨w0, hw0⟩ : ∃ w0 : World, w0 = w.alloc (.cells #[.int .i64 op, .string nm, .int .i64 need, .slice wA ws.length cw, .slice kA kids.length kc] 39) := ⟨_, rfl⟩
  have hb0 : Below w.heap.size w w0 := by rw [hw0]; exact (Below.refl _ _).alloc (Nat.le_refl _) _
  have hz0 : w0.heap.size = w.heap.size + 1 := by rw [hw0]; simp
  have hr0 : w0.heap[w.heap.size]? = some (.cells #[.int .i64 op, .string nm, .int .i64 need, .slice wA ws.length cw, .slice kA kids.length kc] 39 (0, 0)) := by rw [hw0]; exact heap_alloc_new w _
  have uy : w.heap.size + 1 ≤ w0.heap.size := by omega
  have HR0 := Lib.hid hr0
  have hnI : (nm.size : Int) ≤ 1000000000 := by omega
  have hwI : (ws.length : Int) ≤ 1000000000 := by omega
  have HW0 := Lib.hid hw0
  clear hz0 hr0 hw0
  go_enter Tryz.func29, Tryz.ntmps29
  go_wp2
  rw [← HW0.out]
  go_loopw [4, 5, 6] (fun x y z wr => ∃ k : Nat, k ≤ kids.length ∧ z = .int .i64 k ∧ x = .int .i64 ((1 + nm.size + ws.length + aR (kids.take k) : Nat) : Int) ∧ y = .int .i64 (fM (kids.take k) : Nat) ∧ Below (w.heap.size + 1) w0 wr) (fun _ _ z _ => kids.length - (intOf z).toNat)
  case atStart => exact ⟨0, Nat.zero_le _, rfl, by simp [aR], by simp [fM], Below.refl _ _⟩
  case round =>
    obtain ⟨k, hk, rfl, rfl, rfl, hb⟩ := hrel
    have hsr := hb.size
    have hbw : Below w.heap.size w wr := hb0.trans (hb.mono (by omega))
    have hr1 := (hb.block _ (by omega)).trans HR0.out
    obtain ⟨c0, c1, c2, c3, c4, -⟩ := iH hr1
    clear hr1
    by_cases hlt : k < kids.length
    · have hlr := HL.out.keep (P' := gm wr S) (aF hbw hS) (fun _ _ h => h.keep (aF hbw hS))
      obtain ⟨g, o, op1, nm1, nd1, wA1, wn1, wc1, kA1, kn1, kc1, rfl, hSg, htm, k0, k1, k2, k3, k4, -⟩ := gV hlr hlt
      have hgs : g < wr.heap.size := World.block_lt_of_cell? wr _ k0
      have hkI : (k : Int) < (kids.length : Int) := by omega
      have hk0 : (0 : Int) ≤ (k : Int) := by omega
      have hmem : kids[k] ∈ kids := List.getElem_mem hlt
      have hts := bX hmem
      have hsn := Ee kids k hlt
      have hdn := Cm kids k hlt
      have htk := Ed kids (k + 1)
      have hdl := AX kids[k]
      have hdk := pR (kids.take k)
      have HC := Lib.hid (IH.out _ hmem _ wr S htm (fun g hg => by have := hS g hg; have := hbw.size; omega) (by omega))
      obtain ⟨a, ha⟩ : ∃ a, a = au kids[k] := ⟨_, rfl⟩
      obtain ⟨d, hd⟩ : ∃ d, d = dQ kids[k] := ⟨_, rfl⟩
      rw [← ha, ← hd] at HC
      rw [← ha] at hsn
      rw [← hd] at hdn
      obtain ⟨p, hp⟩ : ∃ p, p = 1 + nm.size + ws.length + aR (kids.take k) := ⟨_, rfl⟩
      obtain ⟨q, hq⟩ : ∃ q, q = fM (kids.take k) := ⟨_, rfl⟩
      have hpa : p + a ≤ 1000000000 := by omega
      have hqb : q ≤ 1000000000 := by omega
      have hdb : d ≤ 1000000000 := by omega
      have HSN := Lib.hid (show 1 + nm.size + ws.length + aR (kids.take (k + 1)) = p + a by omega)
      have HDN := Lib.hid (show fM (kids.take (k + 1)) = max q d by rw [hdn, hq])
      rw [← hp, ← hq]
      clear htm hlr hsn hdn htk hdl hdk ha hd hp hq hts
      by_cases hqd : q ≤ d
      · have m1 : (q : Int) ≤ (d : Int) := by omega
        have m2 : ¬ (d : Int) < (q : Int) := by omega
        have HM := Lib.hid (show max q d = d by omega)
        go_wp2_with fail
        refine HC.out.mono ?_
        rintro e W2 ⟨rfl, hb2⟩
        go_wp2
        go_roundw
        case rel => exact ⟨k + 1, by omega, by go_num, by rw [HSN.out]; go_num, by rw [HDN.out, HM.out]; congr 1; omega, hb.trans (hb2.mono (by omega))⟩
        case measure => simp [intOf]; omega
      · have m1 : ¬ (q : Int) ≤ (d : Int) := by omega
        have m2 : (d : Int) < (q : Int) := by omega
        have HM := Lib.hid (show max q d = q by omega)
        go_wp2_with fail
        refine HC.out.mono ?_
        rintro e W2 ⟨rfl, hb2⟩
        go_wp2
        go_roundw
        case rel => exact ⟨k + 1, by omega, by go_num, by rw [HSN.out]; go_num, by rw [HDN.out, HM.out]; congr 1; omega, hb.trans (hb2.mono (by omega))⟩
        case measure => simp [intOf]; omega
    · obtain rfl : k = kids.length := by omega
      have hkI : ¬ (kids.length : Int) < (kids.length : Int) := by omega
      rw [List.take_length]
      have hdl := pR kids
      obtain ⟨q, hq⟩ : ∃ q, q = fM kids := ⟨_, rfl⟩
      obtain ⟨p, hp⟩ : ∃ p, p = 1 + nm.size + ws.length + aR kids := ⟨_, rfl⟩
      have HSZ := Lib.hid (HSS.out.trans hp.symm)
      have HDZ := Lib.hid (show dQ (.mk op nm need ws kids) = q + 1 by rw [HDD.out, hq])
      have hqb : q ≤ 1000000000 := by omega
      rw [← hp, ← hq]
      clear hq hp hdl
      go_wp2
      go_ret2
      refine ⟨?_, hbw⟩
      rw [HSZ.out, HDZ.out]; rfl
theorem Cv (t : Tm) : SzOk t := by
  have : ∀ (n : Nat) (t : Tm), au t ≤ n → SzOk t := by
    intro n
    induction n with
    | zero =>
        intro t ht; have : 0 < au t := by (cases t; rw [au]; omega)
        omega
    | succ n ih => intro t ht; exact size_step t (fun k hk => ih k (by have := iC hk; omega))
  exact this _ t (Nat.le_refl _)
end Go.Proofs.YtbmglebipepdmaaGreatDoor
namespace Go.Proofs.YtbmglebipepdmaaGreatDoor
open Go.RowKit
set_option maxRecDepth 100000 in
set_option maxHeartbeats 4000000 in
theorem few_ref (l : List Dc) (A : Option Addr) (c : Nat) (w : World) (S : Nat → Prop) (hl : bG (jE w S) w S 22 A l) (hS : ∀ g, S g → g < w.heap.size) (hsz : (l.map d9).sum ≤ 1100000) :
    Calls Tryz.prog 11 #[.slice A l.length c] w fun e w' => e = .returned (.bool (decide ((l.map dF).sum ≤ 10000))) ∧ Below w.heap.size w w' := by
  have HL := Lib.hid hl
  have hll := uh l
  have hlb : l.length ≤ 1100000 := by omega
  have hfd := few_dc l
  have hfb : (l.map dF).sum ≤ 11000000 := by omega
  have HFB := Lib.hid (show ∀ k, ((l.take k).map dF).sum ≤ 11000000 from fun k => by have := Io l k; omega)
  clear hl hsz hll hfd
  go_enter Tryz.func11, Tryz.ntmps11
  go_wp2
  go_loopw [3, 4] (fun n x wr => ∃ k : Nat, k ≤ l.length ∧ x = .int .i64 k ∧ n = .int .i64 (((l.take k).map dF).sum : Nat) ∧ Below w.heap.size w wr) (fun _ x _ => l.length - (intOf x).toNat)
  case atStart => exact ⟨0, Nat.zero_le _, rfl, rfl, Below.refl _ _⟩
  case round =>
    obtain ⟨k, hk, rfl, rfl, hb⟩ := hrel
    have hsr := hb.size
    by_cases hlt : k < l.length
    · obtain ⟨g, o, v, rfl, hSg, hp, hc⟩ := iM (fun _ _ h => qB h) (HL.out.keep (P' := jE wr S) (aF hb hS) (fun _ _ h => h.keep (aF hb hS))) hlt
      have hgs : g < wr.heap.size := by have := hS g hSg; omega
      have hkI : (k : Int) < (l.length : Int) := by omega
      have hk0 : (0 : Int) ≤ (k : Int) := by omega
      have hft := few_take l k hlt
      have hfk := HFB.out (k + 1)
      rw [hft] at hfk
      generalize l[k] = d at hp hft hfk
      obtain ⟨kind, line, name, names, faults, term, proto, read, write, use⟩ := d
      obtain ⟨nA, nc, fA, fc, vt, vr, vw, rfl, h1, h2, h3, h4, h5, h6, h7⟩ := hp
      obtain ⟨o1, m1, d1, wA1, wn1, wc1, kA1, kn1, kc1, rfl⟩ := h5.form
      obtain ⟨o2, m2, d2, wA2, wn2, wc2, kA2, kn2, kc2, rfl⟩ := h6.form
      obtain ⟨o3, m3, d3, wA3, wn3, wc3, kA3, kn3, kc3, rfl⟩ := h7.form
      simp only at h5 h6 h7
      have hfs : dF ⟨kind, line, name, names, faults, term, proto, read, write, use⟩ = au term + au read + au write + name.size + names.length + 10 * faults.length + proto.size + use.size := rfl
      rw [hfs] at hft hfk
      have hc2 : ∀ (j : Nat) (u : Value), ([.int .i64 kind, .int .i64 line, .string name, .slice nA names.length nc, .slice fA faults.length fc, .int .i64 o1, .string m1, .int .i64 d1, .slice wA1 wn1 wc1, .slice kA1 kn1 kc1, .string proto, .int .i64 o2, .string m2, .int .i64 d2, .slice wA2 wn2 wc2, .slice kA2 kn2 kc2, .int .i64 o3, .string m3, .int .i64 d3, .slice wA3 wn3 wc3, .slice kA3 kn3 kc3, .string use] : List Value)[j]? = some u → wr.cell? ⟨g, o + k * 22 + j, none⟩ = some u := fun j u hu => hc j u (by simpa [cellsOf, Value.cells] using hu)
      have hSW : ∀ (W : World), Below wr.heap.size wr W → ∀ g, S g → g < W.heap.size := fun W hW g hg => by have := hS g hg; have := hW.size; omega
      have e1 : au term ≤ 11000000 := by omega
      have e2 : au read ≤ 11000000 := by omega
      have e3 : au write ≤ 11000000 := by omega
      have hs1 := fun (W : World) (hW : Below wr.heap.size wr W) => Cv term _ W S (h5.keep (aW hW)) (hSW W hW) (by omega)
      have hs2 := fun (W : World) (hW : Below wr.heap.size wr W) => Cv read _ W S (h6.keep (aW hW)) (hSW W hW) (by omega)
      have hs3 := fun (W : World) (hW : Below wr.heap.size wr W) => Cv write _ W S (h7.keep (aW hW)) (hSW W hW) (by omega)
      obtain ⟨z1, y1⟩ : ∃ z, z = au term := ⟨_, rfl⟩
      obtain ⟨z2, y2⟩ : ∃ z, z = au read := ⟨_, rfl⟩
      obtain ⟨z3, y3⟩ : ∃ z, z = au write := ⟨_, rfl⟩
      simp only [← y1] at hs1
      simp only [← y2] at hs2
      simp only [← y3] at hs3
      rw [← y1, ← y2, ← y3] at hft hfk
      have HS1 := Lib.hid hs1
      have HS2 := Lib.hid hs2
      have HS3 := Lib.hid hs3
      obtain ⟨p, hp⟩ : ∃ p, p = ((l.take k).map dF).sum := ⟨_, rfl⟩
      rw [← hp] at hft hfk
      rw [← hp]
      have HSN := Lib.hid hft
      have p1 : p ≤ 11000000 := by omega
      have p2 : z1 ≤ 11000000 := by omega
      have p3 : z2 ≤ 11000000 := by omega
      have p4 : z3 ≤ 11000000 := by omega
      have p5 : name.size ≤ 11000000 := by omega
      have p6 : names.length ≤ 11000000 := by omega
      have p7 : faults.length ≤ 11000000 := by omega
      have p8 : proto.size ≤ 11000000 := by omega
      have p9 : use.size ≤ 11000000 := by omega
      clear hft hfk hfs hs1 hs2 hs3 h1 h2 h3 h4 h5 h6 h7 hc y1 y2 y3 hp e1 e2 e3
      have HC := Lib.hid hc2
      have a5 : wr.cell? ⟨g, o + k * 22 + 5, none⟩ = some (.int .i64 o1) := HC.out 5 _ rfl
      have a6 : wr.cell? ⟨g, o + k * 22 + 6, none⟩ = some (.string m1) := HC.out 6 _ rfl
      have a7 : wr.cell? ⟨g, o + k * 22 + 7, none⟩ = some (.int .i64 d1) := HC.out 7 _ rfl
      have a8 : wr.cell? ⟨g, o + k * 22 + 8, none⟩ = some (.slice wA1 wn1 wc1) := HC.out 8 _ rfl
      have a9 : wr.cell? ⟨g, o + k * 22 + 9, none⟩ = some (.slice kA1 kn1 kc1) := HC.out 9 _ rfl
      go_wp2_with fail
      refine (HS1.out wr (Below.refl _ _)).mono ?_
      rintro e W1 ⟨rfl, hb1⟩
      clear a5 a6 a7 a8 a9
      have b11 : W1.cell? ⟨g, o + k * 22 + 11, none⟩ = some (.int .i64 o2) := (hb1.cell (p := ⟨g, o + k * 22 + 11, none⟩) hgs).trans (HC.out 11 _ rfl)
      have b12 : W1.cell? ⟨g, o + k * 22 + 12, none⟩ = some (.string m2) := (hb1.cell (p := ⟨g, o + k * 22 + 12, none⟩) hgs).trans (HC.out 12 _ rfl)
      have b13 : W1.cell? ⟨g, o + k * 22 + 13, none⟩ = some (.int .i64 d2) := (hb1.cell (p := ⟨g, o + k * 22 + 13, none⟩) hgs).trans (HC.out 13 _ rfl)
      have b14 : W1.cell? ⟨g, o + k * 22 + 14, none⟩ = some (.slice wA2 wn2 wc2) := (hb1.cell (p := ⟨g, o + k * 22 + 14, none⟩) hgs).trans (HC.out 14 _ rfl)
      have b15 : W1.cell? ⟨g, o + k * 22 + 15, none⟩ = some (.slice kA2 kn2 kc2) := (hb1.cell (p := ⟨g, o + k * 22 + 15, none⟩) hgs).trans (HC.out 15 _ rfl)
      go_wp2_with fail
      refine (HS2.out W1 hb1).mono ?_
      rintro e W2 ⟨rfl, hb2⟩
      have hx2 : Below wr.heap.size wr W2 := hb1.trans (hb2.mono hb1.size)
      clear b11 b12 b13 b14 b15
      have e16 : W2.cell? ⟨g, o + k * 22 + 16, none⟩ = some (.int .i64 o3) := (hx2.cell (p := ⟨g, o + k * 22 + 16, none⟩) hgs).trans (HC.out 16 _ rfl)
      have e17 : W2.cell? ⟨g, o + k * 22 + 17, none⟩ = some (.string m3) := (hx2.cell (p := ⟨g, o + k * 22 + 17, none⟩) hgs).trans (HC.out 17 _ rfl)
      have e18 : W2.cell? ⟨g, o + k * 22 + 18, none⟩ = some (.int .i64 d3) := (hx2.cell (p := ⟨g, o + k * 22 + 18, none⟩) hgs).trans (HC.out 18 _ rfl)
      have e19 : W2.cell? ⟨g, o + k * 22 + 19, none⟩ = some (.slice wA3 wn3 wc3) := (hx2.cell (p := ⟨g, o + k * 22 + 19, none⟩) hgs).trans (HC.out 19 _ rfl)
      have e20 : W2.cell? ⟨g, o + k * 22 + 20, none⟩ = some (.slice kA3 kn3 kc3) := (hx2.cell (p := ⟨g, o + k * 22 + 20, none⟩) hgs).trans (HC.out 20 _ rfl)
      go_wp2_with fail
      refine (HS3.out W2 hx2).mono ?_
      rintro e W3 ⟨rfl, hb3⟩
      have hx3 : Below wr.heap.size wr W3 := hx2.trans (hb3.mono hx2.size)
      have hgs3 : g < W3.heap.size := Nat.lt_of_lt_of_le hgs hx3.size
      clear e16 e17 e18 e19 e20
      have f2 : W3.cell? ⟨g, o + k * 22 + 2, none⟩ = some (.string name) := (hx3.cell (p := ⟨g, o + k * 22 + 2, none⟩) hgs).trans (HC.out 2 _ rfl)
      have f3 : W3.cell? ⟨g, o + k * 22 + 3, none⟩ = some (.slice nA names.length nc) := (hx3.cell (p := ⟨g, o + k * 22 + 3, none⟩) hgs).trans (HC.out 3 _ rfl)
      have f4 : W3.cell? ⟨g, o + k * 22 + 4, none⟩ = some (.slice fA faults.length fc) := (hx3.cell (p := ⟨g, o + k * 22 + 4, none⟩) hgs).trans (HC.out 4 _ rfl)
      have f10 : W3.cell? ⟨g, o + k * 22 + 10, none⟩ = some (.string proto) := (hx3.cell (p := ⟨g, o + k * 22 + 10, none⟩) hgs).trans (HC.out 10 _ rfl)
      have f21 : W3.cell? ⟨g, o + k * 22 + 21, none⟩ = some (.string use) := (hx3.cell (p := ⟨g, o + k * 22 + 21, none⟩) hgs).trans (HC.out 21 _ rfl)
      go_upto_region 8 with fail
      go_quiet (fail)
      go_wp2
      go_roundw
      case rel =>
        refine ⟨k + 1, by omega, by go_num, ?_, below_drewN (hb.trans (hx3.mono hsr)) _⟩
        rw [HSN.out]
        go_num
      case measure => simp [intOf]; omega
    · obtain rfl : k = l.length := by omega
      have hkI : ¬ (l.length : Int) < (l.length : Int) := by omega
      rw [List.take_length]
      obtain ⟨n, hn⟩ : ∃ n, n = (l.map dF).sum := ⟨_, rfl⟩
      rw [← hn]
      have HN := Lib.hid hn
      rw [← hn] at hfb
      clear hn
      go_wp2
      go_ret
      refine ⟨?_, hb⟩
      show Ending.returned (.bool (decide ((n : Int) ≤ 10000))) = _
      rw [show decide ((n : Int) ≤ 10000) = decide (n ≤ 10000) by rw [Bool.eq_iff_iff, decide_eq_true_iff, decide_eq_true_iff]; omega, HN.out]
end Go.Proofs.YtbmglebipepdmaaGreatDoor
namespace Go.Proofs.YtbmglebipepdmaaGreatDoor
open Go.RowKit
end Go.Proofs.YtbmglebipepdmaaGreatDoor
