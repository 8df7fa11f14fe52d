/- Small laws of my own for the walks: a slice that is read, one that the call owns, an element appended to it, and what stays as it was. No condition. Terms, faults and declarations as they lie in memory, and what keeps them so. No condition. The state of the program's parser and of the reference's reader in memory. No condition. Lists that a call builds by append: strings, numbers, terms, faults, declarations, tokens; what they hold stays. No condition. -/
import Derived.WalkKit
import Derived.WalkLawsBesides
import Derived.Lib.Hide
import Derived.Maps.AppendAt
import Derived.Deep.Draws
import Derived.Deep.AppendLies
import Derived.Test.YtipicaoinnblpaaGreatDoorPkPlain
import Derived.OneCell
import Derived.Laws.Rows
import Derived.Test.YtipicaoinnblpaaGreatDoorProg
namespace Go.Proofs.YtipicaoinnblpaaGreatDoor
open Go.RowKit

/-- The slice with address A and n elements of so many cells each is read as the cells xs; it lies below block B. -/
def Sees (w : World) (B size : Nat) (A : Option Addr) (n : Nat) (xs : List Value) : Prop :=
  xs.length = n * size ∧ (0 < n → ∃ g o, A = some ⟨g, o, none⟩ ∧ g < B ∧ ∀ j u, xs[j]? = some u → w.cell? ⟨g, o + j, none⟩ = some u)

section
variable {w w' : World} {B B' size n : Nat} {A : Option Addr} {xs : List Value}

theorem Sees.empty (w : World) (B size : Nat) (A : Option Addr) : Sees w B size A 0 [] := ⟨by simp, fun h => absurd h (by omega)⟩
theorem Sees.cells (h : Sees w B size A n xs) (hn : 0 < n) : ∃ g o, A = some ⟨g, o, none⟩ ∧ g < B ∧ ∀ j u, xs[j]? = some u → w.cell? ⟨g, o + j, none⟩ = some u := h.2 hn
theorem Sees.keep (h : Sees w B size A n xs) (hk : ∀ g o, g < B → w'.cell? ⟨g, o, none⟩ = w.cell? ⟨g, o, none⟩) : Sees w' B size A n xs :=
  ⟨h.1, fun hn => by
    obtain ⟨g, o, e, hb, hc⟩ := h.2 hn
    exact ⟨g, o, e, hb, fun j u hu => (hk _ _ hb).trans (hc j u hu)⟩⟩
theorem Sees.below (h : Sees w B size A n xs) (hb : Below B' w w') (hB : B ≤ B') : Sees w' B size A n xs :=
  h.keep fun g o hg => hb.cell (p := ⟨g, o, none⟩) (Nat.lt_of_lt_of_le hg hB)
theorem Sees.mono (h : Sees w B size A n xs) (hB : B ≤ B') : Sees w B' size A n xs :=
  ⟨h.1, fun hn => by
    obtain ⟨g, o, e, hb, hc⟩ := h.2 hn
    exact ⟨g, o, e, Nat.lt_of_lt_of_le hb hB, hc⟩⟩
theorem Sees.alloc (h : Sees w B size A n xs) (hB : B ≤ w.heap.size) (x : Obj) : Sees (w.alloc x) B size A n xs :=
  h.below ((Below.refl B w).alloc hB x) (Nat.le_refl _)
theorem Sees.own {base e c : Nat} (h : w.ownsRow base e size (.slice A n c) n xs) : Sees w w.heap.size size A n xs := by
  refine ⟨h.1, fun hn => ?_⟩
  rcases h.2 with ⟨hv, h0⟩ | ⟨g, cap, cur, hv, hb, hh, r⟩
  · omega
  · have hA : A = some ⟨g, 0, none⟩ := by injection hv
    subst hA
    refine ⟨g, 0, rfl, (Array.getElem?_eq_some_iff.1 hh).1, fun j u hu => ?_⟩
    have := h.cells (g := g) rfl j u hu
    rw [← this]; congr 1
    unfold Addr.add; split <;> simp_all
end

/-- A row of the call's own stays so where all below block B stays, if it lies below. -/
theorem own_below {w w' : World} {base e size n B : Nat} {v : Value} {xs : List Value} (h : w.ownsRow base e size v n xs) (hb : Below B w w') (hB : w.heap.size ≤ B) : w'.ownsRow base e size v n xs := by
  obtain ⟨h1, h2⟩ := h
  refine ⟨h1, ?_⟩
  rcases h2 with h2 | ⟨g, cap, cur, hv, hg, hh, r⟩
  · exact Or.inl h2
  · have : g < w.heap.size := (Array.getElem?_eq_some_iff.1 hh).1
    exact Or.inr ⟨g, cap, cur, hv, hg, by rw [hb.block g (by omega)]; exact hh, r⟩
theorem own_base {w : World} {base base' e size n : Nat} {v : Value} {xs : List Value} (h : w.ownsRow base e size v n xs) (hB : base' ≤ base) : w.ownsRow base' e size v n xs := by
  obtain ⟨h1, h2⟩ := h
  refine ⟨h1, ?_⟩
  rcases h2 with h2 | ⟨g, cap, cur, hv, hg, r⟩
  · exact Or.inl h2
  · exact Or.inr ⟨g, cap, cur, hv, Nat.le_trans hB hg, r⟩
/-- The value of a row of the call's own is a slice. -/
theorem own_slice {w : World} {base e size n : Nat} {v : Value} {xs : List Value} (h : w.ownsRow base e size v n xs) : ∃ A c, v = .slice A n c ∧ n ≤ c := by
  rcases h.2 with ⟨rfl, h2⟩ | ⟨g, cap, cur, hv, hg, hh, hc, r⟩
  · subst h2; exact ⟨_, _, rfl, Nat.le_refl _⟩
  · exact ⟨_, _, hv, hc⟩

theorem below_drewN {B : Nat} {a w : World} (h : Below B a w) (n : Nat) : Below B a (w.drewN n) := ⟨h.os, h.tape, h.output, h.size, h.block⟩
theorem own_drewN {w : World} {base e size n : Nat} {v : Value} {xs : List Value} (h : w.ownsRow base e size v n xs) (k : Nat) : (w.drewN k).ownsRow base e size v n xs := h
theorem Sees.drewN {w : World} {B size n : Nat} {A : Option Addr} {xs : List Value} (h : Sees w B size A n xs) (k : Nat) : Sees (w.drewN k) B size A n xs := h
section
variable {P : Program}
end
end Go.Proofs.YtipicaoinnblpaaGreatDoor
namespace Go.Proofs.YtipicaoinnblpaaGreatDoor
open Go.RowKit

/-- The slice with address A and n elements of so many cells each is read as the cells xs; its block is one of S. -/
def SeesIn (w : World) (S : Nat → Prop) (size : Nat) (A : Option Addr) (n : Nat) (xs : List Value) : Prop :=
  xs.length = n * size ∧ (0 < n → ∃ g o, A = some ⟨g, o, none⟩ ∧ S g ∧ ∀ j u, xs[j]? = some u → w.cell? ⟨g, o + j, none⟩ = some u)
/-- The blocks of S stay as they were. -/
def Kept (S : Nat → Prop) (w w' : World) : Prop := ∀ g, S g → g < w.heap.size → w'.heap[g]? = w.heap[g]?

theorem Kept.refl (S : Nat → Prop) (w : World) : Kept S w w := fun _ _ _ => rfl
theorem Kept.trans {S : Nat → Prop} {a b c : World} (h : Kept S a b) (k : Kept S b c) (hs : a.heap.size ≤ b.heap.size) : Kept S a c :=
  fun g hS hg => (k g hS (Nat.lt_of_lt_of_le hg hs)).trans (h g hS hg)
theorem Kept.mono {S S' : Nat → Prop} {w w' : World} (h : Kept S w w') (hS : ∀ g, S' g → S g) : Kept S' w w' := fun g h1 h2 => h g (hS g h1) h2
theorem kept_below {B : Nat} {w w' : World} (h : Below B w w') : Kept (· < B) w w' := fun g hg _ => h.block g hg
theorem kept_all {S : Nat → Prop} {w w' : World} (h : Below w.heap.size w w') : Kept S w w' := fun g _ hg => h.block g hg
theorem kept_grown {b : Nat} {w w' : World} (h : w.grownBy w' (some b)) : Kept (· ≠ b) w w' := fun g hg h2 => h.block g h2 (fun e => hg (by injection e))

theorem kept_grown_lt {b : Nat} {w w' : World} (h : w.grownBy w' (some b)) : Kept (· < b) w w' := (kept_grown h).mono fun _ h => Nat.ne_of_lt h

theorem grown_refl (w : World) (row : Option Nat) : w.grownBy w row := ⟨rfl, rfl, rfl, Nat.le_refl _, fun _ _ _ => rfl⟩
theorem grown_trans {a b c : World} {row : Option Nat} (h : a.grownBy b row) (k : b.grownBy c row) : a.grownBy c row :=
  ⟨k.os.trans h.os, k.tape.trans h.tape, k.output.trans h.output, Nat.le_trans h.size k.size, fun g hg hne => (k.block g (Nat.lt_of_lt_of_le hg h.size) hne).trans (h.block g hg hne)⟩
theorem grown_below {w w' : World} {row : Option Nat} (h : Below w.heap.size w w') : w.grownBy w' row := ⟨h.os, h.tape, h.output, h.size, fun g hg _ => h.block g hg⟩
theorem grown_drewN {a w : World} {row : Option Nat} (h : a.grownBy w row) (n : Nat) : a.grownBy (w.drewN n) row := ⟨h.os, h.tape, h.output, h.size, h.block⟩
theorem grown_alloc {a w : World} {row : Option Nat} (h : a.grownBy w row) (o : Obj) : a.grownBy (w.alloc o) row :=
  grown_trans h (grown_below ((Below.refl _ _).alloc (Nat.le_refl _) o))
theorem grown_set {a w : World} {b : Nat} (h : a.grownBy w (some b)) (o : Nat) (u : Value) : a.grownBy (w.setCell ⟨b, o, none⟩ u) (some b) :=
  ⟨h.os, h.tape, h.output, by rw [show (w.setCell ⟨b, o, none⟩ u).heap.size = w.heap.size by simp]; exact h.size, fun g hg hne => (Below.heap_setCell w _ u g (fun e => hne (by rw [e]))).trans (h.block g hg hne)⟩
/-- Below the block, all stays. -/
theorem below_grown {a w : World} {b B : Nat} (h : a.grownBy w (some b)) (hB : B ≤ b) (hs : B ≤ a.heap.size) : Below B a w :=
  ⟨h.os, h.tape, h.output, h.size, fun g hg => h.block g (by omega) (fun e => by injection e; omega)⟩
theorem grown_block {a w : World} {b g : Nat} {o : Obj} (h : a.grownBy w (some b)) (hg : a.heap[g]? = some o) (hne : g ≠ b) : w.heap[g]? = some o :=
  (h.block g (Array.getElem?_eq_some_iff.1 hg).1 (fun e => hne (by injection e))).trans hg
theorem own_grown {a w : World} {b base e size n : Nat} {v : Value} {xs : List Value} (h : a.ownsRow base e size v n xs) (hg : a.grownBy w (some b)) (hb : b < base) : w.ownsRow base e size v n xs := by
  refine h.kept hg ?_
  rcases h.2 with ⟨rfl, _⟩ | ⟨g, cap, cur, rfl, hgb, _⟩
  · exact Or.inl rfl
  · exact Or.inr (by simp [Value.ownBlock]; omega)

section
variable {w w' : World} {S S' : Nat → Prop} {size n : Nat} {A : Option Addr} {xs : List Value}
theorem SeesIn.empty (w : World) (S : Nat → Prop) (size : Nat) (A : Option Addr) : SeesIn w S size A 0 [] := ⟨by simp, fun h => absurd h (by omega)⟩
theorem SeesIn.keep (h : SeesIn w S size A n xs) (hk : Kept S w w') : SeesIn w' S size A n xs :=
  ⟨h.1, fun hn => by
    obtain ⟨g, o, e, hS, hc⟩ := h.2 hn
    exact ⟨g, o, e, hS, fun j u hu => (World.cell?_of_block (hk g hS (World.block_lt_of_cell? w _ (hc j u hu)))).trans (hc j u hu)⟩⟩
theorem SeesIn.mono (h : SeesIn w S size A n xs) (hS : ∀ g, S g → g < w.heap.size → S' g) (hz : 0 < size) : SeesIn w S' size A n xs :=
  ⟨h.1, fun hn => by
    obtain ⟨g, o, e, h1, hc⟩ := h.2 hn
    have h0 : 0 < xs.length := by rw [h.1]; exact Nat.mul_pos hn hz
    exact ⟨g, o, e, hS g h1 (World.block_lt_of_cell? w ⟨g, o + 0, none⟩ (hc 0 _ (List.getElem?_eq_getElem h0))), hc⟩⟩
theorem SeesIn.cells (h : SeesIn w S size A n xs) (hn : 0 < n) : ∃ g o, A = some ⟨g, o, none⟩ ∧ S g ∧ ∀ j u, xs[j]? = some u → w.cell? ⟨g, o + j, none⟩ = some u := h.2 hn
theorem Sees.within {B : Nat} (h : Sees w B size A n xs) : SeesIn w (· < B) size A n xs := h
theorem SeesIn.own {base e c : Nat} (h : w.ownsRow base e size (.slice A n c) n xs) : SeesIn w (base ≤ ·) size A n xs := by
  refine ⟨h.1, fun hn => ?_⟩
  rcases h.2 with ⟨hv, h0⟩ | ⟨g, cap, cur, hv, hb, hh, r⟩
  · omega
  · have hA : A = some ⟨g, 0, none⟩ := by injection hv
    subst hA
    refine ⟨g, 0, rfl, hb, fun j u hu => ?_⟩
    have := h.cells (g := g) rfl j u hu
    rw [← this]; congr 1
    unfold Addr.add; split <;> simp_all
end

/-- The cells of an aggregate. -/
def cellsOf (v : Value) : List Value := v.cells.toList

/-- A term in memory: the value v is the term t. -/
inductive TmAt (w : World) (S : Nat → Prop) : Tm → Value → Prop
  | mk (op : Int) (name : ByteArray) (need : Int) (ws : List Int) (kids : List Tm) (wA kA : Option Addr) (wc kc : Nat) (vs : List Value)
    (hw : SeesIn w S 1 wA ws.length (ws.map (Value.int .i64))) (hwc : ws.length ≤ wc)
    (hk : SeesIn w S 5 kA kids.length (vs.flatMap cellsOf)) (hkc : kids.length ≤ kc) (hl : vs.length = kids.length)
    (h : ∀ (i : Nat) (t : Tm) (v : Value), kids[i]? = some t → vs[i]? = some v → TmAt w S t v) :
    TmAt w S (.mk op name need ws kids) (.agg #[.int .i64 op, .string name, .int .i64 need, .slice wA ws.length wc, .slice kA kids.length kc])

theorem TmAt.keep {w w' : World} {S : Nat → Prop} {t : Tm} {v : Value} (h : TmAt w S t v) (hk : Kept S w w') : TmAt w' S t v := by
  induction h with
  | mk op name need ws kids wA kA wc kc vs hw hwc hkk hkc hl h ih => exact .mk op name need ws kids wA kA wc kc vs (hw.keep hk) hwc (hkk.keep hk) hkc hl ih
theorem TmAt.mono {w : World} {S S' : Nat → Prop} {t : Tm} {v : Value} (h : TmAt w S t v) (hS : ∀ g, S g → g < w.heap.size → S' g) : TmAt w S' t v := by
  induction h with
  | mk op name need ws kids wA kA wc kc vs hw hwc hkk hkc hl h ih => exact .mk op name need ws kids wA kA wc kc vs (hw.mono hS (by decide)) hwc (hkk.mono hS (by decide)) hkc hl ih
/-- The five cells of a term's value. -/
theorem TmAt.form {w : World} {S : Nat → Prop} {t : Tm} {v : Value} (h : TmAt w S t v) : ∃ op name need wA wn wc kA kn kc, v = .agg #[.int .i64 op, .string name, .int .i64 need, .slice wA wn wc, .slice kA kn kc] := by
  cases h with
  | mk op name need ws kids wA kA wc kc vs => exact ⟨_, _, _, _, _, _, _, _, _, rfl⟩
theorem TmAt.named (w : World) (S : Nat → Prop) (op : Int) (n : ByteArray) : TmAt w S (.mk op n 0 [] []) (.agg #[.int .i64 op, .string n, .int .i64 0, .slice none 0 0, .slice none 0 0]) :=
  .mk op n 0 [] [] none none 0 0 [] (.empty _ _ _ _) (Nat.le_refl _) (.empty _ _ _ _) (Nat.le_refl _) rfl (fun i t v h => by simp at h)

/-- A fault in memory. -/
def FtAt (w : World) (S : Nat → Prop) (f : Ft) (v : Value) : Prop :=
  ∃ bA bc cA cc, v = .agg #[.int .i64 f.op, .string f.name, .int .i64 f.byz, .int .i64 f.crash, .slice bA f.byzNames.length bc, .slice cA f.crashNames.length cc] ∧
    SeesIn w S 1 bA f.byzNames.length (f.byzNames.map Value.string) ∧ f.byzNames.length ≤ bc ∧ SeesIn w S 1 cA f.crashNames.length (f.crashNames.map Value.string) ∧ f.crashNames.length ≤ cc
theorem FtAt.keep {w w' : World} {S : Nat → Prop} {f : Ft} {v : Value} (h : FtAt w S f v) (hk : Kept S w w') : FtAt w' S f v := by
  obtain ⟨bA, bc, cA, cc, e, h1, h2, h3, h4⟩ := h
  exact ⟨bA, bc, cA, cc, e, h1.keep hk, h2, h3.keep hk, h4⟩
theorem FtAt.mono {w : World} {S S' : Nat → Prop} {f : Ft} {v : Value} (h : FtAt w S f v) (hS : ∀ g, S g → g < w.heap.size → S' g) : FtAt w S' f v := by
  obtain ⟨bA, bc, cA, cc, e, h1, h2, h3, h4⟩ := h
  exact ⟨bA, bc, cA, cc, e, h1.mono hS (by decide), h2, h3.mono hS (by decide), h4⟩

/-- A list in memory: values of so many cells each, each of which is what it should be. -/
def ListAt {α : Type} (P : α → Value → Prop) (w : World) (S : Nat → Prop) (size : Nat) (A : Option Addr) (l : List α) : Prop :=
  ∃ vs : List Value, vs.length = l.length ∧ SeesIn w S size A l.length (vs.flatMap cellsOf) ∧ ∀ (i : Nat) (x : α) (v : Value), l[i]? = some x → vs[i]? = some v → P x v

/-- A declaration in memory. -/
def DcAt (w : World) (S : Nat → Prop) (d : Dc) (v : Value) : Prop :=
  ∃ nA nc fA fc vt vr vw, v = .agg (#[.int .i64 d.kind, .int .i64 d.line, .string d.name, .slice nA d.names.length nc, .slice fA d.faults.length fc] ++ vt.cells ++ #[.string d.proto] ++ vr.cells ++ vw.cells ++ #[.string d.use]) ∧
    SeesIn w S 1 nA d.names.length (d.names.map Value.string) ∧ d.names.length ≤ nc ∧ ListAt (FtAt w S) w S 6 fA d.faults ∧ d.faults.length ≤ fc ∧ TmAt w S d.term vt ∧ TmAt w S d.read vr ∧ TmAt w S d.write vw
theorem ListAt.keep {α : Type} {P P' : α → Value → Prop} {w w' : World} {S : Nat → Prop} {size : Nat} {A : Option Addr} {l : List α} (h : ListAt P w S size A l) (hk : Kept S w w') (hP : ∀ x v, P x v → P' x v) : ListAt P' w' S size A l := by
  obtain ⟨vs, h1, h2, h3⟩ := h
  exact ⟨vs, h1, h2.keep hk, fun i x v hx hv => hP x v (h3 i x v hx hv)⟩
theorem ListAt.mono {α : Type} {P P' : α → Value → Prop} {w : World} {S S' : Nat → Prop} {size : Nat} {A : Option Addr} {l : List α} (h : ListAt P w S size A l) (hS : ∀ g, S g → g < w.heap.size → S' g) (hz : 0 < size) (hP : ∀ x v, P x v → P' x v) : ListAt P' w S' size A l := by
  obtain ⟨vs, h1, h2, h3⟩ := h
  exact ⟨vs, h1, h2.mono hS hz, fun i x v hx hv => hP x v (h3 i x v hx hv)⟩
theorem ListAt.empty {α : Type} (P : α → Value → Prop) (w : World) (S : Nat → Prop) (size : Nat) (A : Option Addr) : ListAt P w S size A [] := ⟨[], rfl, .empty _ _ _ _, fun i x v h => by simp at h⟩
theorem DcAt.keep {w w' : World} {S : Nat → Prop} {d : Dc} {v : Value} (h : DcAt w S d v) (hk : Kept S w w') : DcAt w' S d v := by
  obtain ⟨nA, nc, fA, fc, vt, vr, vw, e, h1, h2, h3, h4, h5, h6, h7⟩ := h
  exact ⟨nA, nc, fA, fc, vt, vr, vw, e, h1.keep hk, h2, h3.keep hk (fun _ _ h => h.keep hk), h4, h5.keep hk, h6.keep hk, h7.keep hk⟩
theorem DcAt.mono {w : World} {S S' : Nat → Prop} {d : Dc} {v : Value} (h : DcAt w S d v) (hS : ∀ g, S g → g < w.heap.size → S' g) : DcAt w S' d v := by
  obtain ⟨nA, nc, fA, fc, vt, vr, vw, e, h1, h2, h3, h4, h5, h6, h7⟩ := h
  exact ⟨nA, nc, fA, fc, vt, vr, vw, e, h1.mono hS (by decide), h2, h3.mono hS (by decide) (fun _ _ h => h.mono hS), h4, h5.mono hS, h6.mono hS, h7.mono hS⟩
end Go.Proofs.YtipicaoinnblpaaGreatDoor
namespace Go.Proofs.YtipicaoinnblpaaGreatDoor
open Go.RowKit

def tokCells (t : Tok × Nat) : List Value := [.int .i64 t.1.kind, .string t.1.text, .int .i64 t.1.int, .string t.1.str, .int .i64 t.2]
def tokVals (L : Toks) : List Value := L.flatMap tokCells
theorem tokVals_snoc (L : Toks) (t : Tok × Nat) : tokVals (L ++ [t]) = tokVals L ++ tokCells t := by simp [tokVals]
theorem tokVals_get (L : Toks) (i j : Nat) (hi : i < L.length) (hj : j < 5) : (tokVals L)[i * 5 + j]? = (tokCells L[i])[j]? := by
  induction L generalizing i with
  | nil => simp at hi
  | cons t r ih =>
    have e : tokVals (t :: r) = tokCells t ++ tokVals r := by simp [tokVals]
    rw [e]
    cases i with
    | zero => rw [List.getElem?_append_left (by simp [tokCells]; omega)]; simp
    | succ i =>
      rw [List.getElem?_append_right (by simp [tokCells]; omega)]
      rw [show (i + 1) * 5 + j - (tokCells t).length = i * 5 + j by simp [tokCells]; omega]
      rw [ih i (by simpa using hi)]; simp

/-- A row behind a store. -/
theorem row_set {w : World} {b i : Nat} {cs : Array Value} {t : TypeId} {fr : Nat × Nat} (h : w.heap[b]? = some (.cells cs t fr)) (u : Value) : (w.setCell ⟨b, i, none⟩ u).heap[b]? = some (.cells (cs.setIfInBounds i u) t fr) := by
  have hlt := lt_of_block h
  have h' : w.heap[b] = .cells cs t fr := by simpa [Array.getElem?_eq_getElem hlt] using h
  show (w.heap.modify b _)[b]? = _
  rw [Array.getElem?_eq_getElem (by simpa using hlt), Array.getElem_modify_self, h']
  rfl

/-- The parser of the program: block b. -/
structure PSt (b : Nat) (A : Option Addr) (n c : Nat) (L : Toks) (ln : Nat → Nat) (s : St) (w : World) : Prop where
  blk : ∃ line : Nat, w.heap[b]? = some (.cells #[.slice A n c, .int .i64 s.pos, .int .i64 s.err, .int .i64 line] 61 (0, 0)) ∧ (s.err ≠ 0 → line = ln s.pos)
  len : n = L.length
  pos : s.pos ≤ L.length
  err : s.err = 0 → ln = errLine L
  toks : SeesIn w (· < b) 5 A n (tokVals L)
  few : L.length ≤ 100000

theorem PSt.lt {b : Nat} {A : Option Addr} {n c : Nat} {L : Toks} {ln : Nat → Nat} {s : St} {w : World} (h : PSt b A n c L ln s w) : b < w.heap.size := by
  obtain ⟨l, hl, _⟩ := h.blk
  exact lt_of_block hl
/-- New blocks do not matter. -/
theorem PSt.below {b : Nat} {A : Option Addr} {n c : Nat} {L : Toks} {ln : Nat → Nat} {s : St} {w w' : World} (h : PSt b A n c L ln s w) (hb : Below w.heap.size w w') : PSt b A n c L ln s w' := by
  obtain ⟨l, hl, h2⟩ := h.blk
  exact ⟨⟨l, (hb.block b (lt_of_block hl)).trans hl, h2⟩, h.len, h.pos, h.err, h.toks.keep (kept_all hb), h.few⟩
/-- What is written behind the parser does not matter. -/
theorem PSt.other {b B : Nat} {A : Option Addr} {n c : Nat} {L : Toks} {ln : Nat → Nat} {s : St} {w w' : World} (h : PSt b A n c L ln s w) (hb : Below B w w') (hg : b < B) : PSt b A n c L ln s w' := by
  obtain ⟨l, hl, h2⟩ := h.blk
  exact ⟨⟨l, (hb.block b hg).trans hl, h2⟩, h.len, h.pos, h.err, h.toks.keep (fun g h1 _ => hb.block g (Nat.lt_trans h1 hg)), h.few⟩

/-- The reader of the reference: block b. -/
structure RSt (b : Nat) (A : Option Addr) (n c : Nat) (L : Toks) (s : St) (w : World) : Prop where
  blk : w.heap[b]? = some (.cells #[.slice A n c, .int .i64 s.pos, .int .i64 s.err] 66 (0, 0))
  len : n = L.length
  pos : s.pos ≤ L.length
  toks : SeesIn w (· < b) 5 A n (tokVals L)
  few : L.length ≤ 100000
theorem RSt.lt {b : Nat} {A : Option Addr} {n c : Nat} {L : Toks} {s : St} {w : World} (h : RSt b A n c L s w) : b < w.heap.size := lt_of_block h.blk
theorem RSt.below {b : Nat} {A : Option Addr} {n c : Nat} {L : Toks} {s : St} {w w' : World} (h : RSt b A n c L s w) (hb : Below w.heap.size w w') : RSt b A n c L s w' :=
  ⟨(hb.block b h.lt).trans h.blk, h.len, h.pos, h.toks.keep (kept_all hb), h.few⟩
theorem RSt.other {b B : Nat} {A : Option Addr} {n c : Nat} {L : Toks} {s : St} {w w' : World} (h : RSt b A n c L s w) (hb : Below B w w') (hg : b < B) : RSt b A n c L s w' :=
  ⟨(hb.block b hg).trans h.blk, h.len, h.pos, h.toks.keep (fun g h1 _ => hb.block g (Nat.lt_trans h1 hg)), h.few⟩

/-- The cells of the present token. -/
theorem tok_cells {w : World} {S : Nat → Prop} {A : Option Addr} {n : Nat} {L : Toks} {i : Nat} (h : SeesIn w S 5 A n (tokVals L)) (hn : n = L.length) (hi : i < n) :
    ∃ g o, A = some ⟨g, o, none⟩ ∧ S g ∧ w.cell? ⟨g, o + i * 5, none⟩ = some (.int .i64 (L[i]'(by omega)).1.kind) ∧ w.cell? ⟨g, o + i * 5 + 1, none⟩ = some (.string (L[i]'(by omega)).1.text) ∧
      w.cell? ⟨g, o + i * 5 + 2, none⟩ = some (.int .i64 (L[i]'(by omega)).1.int) ∧ w.cell? ⟨g, o + i * 5 + 3, none⟩ = some (.string (L[i]'(by omega)).1.str) ∧ w.cell? ⟨g, o + i * 5 + 4, none⟩ = some (.int .i64 (L[i]'(by omega)).2) := by
  obtain ⟨g, o, e, hS, hc⟩ := h.cells (by omega)
  have k := fun j (hj : j < 5) => hc (i * 5 + j) ((tokCells (L[i]'(by omega)))[j]'(by simpa [tokCells] using hj)) (by rw [tokVals_get L i j (by omega) hj, List.getElem?_eq_getElem])
  refine ⟨g, o, e, hS, ?_, ?_, ?_, ?_, ?_⟩
  · simpa [tokCells] using k 0 (by decide)
  · simpa [tokCells, Nat.add_assoc] using k 1 (by decide)
  · simpa [tokCells, Nat.add_assoc] using k 2 (by decide)
  · simpa [tokCells, Nat.add_assoc] using k 3 (by decide)
  · simpa [tokCells, Nat.add_assoc] using k 4 (by decide)
end Go.Proofs.YtipicaoinnblpaaGreatDoor
namespace Go.Proofs.YtipicaoinnblpaaGreatDoor
open Go.RowKit

def strVals (l : List ByteArray) : List Value := l.map Value.string
theorem strVals_snoc (l : List ByteArray) (x : ByteArray) : strVals (l ++ [x]) = strVals l ++ [.string x] := by simp [strVals]
def intVals (l : List Int) : List Value := l.map (Value.int .i64)
theorem intVals_snoc (l : List Int) (x : Int) : intVals (l ++ [x]) = intVals l ++ [.int .i64 x] := by simp [intVals]
theorem info_str : (Tryz.prog.info? 9).map (fun i => (i.zero, i.size, i.bytes)) = some (some (.string ByteArray.empty), 1, 16) := by kernel_rfl
theorem info_int : (Tryz.prog.info? 3).map (fun i => (i.zero, i.size, i.bytes)) = some (some (.int .i64 0), 1, 8) := by kernel_rfl
def zeroTm : Value := .agg #[.int .i64 0, .string ByteArray.empty, .int .i64 0, .slice none 0 0, .slice none 0 0]
theorem info_term : (Tryz.prog.info? 32).map (fun i => (i.zero, i.size, i.bytes)) = some (some zeroTm, 5, 80) := by kernel_rfl
theorem info_fault : (Tryz.prog.info? 97).map (fun i => (i.zero, i.size, i.bytes)) = some (some (.agg #[.int .i64 0, .string ByteArray.empty, .int .i64 0, .int .i64 0, .slice none 0 0, .slice none 0 0]), 6, 88) := by kernel_rfl
theorem info_tok : (Tryz.prog.info? 93).map (fun i => (i.zero, i.size, i.bytes)) = some (some (.agg #[.int .i64 0, .string ByteArray.empty, .int .i64 0, .string ByteArray.empty, .int .i64 0]), 5, 56) := by kernel_rfl
theorem info_decl : (Tryz.prog.info? 54).map (fun i => (i.zero, i.size, i.bytes)) = some (some (.agg #[.int .i64 0, .int .i64 0, .string ByteArray.empty, .slice none 0 0, .slice none 0 0, .int .i64 0, .string ByteArray.empty, .int .i64 0, .slice none 0 0, .slice none 0 0, .string ByteArray.empty, .int .i64 0, .string ByteArray.empty, .int .i64 0, .slice none 0 0, .slice none 0 0, .int .i64 0, .string ByteArray.empty, .int .i64 0, .slice none 0 0, .slice none 0 0, .string ByteArray.empty]), 22, 352) := by kernel_rfl

/-- One element appended to a row of the call's own, in any block; only the row's own block is written. -/
theorem wpList_push2 {P : Program} (w : World) {ops : Array Oper} {rest : List Oper} {o : Oper} {a : Act} {Q : Exit → Act → World → Prop} (hgd : o.guard = none) (s x : Operand) (t : TypeId)
    (ho : o.op = .call { callee := .builtin .append, args := #[s, x], argTypes := #[t, t] })
    (base : Nat) (e : TypeId) (i : TypeInfo) (z : Value) (size bytes : Nat) (ht : P.underlying t = some (.slice e)) (hi : P.info? e = some i) (hz : i.zero = some z)
    (hsize : i.size = size) (hby : i.bytes = bytes) (hzs : z.cells.size = size) (hsz : 0 < size)
    (v : Value) (n : Nat) (xs : List Value) (hown : w.ownsRow base e size v n xs) (hs : a.eval s = v)
    (news : List Value) (hx : a.eval x = .slice (some ⟨w.heap.size, 0, none⟩) 1 1) (hl : news.length = size) (h1 : ∀ u ∈ news, u.oneCell' = true)
    (hlim : (n + 1) * bytes ≤ 140737488355328) (hlim2 : n ≤ 140737488355328) (hbase : base ≤ w.heap.size)
    (h : ∀ v' w', w'.ownsRow base e size v' (n + 1) (xs ++ news) → w.grownBy w' v.ownBlock → (v'.ownBlock = v.ownBlock ∨ v'.ownBlock = some (w.heap.size + 1)) → wpList P ops Q rest (a.put o.dst v') w') :
    wpList P ops Q (o :: rest) a (w.alloc (.cells news.toArray e)) := by
  have hcell : ∀ j u, news[j]? = some u → (w.alloc (.cells news.toArray e)).cell? ((⟨w.heap.size, 0, none⟩ : Addr).add j) = some u := by
    intro j u hu
    have hadd : (⟨w.heap.size, 0, none⟩ : Addr).add j = ⟨w.heap.size, j, none⟩ := by unfold Addr.add; split <;> simp_all
    rw [hadd, cell_of_row _ w.heap.size j news.toArray e (0, 0) (heap_alloc_new w _)]
    simpa using hu
  refine wpList_append_own_at _ hgd s x t ho base e i z size bytes ht hi hz hsize hby hzs hsz v n xs hs (hown.alloc _) ⟨w.heap.size, 0, none⟩ 1 1 news hx (by omega) hcell h1 (by unfold maxLen; omega) hlim (by simp; omega) ?_
  intro v' w' h2 h3 _ h5
  refine h v' w' h2 (grown_trans (grown_below ((Below.refl _ _).alloc (Nat.le_refl _) _)) h3) ?_
  simpa using h5

/-- A list of the call's own: the elements lie in blocks of S, none in the list's own. -/
def RowAt {α : Type} (P : World → (Nat → Prop) → α → Value → Prop) (w : World) (S : Nat → Prop) (base : Nat) (e : TypeId) (size : Nat) (v : Value) (acc : List α) : Prop :=
  ∃ vs : List Value, vs.length = acc.length ∧ w.ownsRow base e size v acc.length (vs.flatMap cellsOf) ∧ ∀ (i : Nat) (x : α) (u : Value), acc[i]? = some x → vs[i]? = some u → P w (fun g => S g ∧ some g ≠ v.ownBlock) x u

/-- What keeps its blocks and grows. -/
structure Stays {α : Type} (P : World → (Nat → Prop) → α → Value → Prop) : Prop where
  keep : ∀ {w w' : World} {S : Nat → Prop} {x : α} {v : Value}, P w S x v → Kept S w w' → P w' S x v
  mono : ∀ {w : World} {S S' : Nat → Prop} {x : α} {v : Value}, P w S x v → (∀ g, S g → g < w.heap.size → S' g) → P w S' x v
theorem stays_tm : Stays TmAt := ⟨fun h k => h.keep k, fun h k => h.mono k⟩
theorem stays_ft : Stays FtAt := ⟨fun h k => h.keep k, fun h k => h.mono k⟩
theorem stays_dc : Stays DcAt := ⟨fun h k => h.keep k, fun h k => h.mono k⟩

section
variable {α : Type} {P : World → (Nat → Prop) → α → Value → Prop} {w w' : World} {S S' : Nat → Prop} {base e size : Nat} {v : Value} {acc : List α}
theorem RowAt.nil (w : World) (S : Nat → Prop) (base e size : Nat) : RowAt P w S base e size (.slice none 0 0) [] := ⟨[], rfl, World.ownsRow_nil _ _ _ _, fun i x u h => by simp at h⟩
theorem own_kept {n : Nat} {xs : List Value} (h : w.ownsRow base e size v n xs) (hk : ∀ g, v.ownBlock = some g → w'.heap[g]? = w.heap[g]?) : w'.ownsRow base e size v n xs := by
  obtain ⟨a, b⟩ := h
  refine ⟨a, ?_⟩
  rcases b with b | ⟨g, cap, cur, hv, hg, hh, r⟩
  · exact Or.inl b
  · exact Or.inr ⟨g, cap, cur, hv, hg, by rw [hk g (by rw [hv]; rfl)]; exact hh, r⟩
theorem RowAt.keep (h : RowAt P w S base e size v acc) (hP : Stays P) (hk : Kept S w w') (hv : ∀ g, v.ownBlock = some g → w'.heap[g]? = w.heap[g]?) : RowAt P w' S base e size v acc := by
  obtain ⟨vs, h1, h2, h3⟩ := h
  exact ⟨vs, h1, own_kept h2 hv, fun i x u hx hu => hP.keep (h3 i x u hx hu) (hk.mono fun g hg => hg.1)⟩
theorem RowAt.mono (h : RowAt P w S base e size v acc) (hP : Stays P) (hS : ∀ g, S g → g < w.heap.size → S' g) : RowAt P w S' base e size v acc := by
  obtain ⟨vs, h1, h2, h3⟩ := h
  exact ⟨vs, h1, h2, fun i x u hx hu => hP.mono (h3 i x u hx hu) (fun g hg hl => ⟨hS g hg.1 hl, hg.2⟩)⟩
theorem RowAt.lt (h : RowAt P w S base e size v acc) : ∀ g, v.ownBlock = some g → base ≤ g ∧ g < w.heap.size := by
  obtain ⟨vs, h1, h2, h3⟩ := h
  exact h2.lt
/-- Where only a block below is written. -/
theorem RowAt.grown {b : Nat} (h : RowAt P w S base e size v acc) (hP : Stays P) (hg : w.grownBy w' (some b)) (hb : b < base) (hS : ∀ g, S g → g ≠ b) : RowAt P w' S base e size v acc :=
  h.keep hP ((kept_grown hg).mono hS) (fun g e => by have := h.lt g e; exact hg.block g this.2 (fun e => by injection e; omega))
theorem RowAt.push {vs : List Value} (h1 : vs.length = acc.length) (h3 : ∀ (i : Nat) (x : α) (u : Value), acc[i]? = some x → vs[i]? = some u → P w (fun g => S g ∧ some g ≠ v.ownBlock) x u) (hP : Stays P) {x : α} {u v' : Value} {news : List Value} (hn : cellsOf u = news) (hx : P w (fun g => S g ∧ some g ≠ v.ownBlock) x u)
    (hown : w'.ownsRow base e size v' (acc.length + 1) (vs.flatMap cellsOf ++ news)) (hg : w.grownBy w' v.ownBlock) (hv : v'.ownBlock = v.ownBlock ∨ v'.ownBlock = some (w.heap.size + 1)) :
    RowAt P w' S base e size v' (acc ++ [x]) := by
  have key : ∀ y z, P w (fun g => S g ∧ some g ≠ v.ownBlock) y z → P w' (fun g => S g ∧ some g ≠ v'.ownBlock) y z := by
    intro y z hp
    have hp1 : P w (fun g => S g ∧ some g ≠ v'.ownBlock ∧ some g ≠ v.ownBlock) y z := hP.mono hp (fun g hg1 hg2 => by
      refine ⟨hg1.1, ?_, hg1.2⟩
      rcases hv with hv | hv
      · rw [hv]; exact hg1.2
      · rw [hv]; intro e; injection e; omega)
    exact hP.mono (hP.keep hp1 (fun g hg1 hg2 => hg.block g hg2 hg1.2.2)) (fun g hg1 _ => ⟨hg1.1, hg1.2.1⟩)
  refine ⟨vs ++ [u], by simp [h1], ?_, ?_⟩
  · rw [List.length_append, List.flatMap_append]
    simpa [hn] using hown
  · intro i y z hy hz
    by_cases hi : i < acc.length
    · rw [List.getElem?_append_left hi] at hy
      rw [List.getElem?_append_left (by omega)] at hz
      exact key _ _ (h3 i y z hy hz)
    · have hia : i = acc.length := by
        have := (List.getElem?_eq_some_iff.1 hy).1
        simp at this; omega
      subst hia
      rw [List.getElem?_append_right (Nat.le_refl _)] at hy
      rw [List.getElem?_append_right (by omega), h1] at hz
      simp at hy hz
      subst hy hz
      exact key _ _ hx
/-- A list of one element, laid as a literal. -/
theorem RowAt.one (w : World) (hP : Stays P) {x : α} {u : Value} {cs : Array Value} (hn : cellsOf u = cs.toList) (hs : cs.size = size) (hb : base ≤ w.heap.size) (hx : P w S x u) :
    RowAt P (w.alloc (.cells cs e)) S base e size (.slice (some ⟨w.heap.size, 0, none⟩) 1 1) [x] := by
  refine ⟨[u], rfl, ?_, ?_⟩
  · have := World.ownsRow_lit (base := base) (e := e) (size := size) w cs 1 hb (by decide) (by omega)
    simpa [hn] using this
  · intro i y z hy hz
    have hi : i = 0 := by
      have := (List.getElem?_eq_some_iff.1 hy).1
      simp at this; exact this
    subst hi
    simp at hy hz
    subst hy hz
    exact hP.keep (hP.mono hx (fun g h1 h2 => ⟨h1, fun e => by simp [Value.ownBlock] at e; omega⟩)) (kept_all ((Below.refl _ _).alloc (Nat.le_refl _) _))
/-- The list as it is read. -/
theorem RowAt.list (h : RowAt P w S base e size v acc) (hP : Stays P) : ∃ A c, v = .slice A acc.length c ∧ acc.length ≤ c ∧ ListAt (P w S) w (base ≤ ·) size A acc := by
  obtain ⟨vs, h1, h2, h3⟩ := h
  obtain ⟨A, c, rfl, hc⟩ := own_slice h2
  exact ⟨A, c, rfl, hc, vs, h1, SeesIn.own h2, fun i x u hx hu => hP.mono (h3 i x u hx hu) (fun g hg _ => hg.1)⟩
end

theorem push_str (w : World) {ops : Array Oper} {rest : List Oper} {o : Oper} {a : Act} {Q : Exit → Act → World → Prop} (hgd : o.guard = none) (s x : Operand)
    (ho : o.op = .call { callee := .builtin .append, args := #[s, x], argTypes := #[45, 45] })
    (base : Nat) (v : Value) (n : Nat) (xs : List Value) (hown : w.ownsRow base 9 1 v n xs) (hs : a.eval s = v)
    (u : ByteArray) (hx : a.eval x = .slice (some ⟨w.heap.size, 0, none⟩) 1 1)
    (hlim : n ≤ 100000000000) (hbase : base ≤ w.heap.size)
    (h : ∀ v' w', w'.ownsRow base 9 1 v' (n + 1) (xs ++ [.string u]) → w.grownBy w' v.ownBlock → (v'.ownBlock = v.ownBlock ∨ v'.ownBlock = some (w.heap.size + 1)) → wpList Tryz.prog ops Q rest (a.put o.dst v') w') :
    wpList Tryz.prog ops Q (o :: rest) a (w.alloc (.cells #[.string u] 9)) := by
  obtain ⟨i0, hi, hz0, hz1, hz2⟩ := info_parts info_str
  exact wpList_push2 w hgd s x _ ho base 9 i0 (.string ByteArray.empty) 1 16 Tryz.underlying45 hi hz0 hz1 hz2 rfl (by decide) v n xs hown hs [.string u] hx rfl (by simp [Value.oneCell']) (by omega) (by omega) hbase h

theorem push_int (w : World) {ops : Array Oper} {rest : List Oper} {o : Oper} {a : Act} {Q : Exit → Act → World → Prop} (hgd : o.guard = none) (s x : Operand)
    (ho : o.op = .call { callee := .builtin .append, args := #[s, x], argTypes := #[29, 29] })
    (base : Nat) (v : Value) (n : Nat) (xs : List Value) (hown : w.ownsRow base 3 1 v n xs) (hs : a.eval s = v)
    (u : Int) (hx : a.eval x = .slice (some ⟨w.heap.size, 0, none⟩) 1 1)
    (hlim : n ≤ 100000000000) (hbase : base ≤ w.heap.size)
    (h : ∀ v' w', w'.ownsRow base 3 1 v' (n + 1) (xs ++ [.int .i64 u]) → w.grownBy w' v.ownBlock → (v'.ownBlock = v.ownBlock ∨ v'.ownBlock = some (w.heap.size + 1)) → wpList Tryz.prog ops Q rest (a.put o.dst v') w') :
    wpList Tryz.prog ops Q (o :: rest) a (w.alloc (.cells #[.int .i64 u] 3)) := by
  obtain ⟨i0, hi, hz0, hz1, hz2⟩ := info_parts info_int
  exact wpList_push2 w hgd s x _ ho base 3 i0 (.int .i64 0) 1 8 Tryz.underlying29 hi hz0 hz1 hz2 rfl (by decide) v n xs hown hs [.int .i64 u] hx rfl (by simp [Value.oneCell']) (by omega) (by omega) hbase h

theorem push_term (w : World) {ops : Array Oper} {rest : List Oper} {o : Oper} {a : Act} {Q : Exit → Act → World → Prop} (hgd : o.guard = none) (s x : Operand)
    (ho : o.op = .call { callee := .builtin .append, args := #[s, x], argTypes := #[30, 30] })
    (base : Nat) (v : Value) (n : Nat) (xs : List Value) (hown : w.ownsRow base 32 5 v n xs) (hs : a.eval s = v)
    (op : Int) (nm : ByteArray) (nd : Int) (wA : Option Addr) (wn wc : Nat) (kA : Option Addr) (kn kc : Nat) (hx : a.eval x = .slice (some ⟨w.heap.size, 0, none⟩) 1 1)
    (hlim : n ≤ 100000000000) (hbase : base ≤ w.heap.size)
    (h : ∀ v' w', w'.ownsRow base 32 5 v' (n + 1) (xs ++ [.int .i64 op, .string nm, .int .i64 nd, .slice wA wn wc, .slice kA kn kc]) → w.grownBy w' v.ownBlock → (v'.ownBlock = v.ownBlock ∨ v'.ownBlock = some (w.heap.size + 1)) → wpList Tryz.prog ops Q rest (a.put o.dst v') w') :
    wpList Tryz.prog ops Q (o :: rest) a (w.alloc (.cells #[.int .i64 op, .string nm, .int .i64 nd, .slice wA wn wc, .slice kA kn kc] 32)) := by
  obtain ⟨i0, hi, hz0, hz1, hz2⟩ := info_parts info_term
  exact wpList_push2 w hgd s x _ ho base 32 i0 zeroTm 5 80 Tryz.underlying30 hi hz0 hz1 hz2 rfl (by decide) v n xs hown hs [.int .i64 op, .string nm, .int .i64 nd, .slice wA wn wc, .slice kA kn kc] hx rfl (by simp [Value.oneCell']) (by omega) (by omega) hbase h

theorem push_tok (w : World) {ops : Array Oper} {rest : List Oper} {o : Oper} {a : Act} {Q : Exit → Act → World → Prop} (hgd : o.guard = none) (s x : Operand)
    (ho : o.op = .call { callee := .builtin .append, args := #[s, x], argTypes := #[59, 59] })
    (base : Nat) (v : Value) (n : Nat) (xs : List Value) (hown : w.ownsRow base 93 5 v n xs) (hs : a.eval s = v)
    (kd : Int) (tx : ByteArray) (it : Int) (st : ByteArray) (li : Int) (hx : a.eval x = .slice (some ⟨w.heap.size, 0, none⟩) 1 1)
    (hlim : n ≤ 100000000000) (hbase : base ≤ w.heap.size)
    (h : ∀ v' w', w'.ownsRow base 93 5 v' (n + 1) (xs ++ [.int .i64 kd, .string tx, .int .i64 it, .string st, .int .i64 li]) → w.grownBy w' v.ownBlock → (v'.ownBlock = v.ownBlock ∨ v'.ownBlock = some (w.heap.size + 1)) → wpList Tryz.prog ops Q rest (a.put o.dst v') w') :
    wpList Tryz.prog ops Q (o :: rest) a (w.alloc (.cells #[.int .i64 kd, .string tx, .int .i64 it, .string st, .int .i64 li] 93)) := by
  obtain ⟨i0, hi, hz0, hz1, hz2⟩ := info_parts info_tok
  exact wpList_push2 w hgd s x _ ho base 93 i0 _ 5 56 Tryz.underlying59 hi hz0 hz1 hz2 rfl (by decide) v n xs hown hs [.int .i64 kd, .string tx, .int .i64 it, .string st, .int .i64 li] hx rfl (by simp [Value.oneCell']) (by omega) (by omega) hbase h

theorem push_decl (w : World) {ops : Array Oper} {rest : List Oper} {o : Oper} {a : Act} {Q : Exit → Act → World → Prop} (hgd : o.guard = none) (s x : Operand)
    (ho : o.op = .call { callee := .builtin .append, args := #[s, x], argTypes := #[23, 23] })
    (base : Nat) (v : Value) (n : Nat) (xs : List Value) (hown : w.ownsRow base 54 22 v n xs) (hs : a.eval s = v)
    (kd li : Int) (nm : ByteArray) (nA : Option Addr) (nn nc : Nat) (fA : Option Addr) (fn fc : Nat) (pr us : ByteArray) (o1 : Int) (m1 : ByteArray) (d1 : Int) (wA1 : Option Addr) (wn1 wc1 : Nat) (kA1 : Option Addr) (kn1 kc1 : Nat) (o2 : Int) (m2 : ByteArray) (d2 : Int) (wA2 : Option Addr) (wn2 wc2 : Nat) (kA2 : Option Addr) (kn2 kc2 : Nat) (o3 : Int) (m3 : ByteArray) (d3 : Int) (wA3 : Option Addr) (wn3 wc3 : Nat) (kA3 : Option Addr) (kn3 kc3 : Nat) (hx : a.eval x = .slice (some ⟨w.heap.size, 0, none⟩) 1 1)
    (hlim : n ≤ 100000000000) (hbase : base ≤ w.heap.size)
    (h : ∀ v' w', w'.ownsRow base 54 22 v' (n + 1) (xs ++ [.int .i64 kd, .int .i64 li, .string nm, .slice nA nn nc, .slice fA fn fc, .int .i64 o1, .string m1, .int .i64 d1, .slice wA1 wn1 wc1, .slice kA1 kn1 kc1, .string pr, .int .i64 o2, .string m2, .int .i64 d2, .slice wA2 wn2 wc2, .slice kA2 kn2 kc2, .int .i64 o3, .string m3, .int .i64 d3, .slice wA3 wn3 wc3, .slice kA3 kn3 kc3, .string us]) → w.grownBy w' v.ownBlock → (v'.ownBlock = v.ownBlock ∨ v'.ownBlock = some (w.heap.size + 1)) → wpList Tryz.prog ops Q rest (a.put o.dst v') w') :
    wpList Tryz.prog ops Q (o :: rest) a (w.alloc (.cells #[.int .i64 kd, .int .i64 li, .string nm, .slice nA nn nc, .slice fA fn fc, .int .i64 o1, .string m1, .int .i64 d1, .slice wA1 wn1 wc1, .slice kA1 kn1 kc1, .string pr, .int .i64 o2, .string m2, .int .i64 d2, .slice wA2 wn2 wc2, .slice kA2 kn2 kc2, .int .i64 o3, .string m3, .int .i64 d3, .slice wA3 wn3 wc3, .slice kA3 kn3 kc3, .string us] 54)) := by
  obtain ⟨i0, hi, hz0, hz1, hz2⟩ := info_parts info_decl
  exact wpList_push2 w hgd s x _ ho base 54 i0 _ 22 352 Tryz.underlying23 hi hz0 hz1 hz2 rfl (by decide) v n xs hown hs [.int .i64 kd, .int .i64 li, .string nm, .slice nA nn nc, .slice fA fn fc, .int .i64 o1, .string m1, .int .i64 d1, .slice wA1 wn1 wc1, .slice kA1 kn1 kc1, .string pr, .int .i64 o2, .string m2, .int .i64 d2, .slice wA2 wn2 wc2, .slice kA2 kn2 kc2, .int .i64 o3, .string m3, .int .i64 d3, .slice wA3 wn3 wc3, .slice kA3 kn3 kc3, .string us] hx rfl (by simp [Value.oneCell']) (by omega) (by omega) hbase h

/-- A term appended at a step of a region that draws its order; it lies in block g. -/
theorem step_term (w : World) {ops : Array Oper} {o : Oper} {a : Act} {K : Act → World → Prop} {Q : Exit → Act → World → Prop} {E : Prop} (hgd : o.guard = none) (s x : Operand)
    (ho : o.op = .call { callee := .builtin .append, args := #[s, x], argTypes := #[30, 30] })
    (base : Nat) (v : Value) (n : Nat) (xs : List Value) (hown : w.ownsRow base 32 5 v n xs) (hs : a.eval s = v)
    (g cc : Nat) (op : Int) (nm : ByteArray) (nd : Int) (wA : Option Addr) (wn wc : Nat) (kA : Option Addr) (kn kc : Nat)
    (hblk : w.heap[g]? = some (.cells #[.int .i64 op, .string nm, .int .i64 nd, .slice wA wn wc, .slice kA kn kc] 32 (0, 0))) (hx : a.eval x = .slice (some ⟨g, 0, none⟩) 1 cc)
    (hlim : n ≤ 100000000000) (hbase : base ≤ w.heap.size)
    (h : ∀ v' w', w'.ownsRow base 32 5 v' (n + 1) (xs ++ [.int .i64 op, .string nm, .int .i64 nd, .slice wA wn wc, .slice kA kn kc]) → w.grownBy w' v.ownBlock → (v'.ownBlock = v.ownBlock ∨ v'.ownBlock = some w.heap.size) → K (a.put o.dst v') w') :
    if Region.wanted o (yielded ops a.tmps) = true then Oper.wp Tryz.prog o a w K Q else E := by
  obtain ⟨i0, hi, hz0, hz1, hz2⟩ := info_parts info_term
  have hcell : ∀ j u, [Value.int .i64 op, .string nm, .int .i64 nd, .slice wA wn wc, .slice kA kn kc][j]? = some u → w.cell? ((⟨g, 0, none⟩ : Addr).add j) = some u := by
    intro j u hu
    have hadd : (⟨g, 0, none⟩ : Addr).add j = ⟨g, j, none⟩ := by unfold Addr.add; split <;> simp_all
    rw [hadd, cell_of_row _ g j _ _ (0, 0) hblk]
    simpa using hu
  refine step_append_lies w hgd s x _ ho base 32 i0 zeroTm 5 80 Tryz.underlying30 hi hz0 hz1 hz2 rfl (by decide) v n xs hs hown ⟨g, 0, none⟩ 1 cc _ hx rfl hcell (by simp [Value.oneCell']) (by omega) (by unfold maxLen; omega) (by omega) hbase w.heap.size rfl ?_
  intro g' cap w' h2 h3 h4 _
  refine h _ w' h2 h3 ?_
  rcases h4 with h4 | h4
  · exact Or.inl h4.symm
  · exact Or.inr (by rw [h4]; rfl)
end Go.Proofs.YtipicaoinnblpaaGreatDoor
