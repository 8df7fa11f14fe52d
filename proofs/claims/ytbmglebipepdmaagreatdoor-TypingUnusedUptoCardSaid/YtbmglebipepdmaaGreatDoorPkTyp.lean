/- The plain law of the types of declarations: what Check, Term, Uses, Unused, Servers and Kind return, as functions on declarations. No condition. The types of a part of declarations: a sublist of declarations with a text has one; a beginning of declarations without an error has none but DV. No condition. The types of declarations whose names are mapped: errors stay if kinds stay. No condition. Declarations without an error have none if an unused one is left out. No condition. The examples of the chapter of typing, in plain functions. No condition. -/
import Derived.Test.YtbmglebipepdmaaGreatDoorPkPlain
import Derived.Test.YtbmglebipepdmaaGreatDoorPkRound
import Derived.KernelRfl
namespace Go.Proofs.YtbmglebipepdmaaGreatDoor

theorem rG (l : List ByteArray) (x : ByteArray) : l.contains x = true ↔ x ∈ l := by
  induction l with
  | nil => simp
  | cons a r ih => rw [List.contains_cons, Bool.or_eq_true, ih, gY, List.mem_cons]

/-- The kind of the name that a kind of declarations declares, or 0. -/
def jl (k : Int) : Int := if k = 1 then 1 else if k = 2 then 3 else if k = 3 then 4 else if k = 4 then 5 else if k = 6 then 6 else 0
/-- What a declaration declares, in order. -/
def BP (d : Dc) : List (ByteArray × Int) := (if jl d.kind = 0 then [] else [(d.name, jl d.kind)]) ++ (if d.kind = 1 then d.names.map (fun x => (x, 2)) else [])
def tab (l : List Dc) : List (ByteArray × Int) := l.flatMap BP
/-- The kind of a name, or 0: the first that is declared. -/
def eZ : List (ByteArray × Int) → ByteArray → Int
  | [], _ => 0
  | p :: r, x => if p.1 == x then p.2 else eZ r x
def aN (l : List Dc) : Nat := (l.map fun d => if d.kind = 1 then d.names.length else 0).sum
def fu (k : Int) (l : List Dc) : Nat := l.countP fun d => decide (d.kind = k)
def dG (l : List Dc) : Bool := l.any fun d => !decide (d.kind = 1)
def eB (l : List Dc) : Bool := l.any fun d => decide (d.kind = 7)
def dY (k : Int) (l : List Dc) : List ByteArray := l.flatMap fun d => if d.kind = k then d.names else []
/-- The error of a name that must have a kind. -/
def isE (t : List (ByteArray × Int)) (x : ByteArray) (ks : List Int) : Nat := if eZ t x = 0 then 4 else if ks.contains (eZ t x) then 0 else 11
/-- The error of a threshold. -/
def thrE (nd : Int) (ws : List Int) (kids : Nat) : Nat :=
  if 0 < ws.length then (if ws.any (fun w => decide (w < 1) || decide (1000 < w)) then 7 else if nd < 1 ∨ ws.sum < nd then 7 else 0)
  else if nd < 1 ∨ (kids : Int) < nd then 7 else 0
/-- The error of a term without its kids. -/
def ownE (t : List (ByteArray × Int)) (ns : Nat) (op : Int) (name : ByteArray) (nd : Int) (ws : List Int) (kids : Nat) : Nat :=
  if op = 1 then isE t name [2, 4]
  else if op = 2 then thrE nd ws kids
  else if op = 6 ∨ op = 7 ∨ op = 8 then (if name = (⟨#[115, 101, 114, 118, 101, 114, 115]⟩ : ByteArray) then (if ns = 0 then 9 else 0) else isE t name [1])
  else 0
mutual
def j5 (t : List (ByteArray × Int)) (ns : Nat) : Tm → Nat
  | .mk op name nd ws kids => if ownE t ns op name nd ws kids.length ≠ 0 then ownE t ns op name nd ws kids.length else mK t ns kids
def mK (t : List (ByteArray × Int)) (ns : Nat) : List Tm → Nat
  | [] => 0
  | x :: r => if j5 t ns x ≠ 0 then j5 t ns x else mK t ns r
end
/-- The error of names that must have a kind and be different, also from earlier ones. -/
def kK (t : List (ByteArray × Int)) (k : Int) : List ByteArray → List ByteArray → Nat
  | _, [] => 0
  | seen, x :: r => if isE t x [k] ≠ 0 then isE t x [k] else if seen.contains x then 5 else kK t k (seen ++ [x]) r
/-- The error of a fault. -/
def nU (t : List (ByteArray × Int)) (ns : Nat) (f : Ft) : Nat :=
  if f.op = 2 then (if (ns : Int) < f.byz + f.kW then 7 else 0)
  else if f.op = 3 then kK t 2 [] (f.aH ++ f.ax)
  else if f.op = 4 ∨ f.op = 5 then isE t f.name [1]
  else if f.op = 6 then isE t f.name [3]
  else 0
def jR (t : List (ByteArray × Int)) (ns : Nat) : List Ft → Nat
  | [] => 0
  | f :: r => if nU t ns f ≠ 0 then nU t ns f else jR t ns r
/-- The error of a site's servers. -/
def qP (t : List (ByteArray × Int)) (ns : Nat) (nm : ByteArray) : List ByteArray → List ByteArray → Nat
  | _, [] => 0
  | pre, x :: r => if eZ t x ≠ 0 ∨ x = nm ∨ pre.contains x = true then 5 else if 12 ≤ ns + pre.length then 3 else qP t ns nm (pre ++ [x]) r

/-- Which declared faults are Gq. -/
def nT : List (ByteArray × Bool) → ByteArray → Option Bool
  | [], _ => none
  | p :: r, x => if p.1 == x then some p.2 else nT r x
def ER (l : List (ByteArray × Bool)) (x : ByteArray) : Bool := (nT l x).getD false
def zS (kn : List (ByteArray × Bool)) (f : Ft) : Bool :=
  if f.op = 2 then decide (0 < f.byz) else if f.op = 3 then decide (0 < f.aH.length) else if f.op = 4 then true else if f.op = 6 then ER kn f.name else false
def mJ (kn : List (ByteArray × Bool)) : List Dc → List (ByteArray × Bool)
  | [] => kn
  | d :: r => mJ (if d.kind = 2 then kn ++ [(d.name, d.faults.any (zS kn))] else kn) r
def kL (l : List Dc) (x : ByteArray) : Bool := ER (mJ [] l) x

/-- The error of a declaration behind others. -/
def jF (l : List Dc) (d : Dc) : Nat :=
  if d.kind = 1 ∧ dG l = true then 10
  else if jl d.kind ≠ 0 ∧ eZ (tab l) d.name ≠ 0 then 5
  else if d.kind = 1 then qP (tab l) (aN l) d.name [] d.names
  else if d.kind = 2 then jR (tab l) (aN l) d.faults
  else if d.kind = 3 then j5 (tab l) (aN l) d.term
  else if d.kind = 4 then
    (if 6 ≤ fu 4 l then 3
     else if j5 (tab l) (aN l) d.read ≠ 0 then j5 (tab l) (aN l) d.read
     else if j5 (tab l) (aN l) d.write ≠ 0 then j5 (tab l) (aN l) d.write
     else if isE (tab l) d.use [3] ≠ 0 then isE (tab l) d.use [3]
     else if d.proto = (⟨#[99, 114, 97, 115, 104]⟩ : ByteArray) ∧ kL l d.use = true then 12 else 0)
  else if d.kind = 5 then kK (tab l) 2 (dY 5 l) d.names
  else if d.kind = 6 then (if 6 ≤ fu 6 l then 3 else if d.use.size = 0 then 0 else isE (tab l) d.use [3])
  else if d.kind = 7 then (if eB l = true then 5 else kK (tab l) 5 [] d.names)
  else 0
def jh (pre : List Dc) : List Dc → Int × Nat
  | [] => if aN pre = 0 ∨ fu 4 pre = 0 then (0, 9) else (0, 0)
  | d :: r => if jF pre d ≠ 0 then (d.line, jF pre d) else jh (pre ++ [d]) r
/-- What Check returns. -/
def fZ (l : List Dc) : Int × Nat := if (cO l).2 ≠ 0 then (0, (cO l).2) else jh [] l

/-- The names that a declaration uses. -/
def gq (d : Dc) : List ByteArray :=
  aK d.term ++ aK d.read ++ aK d.write ++ [d.use] ++ d.faults.flatMap (fun f => f.aH ++ f.ax ++ [f.name]) ++ (if d.kind = 5 ∨ d.kind = 7 then d.names else [])
def pQ (d : Dc) : ByteArray := if d.kind = 5 then (⟨#[119, 105, 116, 110, 101, 115, 115]⟩ : ByteArray) else if d.kind = 7 then (⟨#[99, 104, 97, 105, 110]⟩ : ByteArray) else d.name
/-- What Uses returns. -/
def tyUses (l : List Dc) (x : ByteArray) : List ByteArray := l.flatMap fun d => if x.size ≠ 0 ∧ (gq d).contains x = true then [pQ d] else []
end Go.Proofs.YtbmglebipepdmaaGreatDoor
namespace Go.Proofs.YtbmglebipepdmaaGreatDoor

end Go.Proofs.YtbmglebipepdmaaGreatDoor
namespace Go.Proofs.YtbmglebipepdmaaGreatDoor

section
variable {ρ : ByteArray → ByteArray} {Y : ByteArray → Prop} {t t' : List (ByteArray × Int)}

end

/-- How declarations stand to mapped ones. -/
structure Maps (ρ : ByteArray → ByteArray) (Y : ByteArray → Prop) (l l' : List Dc) : Prop where
  kinds : ∀ y, Y y → eZ (tab l') (ρ y) = eZ (tab l) y
  servers : aN l' = aN l
  chain : eB l' = eB l
  seen : dY 5 l' = (dY 5 l).map ρ
  byz : ∀ y, Y y → kL l' (ρ y) = kL l y
end Go.Proofs.YtbmglebipepdmaaGreatDoor
namespace Go.Proofs.YtbmglebipepdmaaGreatDoor

/-- A declaration without an error: neither out of order nor twice. -/
theorem lF {l : List Dc} {d : Dc} (h : jF l d = 0) : ¬ (d.kind = 1 ∧ dG l = true) ∧ ¬ (jl d.kind ≠ 0 ∧ eZ (tab l) d.name ≠ 0) := by
  unfold jF at h
  by_cases h1 : d.kind = 1 ∧ dG l = true
  · rw [if_pos h1] at h; cases h
  · by_cases h2 : jl d.kind ≠ 0 ∧ eZ (tab l) d.name ≠ 0
    · rw [if_neg h1, if_pos h2] at h; cases h
    · exact ⟨h1, h2⟩
section
variable {x : ByteArray} {m : List Dc}
/-- Left out: what is called x, which is neither a site nor a witness nor a chain. -/
def without (x : ByteArray) (l : List Dc) : List Dc := l.filter fun d => !(d.name == x)
end

end Go.Proofs.YtbmglebipepdmaaGreatDoor
namespace Go.Proofs.YtbmglebipepdmaaGreatDoor

def yD : List UInt8 := [115, 105, 116, 101, 32, 115, 32, 123, 32, 97, 44, 32, 98, 44, 32, 99, 32, 125, 59, 10, 102, 97, 117, 108, 116, 115, 32, 102, 32, 61, 32, 116, 104, 114, 101, 115, 104, 111, 108, 100, 32, 48, 32, 49, 59, 10, 113, 117, 111, 114, 117, 109, 32, 113, 32, 61, 32, 109, 97, 106, 111, 114, 105, 116, 121, 40, 115, 41, 59, 10, 99, 111, 110, 102, 105, 103, 32, 99, 49, 32, 99, 114, 97, 115, 104, 32, 114, 101, 97, 100, 32, 113, 32, 119, 114, 105, 116, 101, 32, 113, 32, 102, 97, 117, 108, 116, 115, 32, 102, 59]
def yC : List UInt8 := [115, 105, 116, 101, 32, 115, 32, 123, 32, 97, 44, 32, 98, 44, 32, 99, 32, 125, 59, 10, 102, 97, 117, 108, 116, 115, 32, 102, 32, 61, 32, 116, 104, 114, 101, 115, 104, 111, 108, 100, 32, 48, 32, 49, 59, 10, 113, 117, 111, 114, 117, 109, 32, 113, 32, 61, 32, 109, 97, 106, 111, 114, 105, 116, 121, 40, 97, 41, 59, 10, 99, 111, 110, 102, 105, 103, 32, 99, 49, 32, 99, 114, 97, 115, 104, 32, 114, 101, 97, 100, 32, 113, 32, 119, 114, 105, 116, 101, 32, 113, 32, 102, 97, 117, 108, 116, 115, 32, 102, 59]
def yB : List UInt8 := [115, 105, 116, 101, 32, 115, 32, 123, 32, 97, 44, 32, 98, 44, 32, 99, 32, 125, 59, 10, 102, 97, 117, 108, 116, 115, 32, 102, 32, 61, 32, 116, 104, 114, 101, 115, 104, 111, 108, 100, 32, 49, 32, 48, 59, 10, 113, 117, 111, 114, 117, 109, 32, 113, 32, 61, 32, 109, 97, 106, 111, 114, 105, 116, 121, 40, 115, 41, 59, 10, 99, 111, 110, 102, 105, 103, 32, 99, 49, 32, 99, 114, 97, 115, 104, 32, 114, 101, 97, 100, 32, 113, 32, 119, 114, 105, 116, 101, 32, 113, 32, 102, 97, 117, 108, 116, 115, 32, 102, 59]
def yA : List UInt8 := [115, 105, 116, 101, 32, 115, 32, 123, 32, 97, 44, 32, 98, 44, 32, 99, 32, 125, 59, 10, 102, 97, 117, 108, 116, 115, 32, 102, 32, 61, 32, 116, 104, 114, 101, 115, 104, 111, 108, 100, 32, 48, 32, 49, 59, 10, 113, 117, 111, 114, 117, 109, 32, 113, 32, 61, 32, 109, 97, 106, 111, 114, 105, 116, 121, 40, 115, 41, 59, 10, 99, 111, 110, 102, 105, 103, 32, 99, 32, 99, 114, 97, 115, 104, 32, 114, 101, 97, 100, 32, 113, 32, 119, 114, 105, 116, 101, 32, 113, 32, 102, 97, 117, 108, 116, 115, 32, 102, 59]
def sS : List UInt8 := [115, 105, 116, 101, 32, 115, 32, 123, 32, 97, 32, 125, 59, 32, 113, 117, 111, 114, 117, 109, 32, 113, 32, 61, 32, 97, 59, 32, 99, 111, 110, 102, 105, 103, 32, 99, 49, 32, 99, 114, 97, 115, 104, 32, 114, 101, 97, 100, 32, 113, 32, 119, 114, 105, 116, 101, 32, 113, 32, 102, 97, 117, 108, 116, 115, 32, 102, 59]
theorem ty_parse1 : (dV 5 yD).2 = (0, 0) := by kernel_rfl
theorem ty_check1 : fZ (dV 5 yD).1 = (0, 0) := by kernel_rfl
theorem ty_parse2 : (dV 5 yC).2 = (0, 0) := by kernel_rfl
theorem ty_check2 : fZ (dV 5 yC).1 = (3, 11) := by kernel_rfl
theorem ty_parse3 : (dV 5 yB).2 = (0, 0) := by kernel_rfl
theorem ty_check3 : fZ (dV 5 yB).1 = (4, 12) := by kernel_rfl
theorem ty_parse4 : (dV 5 yA).2 = (0, 0) := by kernel_rfl
theorem ty_check4 : fZ (dV 5 yA).1 = (4, 5) := by kernel_rfl
theorem ty_parse5 : (dV 5 sS).2 = (0, 0) := by kernel_rfl
theorem ty_uses : tyUses (dV 5 sS).1 (bs [113]) = [bs [99, 49]] := by kernel_rfl
end Go.Proofs.YtbmglebipepdmaaGreatDoor
