/- The plain law of the types of declarations: what Check, Term, Uses, Unused, Servers and Kind return, as functions on declarations. No condition. The types of a part of declarations: a sublist of declarations with a text has one; a beginning of declarations without an error has none but ErrEmpty. No condition. The types of declarations whose names are mapped: errors stay if kinds stay. No condition. Declarations without an error have none if an unused one is left out. No condition. The examples of the chapter of typing, in plain functions. No condition. -/
import Derived.Test.YtbmglebipepdmaaGreatDoorPkPlain
import Derived.Test.YtbmglebipepdmaaGreatDoorPkRound
import Derived.KernelRfl
namespace Go.Proofs.YtbmglebipepdmaaGreatDoor

theorem qE (l : List ByteArray) (x : ByteArray) : l.contains x = true ↔ x ∈ l := by
 induction l with
 |nil => simp
 |cons a r ih => rw [List.contains_cons, Bool.or_eq_true, ih, fo, List.mem_cons]

def fH (k : Int) : Int := if k = 1 then 1 else if k = 2 then 3 else if k = 3 then 4 else if k = 4 then 5 else if k = 6 then 6 else 0
def AQ (d : Dc) : List (ByteArray × Int) := (if fH d.kind = 0 then [] else [(d.name, fH d.kind)]) ++ (if d.kind = 1 then d.names.map (fun x => (x, 2)) else [])
def tab (l : List Dc) : List (ByteArray × Int) := l.flatMap AQ
def dX : List (ByteArray × Int) → ByteArray → Int
 |[], _ => 0
 |p :: r, x => if p.1 == x then p.2 else dX r x
def aO (l : List Dc) : Nat := (l.map fun d => if d.kind = 1 then d.names.length else 0).sum
def eB (k : Int) (l : List Dc) : Nat := l.countP fun d => decide (d.kind = k)
def dD (l : List Dc) : Bool := l.any fun d => !decide (d.kind = 1)
def dF (l : List Dc) : Bool := l.any fun d => decide (d.kind = 7)
def dI (k : Int) (l : List Dc) : List ByteArray := l.flatMap fun d => if d.kind = k then d.names else []
def isE (t : List (ByteArray × Int)) (x : ByteArray) (ks : List Int) : Nat := if dX t x = 0 then 4 else if ks.contains (dX t x) then 0 else 11
def FI (nd : Int) (ws : List Int) (kids : Nat) : Nat :=
 if 0 < ws.length then (if ws.any (fun w => decide (w < 1) || decide (1000 < w)) then 7 else if nd < 1 ∨ ws.sum < nd then 7 else 0)
 else if nd < 1 ∨ (kids : Int) < nd then 7 else 0
def FX (t : List (ByteArray × Int)) (ns : Nat) (op : Int) (name : ByteArray) (nd : Int) (ws : List Int) (kids : Nat) : Nat :=
 if op = 1 then isE t name [2, 4]
 else if op = 2 then FI nd ws kids
 else if op = 6 ∨ op = 7 ∨ op = 8 then (if name = (⟨#[115, 101, 114, 118, 101, 114, 115]⟩ : ByteArray) then (if ns = 0 then 9 else 0) else isE t name [1])
 else 0
mutual
def iX (t : List (ByteArray × Int)) (ns : Nat) : Tm → Nat
 |.mk op name nd ws kids => if FX t ns op name nd ws kids.length ≠ 0 then FX t ns op name nd ws kids.length else jK t ns kids
def jK (t : List (ByteArray × Int)) (ns : Nat) : List Tm → Nat
 |[] => 0
 |x :: r => if iX t ns x ≠ 0 then iX t ns x else jK t ns r
end
def jR (t : List (ByteArray × Int)) (k : Int) : List ByteArray → List ByteArray → Nat
 |_, [] => 0
 |seen, x :: r => if isE t x [k] ≠ 0 then isE t x [k] else if seen.contains x then 5 else jR t k (seen ++ [x]) r
def mO (t : List (ByteArray × Int)) (ns : Nat) (f : Ft) : Nat :=
 if f.op = 2 then (if (ns : Int) < f.byz + f.iZ then 7 else 0)
 else if f.op = 3 then jR t 2 [] (f.aC ++ f.ak)
 else if f.op = 4 ∨ f.op = 5 then isE t f.name [1]
 else if f.op = 6 then isE t f.name [3]
 else 0
def jk (t : List (ByteArray × Int)) (ns : Nat) : List Ft → Nat
 |[] => 0
 |f :: r => if mO t ns f ≠ 0 then mO t ns f else jk t ns r
def pX (t : List (ByteArray × Int)) (ns : Nat) (nm : ByteArray) : List ByteArray → List ByteArray → Nat
 |_, [] => 0
 |pre, x :: r => if dX t x ≠ 0 ∨ x = nm ∨ pre.contains x = true then 5 else if 12 ≤ ns + pre.length then 3 else pX t ns nm (pre ++ [x]) r

def pu : List (ByteArray × Bool) → ByteArray → Option Bool
 |[], _ => none
 |p :: r, x => if p.1 == x then some p.2 else pu r x
def JC (l : List (ByteArray × Bool)) (x : ByteArray) : Bool := (pu l x).getD false
def ftByz (kn : List (ByteArray × Bool)) (f : Ft) : Bool :=
 if f.op = 2 then decide (0 < f.byz) else if f.op = 3 then decide (0 < f.aC.length) else if f.op = 4 then true else if f.op = 6 then JC kn f.name else false
def nS (kn : List (ByteArray × Bool)) : List Dc → List (ByteArray × Bool)
 |[] => kn
 |d :: r => nS (if d.kind = 2 then kn ++ [(d.name, d.faults.any (ftByz kn))] else kn) r
def j4 (l : List Dc) (x : ByteArray) : Bool := JC (nS [] l) x

def jc (l : List Dc) (d : Dc) : Nat :=
 if d.kind = 1 ∧ dD l = true then 10
 else if fH d.kind ≠ 0 ∧ dX (tab l) d.name ≠ 0 then 5
 else if d.kind = 1 then pX (tab l) (aO l) d.name [] d.names
 else if d.kind = 2 then jk (tab l) (aO l) d.faults
 else if d.kind = 3 then iX (tab l) (aO l) d.term
 else if d.kind = 4 then
  (if 6 ≤ eB 4 l then 3
   else if iX (tab l) (aO l) d.read ≠ 0 then iX (tab l) (aO l) d.read
   else if iX (tab l) (aO l) d.write ≠ 0 then iX (tab l) (aO l) d.write
   else if isE (tab l) d.use [3] ≠ 0 then isE (tab l) d.use [3]
   else if d.proto = (⟨#[99, 114, 97, 115, 104]⟩ : ByteArray) ∧ j4 l d.use = true then 12 else 0)
 else if d.kind = 5 then jR (tab l) 2 (dI 5 l) d.names
 else if d.kind = 6 then (if 6 ≤ eB 6 l then 3 else if d.use.size = 0 then 0 else isE (tab l) d.use [3])
 else if d.kind = 7 then (if dF l = true then 5 else jR (tab l) 5 [] d.names)
 else 0
def kK (pre : List Dc) : List Dc → Int × Nat
 |[] => if aO pre = 0 ∨ eB 4 pre = 0 then (0, 9) else (0, 0)
 |d :: r => if jc pre d ≠ 0 then (d.line, jc pre d) else kK (pre ++ [d]) r
def fw (l : List Dc) : Int × Nat := if (cB l).2 ≠ 0 then (0, (cB l).2) else kK [] l

def iA (d : Dc) : List ByteArray :=
 aI d.term ++ aI d.read ++ aI d.write ++ [d.use] ++ d.faults.flatMap (fun f => f.aC ++ f.ak ++ [f.name]) ++ (if d.kind = 5 ∨ d.kind = 7 then d.names else [])
def jV (d : Dc) : ByteArray := if d.kind = 5 then (⟨#[119, 105, 116, 110, 101, 115, 115]⟩ : ByteArray) else if d.kind = 7 then (⟨#[99, 104, 97, 105, 110]⟩ : ByteArray) else d.name
def tyUses (l : List Dc) (x : ByteArray) : List ByteArray := l.flatMap fun d => if x.size ≠ 0 ∧ (iA d).contains x = true then [jV d] else []
end Go.Proofs.YtbmglebipepdmaaGreatDoor
namespace Go.Proofs.YtbmglebipepdmaaGreatDoor

end Go.Proofs.YtbmglebipepdmaaGreatDoor
namespace Go.Proofs.YtbmglebipepdmaaGreatDoor

section
variable {ρ : ByteArray → ByteArray} {Y : ByteArray → Prop} {t t' : List (ByteArray × Int)}

end

structure Maps (ρ : ByteArray → ByteArray) (Y : ByteArray → Prop) (l l' : List Dc) : Prop where
 kinds : ∀ y, Y y → dX (tab l') (ρ y) = dX (tab l) y
 servers : aO l' = aO l
 chain : dF l' = dF l
 seen : dI 5 l' = (dI 5 l).map ρ
 byz : ∀ y, Y y → j4 l' (ρ y) = j4 l y
end Go.Proofs.YtbmglebipepdmaaGreatDoor
namespace Go.Proofs.YtbmglebipepdmaaGreatDoor

theorem kI {l : List Dc} {d : Dc} (h : jc l d = 0) : ¬ (d.kind = 1 ∧ dD l = true) ∧ ¬ (fH d.kind ≠ 0 ∧ dX (tab l) d.name ≠ 0) := by
 unfold jc at h
 by_cases h1 : d.kind = 1 ∧ dD l = true
 ·rw [if_pos h1] at h; cases h
 ·by_cases h2 : fH d.kind ≠ 0 ∧ dX (tab l) d.name ≠ 0
  ·rw [if_neg h1, if_pos h2] at h; cases h
  ·exact ⟨h1, h2⟩
section
variable {x : ByteArray} {m : List Dc}
def without (x : ByteArray) (l : List Dc) : List Dc := l.filter fun d => !(d.name == x)
end

end Go.Proofs.YtbmglebipepdmaaGreatDoor
namespace Go.Proofs.YtbmglebipepdmaaGreatDoor

def xh : List UInt8 := [115, 105, 116, 101, 32, 115, 32, 123, 32, 97, 44, 32, 98, 44, 32, 99, 32, 125, 59, 10, 102, 97, 117, 108, 116, 115, 32, 102, 32, 61, 32, 116, 104, 114, 101, 115, 104, 111, 108, 100, 32, 48, 32, 49, 59, 10, 113, 117, 111, 114, 117, 109, 32, 113, 32, 61, 32, 109, 97, 106, 111, 114, 105, 116, 121, 40, 115, 41, 59, 10, 99, 111, 110, 102, 105, 103, 32, 99, 49, 32, 99, 114, 97, 115, 104, 32, 114, 101, 97, 100, 32, 113, 32, 119, 114, 105, 116, 101, 32, 113, 32, 102, 97, 117, 108, 116, 115, 32, 102, 59]
def xg : List UInt8 := [115, 105, 116, 101, 32, 115, 32, 123, 32, 97, 44, 32, 98, 44, 32, 99, 32, 125, 59, 10, 102, 97, 117, 108, 116, 115, 32, 102, 32, 61, 32, 116, 104, 114, 101, 115, 104, 111, 108, 100, 32, 48, 32, 49, 59, 10, 113, 117, 111, 114, 117, 109, 32, 113, 32, 61, 32, 109, 97, 106, 111, 114, 105, 116, 121, 40, 97, 41, 59, 10, 99, 111, 110, 102, 105, 103, 32, 99, 49, 32, 99, 114, 97, 115, 104, 32, 114, 101, 97, 100, 32, 113, 32, 119, 114, 105, 116, 101, 32, 113, 32, 102, 97, 117, 108, 116, 115, 32, 102, 59]
def wZ : List UInt8 := [115, 105, 116, 101, 32, 115, 32, 123, 32, 97, 44, 32, 98, 44, 32, 99, 32, 125, 59, 10, 102, 97, 117, 108, 116, 115, 32, 102, 32, 61, 32, 116, 104, 114, 101, 115, 104, 111, 108, 100, 32, 49, 32, 48, 59, 10, 113, 117, 111, 114, 117, 109, 32, 113, 32, 61, 32, 109, 97, 106, 111, 114, 105, 116, 121, 40, 115, 41, 59, 10, 99, 111, 110, 102, 105, 103, 32, 99, 49, 32, 99, 114, 97, 115, 104, 32, 114, 101, 97, 100, 32, 113, 32, 119, 114, 105, 116, 101, 32, 113, 32, 102, 97, 117, 108, 116, 115, 32, 102, 59]
def wY : List UInt8 := [115, 105, 116, 101, 32, 115, 32, 123, 32, 97, 44, 32, 98, 44, 32, 99, 32, 125, 59, 10, 102, 97, 117, 108, 116, 115, 32, 102, 32, 61, 32, 116, 104, 114, 101, 115, 104, 111, 108, 100, 32, 48, 32, 49, 59, 10, 113, 117, 111, 114, 117, 109, 32, 113, 32, 61, 32, 109, 97, 106, 111, 114, 105, 116, 121, 40, 115, 41, 59, 10, 99, 111, 110, 102, 105, 103, 32, 99, 32, 99, 114, 97, 115, 104, 32, 114, 101, 97, 100, 32, 113, 32, 119, 114, 105, 116, 101, 32, 113, 32, 102, 97, 117, 108, 116, 115, 32, 102, 59]
def rY : List UInt8 := [115, 105, 116, 101, 32, 115, 32, 123, 32, 97, 32, 125, 59, 32, 113, 117, 111, 114, 117, 109, 32, 113, 32, 61, 32, 97, 59, 32, 99, 111, 110, 102, 105, 103, 32, 99, 49, 32, 99, 114, 97, 115, 104, 32, 114, 101, 97, 100, 32, 113, 32, 119, 114, 105, 116, 101, 32, 113, 32, 102, 97, 117, 108, 116, 115, 32, 102, 59]
theorem ty_parse1 : (dH 5 xh).2 = (0, 0) := by kernel_rfl
theorem ty_check1 : fw (dH 5 xh).1 = (0, 0) := by kernel_rfl
theorem ty_parse2 : (dH 5 xg).2 = (0, 0) := by kernel_rfl
theorem ty_check2 : fw (dH 5 xg).1 = (3, 11) := by kernel_rfl
theorem ty_parse3 : (dH 5 wZ).2 = (0, 0) := by kernel_rfl
theorem ty_check3 : fw (dH 5 wZ).1 = (4, 12) := by kernel_rfl
theorem ty_parse4 : (dH 5 wY).2 = (0, 0) := by kernel_rfl
theorem ty_check4 : fw (dH 5 wY).1 = (4, 5) := by kernel_rfl
theorem ty_parse5 : (dH 5 rY).2 = (0, 0) := by kernel_rfl
theorem ty_uses : tyUses (dH 5 rY).1 (bs [113]) = [bs [99, 49]] := by kernel_rfl
end Go.Proofs.YtbmglebipepdmaaGreatDoor
