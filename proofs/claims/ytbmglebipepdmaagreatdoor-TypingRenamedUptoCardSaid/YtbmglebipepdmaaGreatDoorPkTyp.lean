/- The plain law of the types of declarations: what Check, Term, Uses, Unused, Servers and Kind return, as functions on declarations. No condition. The types of a part of declarations: a sublist of declarations with a text has one; a beginning of declarations without an error has none but ErrEmpty. No condition. The types of declarations whose names are mapped: errors stay if kinds stay. No condition. Declarations without an error have none if an unused one is left out. No condition. The examples of the chapter of typing, in plain functions. No condition. -/
import Derived.Test.YtbmglebipepdmaaGreatDoorPkPlain
import Derived.Test.YtbmglebipepdmaaGreatDoorPkRound
import Derived.KernelRfl
namespace Go.Proofs.YtbmglebipepdmaaGreatDoor

theorem nZ (l : List ByteArray) (x : ByteArray) : l.contains x = true ↔ x ∈ l := by
 induction l with
 |nil => simp
 |cons a r ih => rw [List.contains_cons, Bool.or_eq_true, ih, eF, List.mem_cons]

def gy (k : Int) : Int := if k = 1 then 1 else if k = 2 then 3 else if k = 3 then 4 else if k = 4 then 5 else if k = 6 then 6 else 0
def Ay (d : Dc) : List (ByteArray × Int) := (if gy d.kind = 0 then [] else [(d.name, gy d.kind)]) ++ (if d.kind = 1 then d.names.map (fun x => (x, 2)) else [])
def tab (l : List Dc) : List (ByteArray × Int) := l.flatMap Ay
def dZ : List (ByteArray × Int) → ByteArray → Int
 |[], _ => 0
 |p :: r, x => if p.1 == x then p.2 else dZ r x
def aN (l : List Dc) : Nat := (l.map fun d => if d.kind = 1 then d.names.length else 0).sum
def eT (k : Int) (l : List Dc) : Nat := l.countP fun d => decide (d.kind = k)
def dA (l : List Dc) : Bool := l.any fun d => !decide (d.kind = 1)
def dw (l : List Dc) : Bool := l.any fun d => decide (d.kind = 7)
def dO (k : Int) (l : List Dc) : List ByteArray := l.flatMap fun d => if d.kind = k then d.names else []
def isE (t : List (ByteArray × Int)) (x : ByteArray) (ks : List Int) : Nat := if dZ t x = 0 then 4 else if ks.contains (dZ t x) then 0 else 11
def H6 (nd : Int) (ws : List Int) (kids : Nat) : Nat :=
 if 0 < ws.length then (if ws.any (fun w => decide (w < 1) || decide (1000 < w)) then 7 else if nd < 1 ∨ ws.sum < nd then 7 else 0)
 else if nd < 1 ∨ (kids : Int) < nd then 7 else 0
def Iy (t : List (ByteArray × Int)) (ns : Nat) (op : Int) (name : ByteArray) (nd : Int) (ws : List Int) (kids : Nat) : Nat :=
 if op = 1 then isE t name [2, 4]
 else if op = 2 then H6 nd ws kids
 else if op = 6 ∨ op = 7 ∨ op = 8 then (if name = (⟨#[115, 101, 114, 118, 101, 114, 115]⟩ : ByteArray) then (if ns = 0 then 9 else 0) else isE t name [1])
 else 0
mutual
def jA (t : List (ByteArray × Int)) (ns : Nat) : Tm → Nat
 |.mk op name nd ws kids => if Iy t ns op name nd ws kids.length ≠ 0 then Iy t ns op name nd ws kids.length else kG t ns kids
def kG (t : List (ByteArray × Int)) (ns : Nat) : List Tm → Nat
 |[] => 0
 |x :: r => if jA t ns x ≠ 0 then jA t ns x else kG t ns r
end
def kM (t : List (ByteArray × Int)) (k : Int) : List ByteArray → List ByteArray → Nat
 |_, [] => 0
 |seen, x :: r => if isE t x [k] ≠ 0 then isE t x [k] else if seen.contains x then 5 else kM t k (seen ++ [x]) r
def nU (t : List (ByteArray × Int)) (ns : Nat) (f : Ft) : Nat :=
 if f.op = 2 then (if (ns : Int) < f.byz + f.je then 7 else 0)
 else if f.op = 3 then kM t 2 [] (f.ay ++ f.ak)
 else if f.op = 4 ∨ f.op = 5 then isE t f.name [1]
 else if f.op = 6 then isE t f.name [3]
 else 0
def jT (t : List (ByteArray × Int)) (ns : Nat) : List Ft → Nat
 |[] => 0
 |f :: r => if nU t ns f ≠ 0 then nU t ns f else jT t ns r
def rG (t : List (ByteArray × Int)) (ns : Nat) (nm : ByteArray) : List ByteArray → List ByteArray → Nat
 |_, [] => 0
 |pre, x :: r => if dZ t x ≠ 0 ∨ x = nm ∨ pre.contains x = true then 5 else if 12 ≤ ns + pre.length then 3 else rG t ns nm (pre ++ [x]) r

def nS : List (ByteArray × Bool) → ByteArray → Option Bool
 |[], _ => none
 |p :: r, x => if p.1 == x then some p.2 else nS r x
def FJ (l : List (ByteArray × Bool)) (x : ByteArray) : Bool := (nS l x).getD false
def Aq (kn : List (ByteArray × Bool)) (f : Ft) : Bool :=
 if f.op = 2 then decide (0 < f.byz) else if f.op = 3 then decide (0 < f.ay.length) else if f.op = 4 then true else if f.op = 6 then FJ kn f.name else false
def mQ (kn : List (ByteArray × Bool)) : List Dc → List (ByteArray × Bool)
 |[] => kn
 |d :: r => mQ (if d.kind = 2 then kn ++ [(d.name, d.faults.any (Aq kn))] else kn) r
def kN (l : List Dc) (x : ByteArray) : Bool := FJ (mQ [] l) x

def jv (l : List Dc) (d : Dc) : Nat :=
 if d.kind = 1 ∧ dA l = true then 10
 else if gy d.kind ≠ 0 ∧ dZ (tab l) d.name ≠ 0 then 5
 else if d.kind = 1 then rG (tab l) (aN l) d.name [] d.names
 else if d.kind = 2 then jT (tab l) (aN l) d.faults
 else if d.kind = 3 then jA (tab l) (aN l) d.term
 else if d.kind = 4 then
  (if 6 ≤ eT 4 l then 3
   else if jA (tab l) (aN l) d.read ≠ 0 then jA (tab l) (aN l) d.read
   else if jA (tab l) (aN l) d.write ≠ 0 then jA (tab l) (aN l) d.write
   else if isE (tab l) d.use [3] ≠ 0 then isE (tab l) d.use [3]
   else if d.proto = (⟨#[99, 114, 97, 115, 104]⟩ : ByteArray) ∧ kN l d.use = true then 12 else 0)
 else if d.kind = 5 then kM (tab l) 2 (dO 5 l) d.names
 else if d.kind = 6 then (if 6 ≤ eT 6 l then 3 else if d.use.size = 0 then 0 else isE (tab l) d.use [3])
 else if d.kind = 7 then (if dw l = true then 5 else kM (tab l) 5 [] d.names)
 else 0
def jb (pre : List Dc) : List Dc → Int × Nat
 |[] => if aN pre = 0 ∨ eT 4 pre = 0 then (0, 9) else (0, 0)
 |d :: r => if jv pre d ≠ 0 then (d.line, jv pre d) else jb (pre ++ [d]) r
def dP (l : List Dc) : Int × Nat := if (bH l).2 ≠ 0 then (0, (bH l).2) else jb [] l

def fq (d : Dc) : List ByteArray :=
 bB d.term ++ bB d.read ++ bB d.write ++ [d.use] ++ d.faults.flatMap (fun f => f.ay ++ f.ak ++ [f.name]) ++ (if d.kind = 5 ∨ d.kind = 7 then d.names else [])
def kR (d : Dc) : ByteArray := if d.kind = 5 then (⟨#[119, 105, 116, 110, 101, 115, 115]⟩ : ByteArray) else if d.kind = 7 then (⟨#[99, 104, 97, 105, 110]⟩ : ByteArray) else d.name
def tyUses (l : List Dc) (x : ByteArray) : List ByteArray := l.flatMap fun d => if x.size ≠ 0 ∧ (fq d).contains x = true then [kR d] else []
end Go.Proofs.YtbmglebipepdmaaGreatDoor
namespace Go.Proofs.YtbmglebipepdmaaGreatDoor

end Go.Proofs.YtbmglebipepdmaaGreatDoor
namespace Go.Proofs.YtbmglebipepdmaaGreatDoor

section
variable {ρ : ByteArray → ByteArray} {Y : ByteArray → Prop} {t t' : List (ByteArray × Int)}

end

structure Maps (ρ : ByteArray → ByteArray) (Y : ByteArray → Prop) (l l' : List Dc) : Prop where
 kinds : ∀ y, Y y → dZ (tab l') (ρ y) = dZ (tab l) y
 servers : aN l' = aN l
 chain : dw l' = dw l
 seen : dO 5 l' = (dO 5 l).map ρ
 byz : ∀ y, Y y → kN l' (ρ y) = kN l y
end Go.Proofs.YtbmglebipepdmaaGreatDoor
namespace Go.Proofs.YtbmglebipepdmaaGreatDoor

theorem lJ {l : List Dc} {d : Dc} (h : jv l d = 0) : ¬ (d.kind = 1 ∧ dA l = true) ∧ ¬ (gy d.kind ≠ 0 ∧ dZ (tab l) d.name ≠ 0) := by
 unfold jv at h
 by_cases h1 : d.kind = 1 ∧ dA l = true
 ·rw [if_pos h1] at h; cases h
 ·by_cases h2 : gy d.kind ≠ 0 ∧ dZ (tab l) d.name ≠ 0
  ·rw [if_neg h1, if_pos h2] at h; cases h
  ·exact ⟨h1, h2⟩
section
variable {x : ByteArray} {m : List Dc}
def without (x : ByteArray) (l : List Dc) : List Dc := l.filter fun d => !(d.name == x)
end

end Go.Proofs.YtbmglebipepdmaaGreatDoor
namespace Go.Proofs.YtbmglebipepdmaaGreatDoor

def yV : List UInt8 := [115, 105, 116, 101, 32, 115, 32, 123, 32, 97, 44, 32, 98, 44, 32, 99, 32, 125, 59, 10, 102, 97, 117, 108, 116, 115, 32, 102, 32, 61, 32, 116, 104, 114, 101, 115, 104, 111, 108, 100, 32, 48, 32, 49, 59, 10, 113, 117, 111, 114, 117, 109, 32, 113, 32, 61, 32, 109, 97, 106, 111, 114, 105, 116, 121, 40, 115, 41, 59, 10, 99, 111, 110, 102, 105, 103, 32, 99, 49, 32, 99, 114, 97, 115, 104, 32, 114, 101, 97, 100, 32, 113, 32, 119, 114, 105, 116, 101, 32, 113, 32, 102, 97, 117, 108, 116, 115, 32, 102, 59]
def yU : List UInt8 := [115, 105, 116, 101, 32, 115, 32, 123, 32, 97, 44, 32, 98, 44, 32, 99, 32, 125, 59, 10, 102, 97, 117, 108, 116, 115, 32, 102, 32, 61, 32, 116, 104, 114, 101, 115, 104, 111, 108, 100, 32, 48, 32, 49, 59, 10, 113, 117, 111, 114, 117, 109, 32, 113, 32, 61, 32, 109, 97, 106, 111, 114, 105, 116, 121, 40, 97, 41, 59, 10, 99, 111, 110, 102, 105, 103, 32, 99, 49, 32, 99, 114, 97, 115, 104, 32, 114, 101, 97, 100, 32, 113, 32, 119, 114, 105, 116, 101, 32, 113, 32, 102, 97, 117, 108, 116, 115, 32, 102, 59]
def yT : List UInt8 := [115, 105, 116, 101, 32, 115, 32, 123, 32, 97, 44, 32, 98, 44, 32, 99, 32, 125, 59, 10, 102, 97, 117, 108, 116, 115, 32, 102, 32, 61, 32, 116, 104, 114, 101, 115, 104, 111, 108, 100, 32, 49, 32, 48, 59, 10, 113, 117, 111, 114, 117, 109, 32, 113, 32, 61, 32, 109, 97, 106, 111, 114, 105, 116, 121, 40, 115, 41, 59, 10, 99, 111, 110, 102, 105, 103, 32, 99, 49, 32, 99, 114, 97, 115, 104, 32, 114, 101, 97, 100, 32, 113, 32, 119, 114, 105, 116, 101, 32, 113, 32, 102, 97, 117, 108, 116, 115, 32, 102, 59]
def yS : List UInt8 := [115, 105, 116, 101, 32, 115, 32, 123, 32, 97, 44, 32, 98, 44, 32, 99, 32, 125, 59, 10, 102, 97, 117, 108, 116, 115, 32, 102, 32, 61, 32, 116, 104, 114, 101, 115, 104, 111, 108, 100, 32, 48, 32, 49, 59, 10, 113, 117, 111, 114, 117, 109, 32, 113, 32, 61, 32, 109, 97, 106, 111, 114, 105, 116, 121, 40, 115, 41, 59, 10, 99, 111, 110, 102, 105, 103, 32, 99, 32, 99, 114, 97, 115, 104, 32, 114, 101, 97, 100, 32, 113, 32, 119, 114, 105, 116, 101, 32, 113, 32, 102, 97, 117, 108, 116, 115, 32, 102, 59]
def ug : List UInt8 := [115, 105, 116, 101, 32, 115, 32, 123, 32, 97, 32, 125, 59, 32, 113, 117, 111, 114, 117, 109, 32, 113, 32, 61, 32, 97, 59, 32, 99, 111, 110, 102, 105, 103, 32, 99, 49, 32, 99, 114, 97, 115, 104, 32, 114, 101, 97, 100, 32, 113, 32, 119, 114, 105, 116, 101, 32, 113, 32, 102, 97, 117, 108, 116, 115, 32, 102, 59]
theorem ty_parse1 : (dQ 5 yV).2 = (0, 0) := by kernel_rfl
theorem ty_check1 : dP (dQ 5 yV).1 = (0, 0) := by kernel_rfl
theorem ty_parse2 : (dQ 5 yU).2 = (0, 0) := by kernel_rfl
theorem ty_check2 : dP (dQ 5 yU).1 = (3, 11) := by kernel_rfl
theorem ty_parse3 : (dQ 5 yT).2 = (0, 0) := by kernel_rfl
theorem ty_check3 : dP (dQ 5 yT).1 = (4, 12) := by kernel_rfl
theorem ty_parse4 : (dQ 5 yS).2 = (0, 0) := by kernel_rfl
theorem ty_check4 : dP (dQ 5 yS).1 = (4, 5) := by kernel_rfl
theorem ty_parse5 : (dQ 5 ug).2 = (0, 0) := by kernel_rfl
theorem ty_uses : tyUses (dQ 5 ug).1 (bs [113]) = [bs [99, 49]] := by kernel_rfl
end Go.Proofs.YtbmglebipepdmaaGreatDoor
