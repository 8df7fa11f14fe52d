/- A declaration's cells as a loop reads them. No condition. The contracts of the aU kind and find: the kind that a declaration declares, the kind of a name in a table. Tables of a length up to a bound. The contract of the aU Table: what declarations declare, in order. Declarations of a size up to a bound. -/
import Derived.Test.YtmohibkomlhlaaaGreatDoorPkTya
import Derived.Test.YtmohibkomlhlaaaGreatDoorPkNms
import Derived.Test.YtmohibkomlhlaaaGreatDoorPkPare
import Derived.Test.YtmohibkomlhlaaaGreatDoorPkEq
set_option maxHeartbeats 1000000
namespace Go.Proofs.YtmohibkomlhlaaaGreatDoor
open Go.RowKit
theorem jD {w : World} {S : Nat → Prop} {d : Dc} {v : Value} (h : dx w S d v) : ∃ (cs : List Value) (nA : Option Addr) (nc : Nat), cs.length = 22 ∧ cs.toArray.all (·.oneCell') = true ∧ v = .agg cs.toArray ∧
  cs[0]? = some (.int .i64 d.kind) ∧ cs[1]? = some (.int .i64 d.line) ∧ cs[2]? = some (.string d.name) ∧ cs[3]? = some (.slice nA d.names.length nc) ∧ cs[21]? = some (.string d.use) ∧ ak w S 1 nA d.names.length (aA d.names) ∧ d.names.length ≤ nc := by
 obtain ⟨nA, nc, fA, fc, vt, vr, vw, hv, h1, h2, -, -, h5, h6, h7⟩ := h
 obtain ⟨o1, m1, d1, wA1, wn1, wc1, kA1, kn1, kc1, rfl⟩ := h5.form
 obtain ⟨o2, m2, d2, wA2, wn2, wc2, kA2, kn2, kc2, rfl⟩ := h6.form
 obtain ⟨o3, m3, d3, wA3, wn3, wc3, kA3, kn3, kc3, rfl⟩ := h7.form
 clear h5 h6 h7
 simp only [Value.cells, List.append_toArray, List.cons_append, List.nil_append] at hv
 refine ⟨[.int .i64 d.kind, .int .i64 d.line, .string d.name, .slice nA d.names.length nc, .slice fA d.faults.length fc, .int .i64 o1, .string m1, .int .i64 d1, .slice wA1 wn1 wc1, .slice kA1 kn1 kc1, .string d.proto, .int .i64 o2, .string m2, .int .i64 d2, .slice wA2 wn2 wc2, .slice kA2 kn2 kc2, .int .i64 o3, .string m3, .int .i64 d3, .slice wA3 wn3 wc3, .slice kA3 kn3 kc3, .string d.use], nA, nc, rfl, all_oneCell_toArray ?_, hv, rfl, rfl, rfl, rfl, rfl, h1, h2⟩
 intro u hu
 simp only [List.mem_cons, List.not_mem_nil, or_false] at hu
 rcases hu with rfl | rfl | rfl | rfl | rfl | rfl | rfl | rfl | rfl | rfl | rfl | rfl | rfl | rfl | rfl | rfl | rfl | rfl | rfl | rfl | rfl | rfl <;> rfl
theorem eH {W : World} {b j : Nat} {cs : List Value} {T : TypeId} {u : Value} (h : W.heap[b]? = some (.cells cs.toArray T (0, 0))) (hj : cs[j]? = some u) : W.cell? ⟨b, j, none⟩ = some u := by
 rw [cell_of_row W b j _ _ _ h]; simpa using hj
theorem oh (a b : List ByteArray) : aA (a ++ b) = aA a ++ aA b := by simp [aA]
theorem xE {w : World} {b : Nat} {v0 v1 v2 v3 v4 : Value} {t : TypeId} (h : w.heap[b]? = some (.cells #[v0, v1, v2, v3, v4] t (0, 0))) : w.cell? ⟨b, 0, none⟩ = some v0 ∧ w.cell? ⟨b, 1, none⟩ = some v1 ∧ w.cell? ⟨b, 2, none⟩ = some v2 ∧ w.cell? ⟨b, 3, none⟩ = some v3 ∧ w.cell? ⟨b, 4, none⟩ = some v4 := by
 obtain ⟨h0, h1, h2, h3, h4, -⟩ := sI h
 exact ⟨h0, h1, h2, h3, h4⟩
theorem Ec (l : List Dc) (k : Nat) (h : k < l.length) : l.take (k + 1) = l.take k ++ [l[k]] := List.take_succ_eq_append_getElem h
theorem sum_takeA {α : Type} (f : α → Nat) (l : List α) (k : Nat) : ((l.take k).map f).sum ≤ (l.map f).sum := by
 conv => rhs; rw [← List.take_append_drop k l, List.map_append, List.sum_append]
 omega
theorem lD {α β : Type} (f : α → List β) (l : List α) (k : Nat) : ((l.take k).flatMap f).length ≤ (l.flatMap f).length := by
 conv => rhs; rw [← List.take_append_drop k l, List.flatMap_append, List.length_append]
 omega
end Go.Proofs.YtmohibkomlhlaaaGreatDoor
namespace Go.Proofs.YtmohibkomlhlaaaGreatDoor
open Go.RowKit
section
variable {t : List (ByteArray × Int)} {A : Option Addr} {w : World} {S : Nat → Prop}
theorem ba_tl (a b : ByteArray) : (a == b) = (a.toList == b.toList) := by
 rw [Bool.eq_iff_iff, eB, beq_iff_eq, ByteArray.toList_eq, ByteArray.toList_eq]
 exact ⟨fun h => by rw [h], fun h => ByteArray.ext (Array.toList_inj.1 h)⟩
end
end Go.Proofs.YtmohibkomlhlaaaGreatDoor
namespace Go.Proofs.YtmohibkomlhlaaaGreatDoor
open Go.RowKit
end Go.Proofs.YtmohibkomlhlaaaGreatDoor
