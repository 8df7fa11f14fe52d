/- Arguments opened: a slice of strings, of sets or of faults is read as a list, and what the bound on the arguments' bulk says of it. No condition. -/
import Derived.Test.YtdclhgngjbneiaaDoorFrame
import Derived.Test.YtdclhgngjbneiaaDoorFaults
import Derived.Deep.Slices
import Derived.Deep.SlicePairs
import Derived.Lib.SmallJoins
namespace Go.Proofs.YtdclhgngjbneiaaDoor
open Go.ChangeShapes Go.WideShapes Go.ChangeAt Go.RowKit

theorem bulk_append {H : Type} (l r : List (DataW H)) : Rows.uptoBulkAll (l ++ r) = Rows.uptoBulkAll l + Rows.uptoBulkAll r := by
  induction l with
  | nil => simp [Rows.uptoBulkAll]
  | cons x l ih => simp only [List.cons_append, Rows.uptoBulkAll, ih]; omega
theorem bulk_one {H : Type} (d : DataW H) : 1 ≤ Rows.uptoBulk d := by
  cases d with
  | lit l => cases l <;> simp [Rows.uptoBulk]
  | nil => simp [Rows.uptoBulk]
  | ptr d => simp [Rows.uptoBulk]
  | slice elems spare => simp [Rows.uptoBulk]
  | agg parts => simp [Rows.uptoBulk]
  | iface t d => simp [Rows.uptoBulk]
  | map entries => simp [Rows.uptoBulk]
  | held h => simp [Rows.uptoBulk]
theorem bulk_length {H : Type} (l : List (DataW H)) : l.length ≤ Rows.uptoBulkAll l := by
  induction l with
  | nil => simp [Rows.uptoBulkAll]
  | cons x r ih => have := bulk_one x; simp only [Rows.uptoBulkAll, List.length_cons]; omega
theorem bulk_strs {H : Type} (ss : List ByteArray) : Rows.uptoBulkAll (strs (H := H) ss) = tot ss + ss.length := by
  induction ss with
  | nil => rfl
  | cons x r ih =>
    have e : strs (H := H) (x :: r) = .lit (.string x.data.toList) :: strs r := rfl
    rw [e, Rows.uptoBulkAll, ih]
    simp [Rows.uptoBulk, tot]
    omega
theorem bulk_lits {H : Type} (k : IntKind) (zs : List Int) : Rows.uptoBulkAll (lits (H := H) k zs) = zs.length := by
  induction zs with
  | nil => rfl
  | cons x r ih =>
    have e : lits (H := H) k (x :: r) = .lit (.int k x) :: lits k r := rfl
    rw [e, Rows.uptoBulkAll, ih]
    simp [Rows.uptoBulk]
    omega
theorem bulk_bound {H : Type} {l : List (DataW H)} (hk : Rows.uptoSmall H l = true) : Rows.uptoBulkAll l ≤ 1048576 := of_decide_eq_true hk

theorem cells9 : Tryd.prog.cellsOf 9 = 1 := by kernel_rfl
theorem cellsSet : Tryd.prog.cellsOf 24 = 1 := by kernel_rfl
theorem cellsFault : Tryd.prog.cellsOf 57 = 2 := by kernel_rfl
theorem cellsClash : Tryd.prog.cellsOf 43 = 4 := by kernel_rfl
theorem u16_of {x : Int} (h : (Lit.int .u16 x).wf = true) : ∃ s : Nat, s < 65536 ∧ x = s := by
  simp [Lit.wf, IntKind.min, IntKind.max, IntKind.signed, IntKind.bits] at h
  exact ⟨x.toNat, by omega, by omega⟩

theorem faultVals_length (l : List (Nat × Nat)) : (faultVals l).length = l.length * 2 := by
  induction l with
  | nil => rfl
  | cons x r ih =>
    have e : faultVals (x :: r) = .int .u16 (x.1 : Nat) :: .int .u16 (x.2 : Nat) :: faultVals r := by simp [faultVals]
    rw [e, List.length_cons, List.length_cons, ih, List.length_cons]; omega
/-- Cells that lie in a row are seen. -/
theorem sees_of {w : World} {a : Addr} {n size : Nat} {xs : List Value} (hxs : xs.length = n * size) (hpos : 0 < size) (hcell : ∀ j u, xs[j]? = some u → w.cell? (a.add j) = some u) : Sees w w.heap.size size (some a) n xs := by
  refine ⟨hxs, fun h0 => ?_⟩
  have hp : 0 < xs.length := by rw [hxs]; exact Nat.mul_pos h0 hpos
  have hc := hcell 0 _ (List.getElem?_eq_getElem hp)
  obtain ⟨g, o, sp⟩ := a
  have hsp : sp = none := by simpa [Addr.add] using World.cell?_spot hc
  subst hsp
  refine ⟨g, o, rfl, World.block_lt_of_cell? w _ (by rw [Go.WideShapes.add_plain] at hc; exact hc), fun j u hu => ?_⟩
  rw [← Go.WideShapes.add_plain]; exact hcell j u hu

section
variable {H : Type} {enc : TypeId × Value → H} {W : World}
set_option maxRecDepth 100000 in
/-- A slice of strings. -/
theorem open_names {base b0 : Nat} {v : Value} {d : DataW H} {p : List MemPlace} (hv : Value.okWide Tryd.prog W .any b0 22 v) (h : DataW.Trod enc Tryd.prog W base (fun _ => true) true 22 v d p) :
    ∃ (A : Option Addr) (n c : Nat) (ss : List ByteArray), v = .slice A n c ∧ n = ss.length ∧ n ≤ c ∧ Sees W W.heap.size 1 A n (strVals ss) ∧ tot ss + n ≤ Rows.uptoBulk d := by
  obtain ⟨a0, len, cap, rfl⟩ := okWide_slice Tryd.underlying22 hv
  obtain ⟨fuel, hf⟩ := h
  rcases open_strings Tryd.underlying22 Tryd.underlying9 cells9 hf with ⟨hcs, hx⟩ | ⟨a, len', cap', ss, hcs, _, hl, hm, hz, hx, hcell, hws⟩
  · simp only [Value.cells, List.cons.injEq, Value.slice.injEq, and_true] at hcs
    obtain ⟨rfl, rfl, rfl⟩ := hcs
    exact ⟨none, 0, 0, [], rfl, rfl, Nat.le_refl _, Sees.empty _ _ _ _, by simp [tot]⟩
  · simp only [Value.cells, List.cons.injEq, Value.slice.injEq, and_true] at hcs
    obtain ⟨rfl, rfl, rfl⟩ := hcs
    simp only [if_true] at hz
    simp only [Prod.mk.injEq] at hx
    have hlen : (ss.take len).length = len := by rw [List.length_take]; omega
    refine ⟨some a, len, cap, ss.take len, rfl, hlen.symm, hl, sees_of (by simp [strVals]; omega) (by decide) fun j u hu => ?_, ?_⟩
    · have hj : j < len := by
        have := (List.getElem?_eq_some_iff.1 hu).1
        simp [strVals] at this; omega
      have hjs : j < ss.length := by omega
      rw [hcell j hjs]
      simp only [strVals, List.getElem?_map, List.getElem?_take, if_pos hj, List.getElem?_eq_getElem hjs] at hu
      rw [List.getD_eq_getElem?_getD, List.getElem?_eq_getElem hjs]
      simpa using hu
    · rw [hx.1, Rows.uptoBulk, bulk_strs, hlen]; omega
set_option maxRecDepth 100000 in
/-- A slice of sets. -/
theorem open_sets {base b0 : Nat} {v : Value} {d : DataW H} {p : List MemPlace} (hv : Value.okWide Tryd.prog W .any b0 25 v) (h : DataW.Trod enc Tryd.prog W base (fun _ => true) true 25 v d p) :
    ∃ (A : Option Addr) (n c : Nat) (fs : List Nat), v = .slice A n c ∧ n = fs.length ∧ n ≤ c ∧ Sees W W.heap.size 1 A n (setVals fs) ∧ (∀ j, j < fs.length → fs.getD j 0 < 65536) ∧ n ≤ Rows.uptoBulk d := by
  obtain ⟨a0, len, cap, rfl⟩ := okWide_slice Tryd.underlying25 hv
  obtain ⟨fuel, hf⟩ := h
  rcases open_ints Tryd.underlying25 Tryd.underlying24 cellsSet hf with ⟨hcs, hx⟩ | ⟨a, len', cap', zs, hcs, _, hl, hm, hz, hx, hcell, hws⟩
  · simp only [Value.cells, List.cons.injEq, Value.slice.injEq, and_true] at hcs
    obtain ⟨rfl, rfl, rfl⟩ := hcs
    exact ⟨none, 0, 0, [], rfl, rfl, Nat.le_refl _, Sees.empty _ _ _ _, by simp, by simp⟩
  · simp only [Value.cells, List.cons.injEq, Value.slice.injEq, and_true] at hcs
    obtain ⟨rfl, rfl, rfl⟩ := hcs
    simp only [if_true] at hz
    simp only [Prod.mk.injEq] at hx
    have hlen : (zs.take len).length = len := by rw [List.length_take]; omega
    have hnat : ∀ z ∈ zs, ((z.toNat : Nat) : Int) = z ∧ z.toNat < 65536 := fun z hz => by
      obtain ⟨s, hs, rfl⟩ := u16_of (hws z hz)
      exact ⟨by simp, by simpa using hs⟩
    refine ⟨some a, len, cap, (zs.take len).map Int.toNat, rfl, by simp; omega, hl, sees_of (by simp [setVals]; omega) (by decide) fun j u hu => ?_, fun j hj => ?_, ?_⟩
    · have hj : j < len := by
        have := (List.getElem?_eq_some_iff.1 hu).1
        simp [setVals] at this; omega
      have hjs : j < zs.length := by omega
      rw [hcell j hjs]
      simp only [setVals, List.getElem?_map, List.getElem?_take, if_pos hj, List.getElem?_eq_getElem hjs, Option.map_some, Option.some.injEq] at hu
      rw [List.getD_eq_getElem?_getD, List.getElem?_eq_getElem hjs, ← hu, (hnat _ (List.getElem_mem hjs)).1]
      rfl
    · have hj' : j < len := by simp at hj; omega
      have hjs : j < zs.length := by omega
      rw [List.getD_eq_getElem?_getD, List.getElem?_map, List.getElem?_take, if_pos hj', List.getElem?_eq_getElem hjs]
      exact (hnat _ (List.getElem_mem hjs)).2
    · rw [hx.1, Rows.uptoBulk, bulk_lits, hlen]; omega
set_option maxRecDepth 100000 in
/-- A slice of faults. -/
theorem open_faults {base b0 : Nat} {v : Value} {d : DataW H} {p : List MemPlace} (hv : Value.okWide Tryd.prog W .any b0 39 v) (h : DataW.Trod enc Tryd.prog W base (fun _ => true) true 39 v d p) :
    ∃ (A : Option Addr) (n c : Nat) (fs : List (Nat × Nat)), v = .slice A n c ∧ n = fs.length ∧ n ≤ c ∧ Sees W W.heap.size 2 A n (faultVals fs) ∧ (∀ j, j < fs.length → (fs.getD j (0, 0)).1 < 65536 ∧ (fs.getD j (0, 0)).2 < 65536) ∧ n ≤ Rows.uptoBulk d := by
  obtain ⟨a0, len, cap, rfl⟩ := okWide_slice Tryd.underlying39 hv
  obtain ⟨fuel, hf⟩ := h
  rcases Go.Deep.open_slice_pairs Tryd.underlying39 Tryd.underlying57 cellsFault rfl rfl cellsSet cellsSet hf with ⟨hcs, hx⟩ | ⟨a, len', cap', m, n, V0, V1, D0, D1, P0, P1, hcs, _, hl, hm, hz, hx, hcell⟩
  · simp only [Value.cells, List.cons.injEq, Value.slice.injEq, and_true] at hcs
    obtain ⟨rfl, rfl, rfl⟩ := hcs
    exact ⟨none, 0, 0, [], rfl, rfl, Nat.le_refl _, Sees.empty _ _ _ _, by simp, by simp⟩
  · simp only [Value.cells, List.cons.injEq, Value.slice.injEq, and_true] at hcs
    obtain ⟨rfl, rfl, rfl⟩ := hcs
    simp only [if_true] at hz
    simp only [Prod.mk.injEq] at hx
    have hval : ∀ i, i < m → ∃ s t : Nat, s < 65536 ∧ t < 65536 ∧ V0 i = .int .u16 s ∧ V1 i = .int .u16 t := by
      intro i hi
      obtain ⟨_, _, h0, h1⟩ := hcell i hi
      obtain ⟨k0, e0, _, w0⟩ := DataW.trod_int Tryd.underlying24 h0
      obtain ⟨k1, e1, _, w1⟩ := DataW.trod_int Tryd.underlying24 h1
      obtain ⟨s, hs, rfl⟩ := u16_of w0
      obtain ⟨t, ht, rfl⟩ := u16_of w1
      simp only [List.cons.injEq, and_true] at e0 e1
      exact ⟨s, t, hs, ht, e0, e1⟩
    let nat : Value → Nat := fun v => match v with | .int _ z => z.toNat | _ => 0
    have hlen : ((List.range len).map fun i => (nat (V0 i), nat (V1 i))).length = len := by simp
    have hget : ∀ j, j < len → ((List.range len).map fun i => (nat (V0 i), nat (V1 i))).getD j (0, 0) = (nat (V0 j), nat (V1 j)) := by
      intro j hj
      simp [hj]
    have hnat : ∀ i, i < len → V0 i = .int .u16 (nat (V0 i) : Nat) ∧ V1 i = .int .u16 (nat (V1 i) : Nat) ∧ nat (V0 i) < 65536 ∧ nat (V1 i) < 65536 := by
      intro i hi
      obtain ⟨s, t, hs, ht, e0, e1⟩ := hval i (by omega)
      rw [e0, e1]
      exact ⟨by simp [nat], by simp [nat], by simpa [nat] using hs, by simpa [nat] using ht⟩
    refine ⟨some a, len, cap, (List.range len).map fun i => (nat (V0 i), nat (V1 i)), rfl, hlen.symm, hl, sees_of ?_ (by decide) ?_, fun j hj => ?_, ?_⟩
    · rw [faultVals_length, hlen]
    · intro j u hu
      have hj : j < len * 2 := by
        have := (List.getElem?_eq_some_iff.1 hu).1
        rw [faultVals_length, hlen] at this; exact this
      have hg := faultVals_get ((List.range len).map fun i => (nat (V0 i), nat (V1 i))) (j / 2) (by rw [hlen]; omega)
      rw [hget (j / 2) (by omega)] at hg
      have hn := hnat (j / 2) (by omega)
      have hc := hcell (j / 2) (by omega)
      rcases Nat.mod_two_eq_zero_or_one j with e | e
      · have ej : j / 2 * 2 = j := by omega
        rw [ej] at hg hc
        rw [hg.1] at hu
        rw [hc.1, hn.1]; exact hu
      · have ej : j / 2 * 2 + 1 = j := by omega
        rw [ej] at hg hc
        rw [hg.2] at hu
        rw [hc.2.1, hn.2.1]; exact hu
    · rw [hlen] at hj
      rw [hget j hj]
      exact ⟨(hnat j hj).2.2.1, (hnat j hj).2.2.2⟩
    · rw [hx.1, Rows.uptoBulk]
      have := bulk_length ((List.range len).map fun i => DataW.agg [D0 i, D1 i])
      simp at this; omega
set_option maxRecDepth 100000 in
/-- A clash. -/
theorem open_clash {b0 : Nat} {v : Value} {d : DataW H} {p : List MemPlace} (hv : Value.okWide Tryd.prog W .any b0 43 v) (h : DataW.Trod enc Tryd.prog W 0 (fun _ => true) true 43 v d p) :
    ∃ (r : Int) (x y z : Nat), v = .agg #[.int .i64 r, .int .u16 x, .int .u16 y, .int .u16 z] ∧ x < 65536 ∧ y < 65536 ∧ z < 65536 := by
  obtain ⟨c0, c1, c2, c3, y0, y1, y2, y3, m, rfl, _, _, h0, h1, h2, h3⟩ := Joins.open_agg4 Tryd.underlying43 (by kernel_rfl) cellsClash hv h
  obtain ⟨r, e0, _, _⟩ := DataW.trod_int Tryd.underlying3 h0
  obtain ⟨a, e1, _, w1⟩ := DataW.trod_int Tryd.underlying24 h1
  obtain ⟨b, e2, _, w2⟩ := DataW.trod_int Tryd.underlying24 h2
  obtain ⟨e, e3, _, w3⟩ := DataW.trod_int Tryd.underlying24 h3
  obtain ⟨x, hx, rfl⟩ := u16_of w1
  obtain ⟨y, hy, rfl⟩ := u16_of w2
  obtain ⟨z, hz, rfl⟩ := u16_of w3
  simp only [List.cons.injEq, and_true] at e0 e1 e2 e3
  subst e0 e1 e2 e3
  exact ⟨r, x, y, z, rfl, hx, hy, hz⟩
end
end Go.Proofs.YtdclhgngjbneiaaDoor
