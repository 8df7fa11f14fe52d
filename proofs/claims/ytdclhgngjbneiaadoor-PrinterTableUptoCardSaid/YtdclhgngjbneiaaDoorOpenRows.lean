/- A slice of slices of strings opened as rows, with what the bound on the bulk says of them. No condition. -/
import Derived.Test.YtdclhgngjbneiaaDoorTableLaw
import Derived.Test.YtdclhgngjbneiaaDoorConfigLaw
namespace Go.Proofs.YtdclhgngjbneiaaDoor
open Go.ChangeShapes Go.WideShapes Go.ChangeAt Go.RowKit
section
variable {H : Type} {enc : TypeId × Value → H} {W : World}

set_option maxRecDepth 100000 in
theorem namesTB {base fuel : Nat} {held : Bool} {v : Value} {x : DataW H × List MemPlace} (hf : DataW.trod enc Tryd.prog W base (fun _ => true) held fuel 22 [v] = some x) :
    ∃ (A : Option Addr) (n c : Nat) (ss : List ByteArray), v = .slice A n c ∧ n = ss.length ∧ n ≤ c ∧ Sees W W.heap.size 1 A n (strVals ss) ∧ tot ss + n ≤ Rows.uptoBulk x.1 := by
  rcases open_strings Tryd.underlying22 Tryd.underlying9 cells9 hf with ⟨hcs, hx⟩ | ⟨a, len, cap, ss, hcs, _, hl, hm, hz, hx, hcell, hws⟩
  · simp only [List.cons.injEq, and_true] at hcs
    exact ⟨none, 0, 0, [], hcs, rfl, Nat.zero_le _, Sees.empty _ _ _ _, by simp [tot]⟩
  · simp only [List.cons.injEq, and_true] at hcs
    simp only [if_true] at hz
    have hlen : (ss.take len).length = len := by rw [List.length_take]; omega
    refine ⟨some a, len, cap, ss.take len, hcs, hlen.symm, hl, sees_of (by simp [strVals]; omega) (by decide) fun j u hu => ?_, ?_⟩
    · have hj : j < len := by
        have := (List.getElem?_eq_some_iff.1 hu).1
        simp [strVals] at this; omega
      have hjs : j < ss.length := by omega
      rw [hcell j hjs]
      simp only [strVals, List.getElem?_map, List.getElem?_take, if_pos hj, List.getElem?_eq_getElem hjs] at hu
      rw [List.getD_eq_getElem?_getD, List.getElem?_eq_getElem hjs]
      simpa using hu
    · rw [hx, Rows.uptoBulk, bulk_strs, hlen]; omega
theorem bulk_part {l : List (DataW H)} {d : DataW H} (h : d ∈ l) : Rows.uptoBulk d ≤ Rows.uptoBulkAll l := by
  induction l with
  | nil => cases h
  | cons x r ih =>
    simp only [Rows.uptoBulkAll]
    rcases List.mem_cons.1 h with rfl | e
    · omega
    · have := ih e; omega
theorem cellsRow : Tryd.prog.cellsOf 22 = 1 := by kernel_rfl
set_option maxRecDepth 100000 in
/-- Rows. -/
theorem open_rows {b0 : Nat} {v : Value} {d : DataW H} {p : List MemPlace} (hv : Value.okWide Tryd.prog W .any b0 50 v) (h : DataW.Trod enc Tryd.prog W 0 (fun _ => true) true 50 v d p) :
    ∃ (A : Option Addr) (n c : Nat) (rows : List (List ByteArray)), v = .slice A n c ∧ n = rows.length ∧ SeesRowsC W W.heap.size A rows ∧ n ≤ Rows.uptoBulk d ∧ (∀ k, (rows.getD k []).length ≤ Rows.uptoBulk d) ∧ (∀ k, tot (rows.getD k []) ≤ Rows.uptoBulk d) := by
  obtain ⟨a0, len, cap, rfl⟩ := okWide_slice Tryd.underlying50 hv
  obtain ⟨fuel, hf⟩ := h
  rcases Go.Deep.open_slice Tryd.underlying50 hf with ⟨hcs, hx⟩ | ⟨a, len', cap', m, N, D, Pl, hcs, _, hl, hm, hmm, hx, hi⟩
  · simp only [Value.cells, List.cons.injEq, Value.slice.injEq, and_true] at hcs
    obtain ⟨rfl, rfl, rfl⟩ := hcs
    exact ⟨none, 0, 0, [], rfl, rfl, fun k hk => absurd hk (by simp), Nat.zero_le _, by simp, by simp [tot]⟩
  · simp only [Value.cells, List.cons.injEq, Value.slice.injEq, and_true] at hcs
    obtain ⟨rfl, rfl, rfl⟩ := hcs
    have hlm : len ≤ m := by rw [hmm]; simp; omega
    simp only [Prod.mk.injEq] at hx
    have hbulk : Rows.uptoBulkAll ((List.range len).map D) + 1 ≤ Rows.uptoBulk d := by rw [hx.1, Rows.uptoBulk]; omega
    have hlenb := bulk_length ((List.range len).map D)
    simp only [List.length_map, List.length_range] at hlenb
    obtain ⟨rows, hrl, hp⟩ := list_of (fun i (row : List ByteArray) => ∃ Ak ck, W.cell? (a.add i) = some (.slice Ak row.length ck) ∧ Sees W W.heap.size 1 Ak row.length (strVals row) ∧ row.length ≤ ck ∧ tot row + row.length ≤ Rows.uptoBulk d) len (by
      intro i hil
      obtain ⟨cs', hc, ht'⟩ := hi i (by omega)
      rw [cellsRow, Nat.mul_one] at hc
      obtain ⟨_, hcl, hat⟩ := World.cells?_some hc
      obtain ⟨u, rfl⟩ : ∃ u, cs' = [u] := by
        match cs', hcl with
        | [u], _ => exact ⟨u, rfl⟩
      obtain ⟨Ak, nk, ck, row, rfl, h1, h2, h3, h4⟩ := namesTB ht'
      subst h1
      have h0 := hat 0 (by decide)
      have hmem : D i ∈ (List.range len).map D := List.mem_map.2 ⟨i, List.mem_range.2 hil, rfl⟩
      have h5 := bulk_part hmem
      refine ⟨row, Ak, ck, ?_, h3, h2, by simp only at h4; omega⟩
      have ha : (a.add i).add 0 = a.add i := by unfold Addr.add; simp
      rw [ha] at h0
      simpa using h0)
    refine ⟨some a, len, cap, rows, rfl, hrl.symm, fun k hk => ?_, by omega, fun k => ?_, fun k => ?_⟩
    · have hg := List.getElem?_eq_getElem hk
      obtain ⟨Ak, ck, h1, h2, h3, _⟩ := hp k _ hg
      have hgd : rows.getD k [] = rows[k] := by simp [hk]
      rw [hgd]
      obtain ⟨Ak0, ck0, h10, _⟩ := hp 0 _ (List.getElem?_eq_getElem (show 0 < rows.length by omega))
      obtain ⟨g, o, spot⟩ := a
      have hspot : spot = none := by simpa [Addr.add] using World.cell?_spot h10
      subst hspot
      refine ⟨g, o, Ak, ck, rfl, World.block_lt_of_cell? W _ h10, ?_, h2, h3⟩
      rw [← Go.WideShapes.add_plain]; exact h1
    · by_cases hk : k < rows.length
      · obtain ⟨Ak, ck, _, _, _, h4⟩ := hp k _ (List.getElem?_eq_getElem hk)
        have hgd : rows.getD k [] = rows[k] := by simp [hk]
        rw [hgd]; omega
      · rw [List.getD_eq_getElem?_getD, List.getElem?_eq_none (by omega)]; simp
    · by_cases hk : k < rows.length
      · obtain ⟨Ak, ck, _, _, _, h4⟩ := hp k _ (List.getElem?_eq_getElem hk)
        have hgd : rows.getD k [] = rows[k] := by simp [hk]
        rw [hgd]; omega
      · rw [List.getD_eq_getElem?_getD, List.getElem?_eq_none (by omega)]; simp [tot]
end
end Go.Proofs.YtdclhgngjbneiaaDoor
