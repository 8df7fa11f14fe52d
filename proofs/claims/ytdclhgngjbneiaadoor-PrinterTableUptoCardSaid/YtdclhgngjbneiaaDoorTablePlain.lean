/- Plain facts about tables: the widths of the columns, the lines, and the text. No condition. -/
import Derived.Test.YtdclhgngjbneiaaDoorTexts
import Derived.Lib.TrimByte
import Derived.Lib.Repeat
namespace Go.Proofs.YtdclhgngjbneiaaDoor

/-- One cell more: the width of its column. -/
def wStep (ws : List Nat) (i m : Nat) : List Nat := if i = ws.length then ws ++ [m] else ws.set i (max (ws.getD i 0) m)
/-- The first i cells of a row. -/
def wRow (ws : List Nat) (row : List ByteArray) : Nat → List Nat
  | 0 => ws
  | i + 1 => wStep (wRow ws row i) i (row.getD i ByteArray.empty).size
/-- The first k rows. -/
def wRows (rows : List (List ByteArray)) : Nat → List Nat
  | 0 => []
  | k + 1 => wRow (wRows rows k) (rows.getD k []) (rows.getD k []).length

theorem wStep_length (ws : List Nat) (i m : Nat) (h : i ≤ ws.length) : i + 1 ≤ (wStep ws i m).length ∧ ws.length ≤ (wStep ws i m).length := by
  unfold wStep
  split
  · simp; omega
  · simp; omega
theorem wStep_le (ws : List Nat) (i m j : Nat) : ws.getD j 0 ≤ (wStep ws i m).getD j 0 := by
  unfold wStep
  split
  · by_cases h : j < ws.length
    · simp [List.getElem?_append_left h]
    · simp [List.getElem?_eq_none (Nat.le_of_not_lt h)]
  · by_cases h : i = j
    · subst h
      by_cases h2 : i < ws.length
      · simp [h2]; omega
      · simp [List.getElem?_eq_none (Nat.le_of_not_lt h2)]
    · simp [List.getElem?_set_ne h]
theorem wStep_new (ws : List Nat) (i m : Nat) (h : i ≤ ws.length) : m ≤ (wStep ws i m).getD i 0 := by
  unfold wStep
  split
  · rename_i e; subst e; simp
  · rename_i e
    have h2 : i < ws.length := by omega
    simp [h2]; omega
theorem wStep_bound (ws : List Nat) (i m M : Nat) (hm : m ≤ M) (h : ∀ j, ws.getD j 0 ≤ M) : ∀ j, (wStep ws i m).getD j 0 ≤ M := by
  intro j
  have hj := h j
  have hi := h i
  unfold wStep
  split
  · by_cases h1 : j < ws.length
    · simp [List.getElem?_append_left h1] at hj ⊢; exact hj
    · by_cases h2 : j = ws.length
      · subst h2; simp; exact hm
      · simp [List.getElem?_append_right (Nat.le_of_not_lt h1)]
        rw [List.getElem?_eq_none (by simp; omega)]; simp
  · by_cases h1 : i = j
    · subst h1
      by_cases h2 : i < ws.length
      · simp [h2] at hi ⊢; omega
      · rw [List.getD_eq_getElem?_getD, List.getElem?_eq_none (by simp; omega)]; simp
    · rw [List.getD_eq_getElem?_getD, List.getElem?_set_ne h1, ← List.getD_eq_getElem?_getD]; exact hj

theorem wRow_length (ws : List Nat) (row : List ByteArray) (i : Nat) : i ≤ (wRow ws row i).length ∧ ws.length ≤ (wRow ws row i).length := by
  induction i with
  | zero => simp [wRow]
  | succ i ih =>
    have := wStep_length (wRow ws row i) i (row.getD i ByteArray.empty).size ih.1
    exact ⟨this.1, Nat.le_trans ih.2 this.2⟩
theorem wRow_le (ws : List Nat) (row : List ByteArray) (i j : Nat) : ws.getD j 0 ≤ (wRow ws row i).getD j 0 := by
  induction i with
  | zero => exact Nat.le_refl _
  | succ i ih => exact Nat.le_trans ih (wStep_le _ _ _ _)
theorem wRow_new (ws : List Nat) (row : List ByteArray) (i j : Nat) (h : j < i) : (row.getD j ByteArray.empty).size ≤ (wRow ws row i).getD j 0 := by
  induction i with
  | zero => omega
  | succ i ih =>
    by_cases e : j = i
    · subst e; exact wStep_new _ _ _ (wRow_length ws row j).1
    · exact Nat.le_trans (ih (by omega)) (wStep_le _ _ _ _)
theorem wRow_bound (ws : List Nat) (row : List ByteArray) (M : Nat) (hr : ∀ j, (row.getD j ByteArray.empty).size ≤ M) (h : ∀ j, ws.getD j 0 ≤ M) (i : Nat) : ∀ j, (wRow ws row i).getD j 0 ≤ M := by
  induction i with
  | zero => exact h
  | succ i ih => exact wStep_bound _ _ _ _ (hr i) ih
theorem wRows_length (rows : List (List ByteArray)) (k : Nat) : ∀ j, j < k → (rows.getD j []).length ≤ (wRows rows k).length := by
  induction k with
  | zero => intro j h; omega
  | succ k ih =>
    intro j h
    have := wRow_length (wRows rows k) (rows.getD k []) (rows.getD k []).length
    by_cases e : j = k
    · subst e; exact this.1
    · exact Nat.le_trans (ih j (by omega)) this.2
theorem wRows_new (rows : List (List ByteArray)) (k : Nat) : ∀ j i, j < k → i < (rows.getD j []).length → ((rows.getD j []).getD i ByteArray.empty).size ≤ (wRows rows k).getD i 0 := by
  induction k with
  | zero => intro j i h; omega
  | succ k ih =>
    intro j i h hi
    by_cases e : j = k
    · subst e; exact wRow_new _ _ _ _ hi
    · exact Nat.le_trans (ih j i (by omega) hi) (wRow_le _ _ _ _)
theorem wRows_bound (rows : List (List ByteArray)) (M : Nat) (hr : ∀ k j, ((rows.getD k []).getD j ByteArray.empty).size ≤ M) (k : Nat) : ∀ j, (wRows rows k).getD j 0 ≤ M := by
  induction k with
  | zero => intro j; simp [wRows]
  | succ k ih => exact wRow_bound _ _ M (hr k) ih _

/-- The blanks behind cell i of a row. -/
def pad (W : List Nat) (row : List ByteArray) (i : Nat) : Nat := W.getD i 0 - (row.getD i ByteArray.empty).size + 2
/-- The first i cells of a row, with the blanks behind them. -/
def lineTo (W : List Nat) (row : List ByteArray) : Nat → List UInt8
  | 0 => []
  | i + 1 => lineTo W row i ++ (row.getD i ByteArray.empty).data.toList ++ (if i + 1 < row.length then List.replicate (pad W row i) 32 else [])
/-- The line of a row. -/
def lineOf (W : List Nat) (row : List ByteArray) : List UInt8 := Lib.trimRightB (lineTo W row row.length) 32 ++ [10]
/-- The first k lines. -/
def linesTo (W : List Nat) (rows : List (List ByteArray)) : Nat → List UInt8
  | 0 => []
  | k + 1 => linesTo W rows k ++ lineOf W (rows.getD k [])
def tableText (rows : List (List ByteArray)) : List UInt8 := linesTo (wRows rows rows.length) rows rows.length

theorem size_data (b : ByteArray) : b.data.toList.length = b.size := by rw [Array.length_toList]; rfl
theorem lineTo_length (W : List Nat) (row : List ByteArray) (M : Nat) (hr : ∀ j, (row.getD j ByteArray.empty).size ≤ M) (hW : ∀ j, W.getD j 0 ≤ M) (i : Nat) : (lineTo W row i).length ≤ i * (2 * M + 2) := by
  induction i with
  | zero => simp [lineTo]
  | succ i ih =>
    have h1 := hr i
    have h2 := hW i
    have h3 : pad W row i ≤ M + 2 := by unfold pad; omega
    rw [lineTo, List.length_append, List.length_append, size_data, Nat.add_mul]
    have h4 : (if i + 1 < row.length then List.replicate (pad W row i) (32 : UInt8) else []).length ≤ M + 2 := by
      split
      · rw [List.length_replicate]; exact h3
      · simp
    omega
theorem trim_length (l : List UInt8) (c : UInt8) : (Lib.trimRightB l c).length ≤ l.length := by
  unfold Lib.trimRightB
  rw [List.length_reverse]
  have := (List.dropWhile_sublist (l := l.reverse) (· == c)).length_le
  simpa using this
theorem linesTo_length (W : List Nat) (rows : List (List ByteArray)) (M N : Nat) (hr : ∀ k j, ((rows.getD k []).getD j ByteArray.empty).size ≤ M) (hn : ∀ k, (rows.getD k []).length ≤ N) (hW : ∀ j, W.getD j 0 ≤ M) (k : Nat) :
    (linesTo W rows k).length ≤ k * (N * (2 * M + 2) + 1) := by
  induction k with
  | zero => simp [linesTo]
  | succ k ih =>
    have h1 := lineTo_length W (rows.getD k []) M (hr k) hW (rows.getD k []).length
    have h2 := trim_length (lineTo W (rows.getD k []) (rows.getD k []).length) 32
    have h3 : (rows.getD k []).length * (2 * M + 2) ≤ N * (2 * M + 2) := Nat.mul_le_mul_right _ (hn k)
    rw [linesTo, lineOf, List.length_append, List.length_append, Nat.add_mul]
    simp only [List.length_cons, List.length_nil]
    omega
theorem repeat_space (c : Nat) : Lib.repeatL [32] c = List.replicate c 32 := by
  induction c with
  | zero => rfl
  | succ c ih => rw [Lib.repeatL, ih, List.replicate_succ]; rfl
end Go.Proofs.YtdclhgngjbneiaaDoor
