/- Plain facts about texts: byte lists as strings, texts joined by a separator, and their lengths. No condition. -/
import Derived.Lib.Join
import Derived.Laws.Concat
import Derived.Test.YtdclhgngjbneiaaDoorSets
namespace Go.Proofs.YtdclhgngjbneiaaDoor

/-- The string of some bytes. -/
def bs (l : List UInt8) : ByteArray := ⟨l.toArray⟩
theorem bs_eq (l : List UInt8) : (⟨l.toArray⟩ : ByteArray) = bs l := rfl
theorem bs_append (a b : List UInt8) : bs a ++ bs b = bs (a ++ b) := by
  unfold bs; rw [ByteArray.mk_append_mk]
theorem bs_size (l : List UInt8) : (bs l).size = l.length := by simp [bs, ByteArray.size]
theorem bs_data (l : List UInt8) : (bs l).data.toList = l := by simp [bs]
theorem bs_of (b : ByteArray) : bs b.data.toList = b := by unfold bs; rfl
theorem bs_inj {a b : List UInt8} : bs a = bs b ↔ a = b := ⟨fun h => by rw [← bs_data a, h, bs_data], fun h => by rw [h]⟩

/-- The byte lists of some strings. -/
def lst (ss : List ByteArray) : List (List UInt8) := ss.map fun s => s.data.toList
/-- How many bytes some strings have. -/
def tot (ss : List ByteArray) : Nat := (ss.map fun s => s.data.toList.length).sum
theorem tot_append (a b : List ByteArray) : tot (a ++ b) = tot a + tot b := by simp [tot]
theorem tot_take (ss : List ByteArray) (k : Nat) : tot (ss.take k) ≤ tot ss := by
  have := tot_append (ss.take k) (ss.drop k)
  rw [List.take_append_drop] at this; omega
theorem lens_lst (ss : List ByteArray) : Lib.lens (lst ss) = tot ss := by
  induction ss with
  | nil => rfl
  | cons x r ih => simp [lst, tot, Lib.lens] at ih ⊢; omega

/-- Texts joined by a separator. -/
def joined (ss : List ByteArray) (sep : List UInt8) : List UInt8 := Lib.join (lst ss) sep
theorem joined_nil (sep : List UInt8) : joined [] sep = [] := rfl
theorem joined_length (ss : List ByteArray) (sep : List UInt8) : (joined ss sep).length ≤ sep.length * ss.length + tot ss := by
  cases ss with
  | nil => simp [joined_nil]
  | cons x r =>
    have := Lib.join_length x.data.toList (lst r) sep
    have e : (lst (x :: r)) = x.data.toList :: lst r := rfl
    unfold joined
    rw [e, this, ← e, lens_lst, List.length_cons]
    have : (lst r).length = r.length := by simp [lst]
    rw [this, Nat.mul_add]; omega
theorem joined_snoc (ss : List ByteArray) (x : ByteArray) (sep : List UInt8) (h : ss ≠ []) : joined (ss ++ [x]) sep = joined ss sep ++ sep ++ x.data.toList := by
  cases ss with
  | nil => exact absurd rfl h
  | cons y r =>
    unfold joined
    have e1 : lst (y :: r ++ [x]) = y.data.toList :: (lst r ++ [x.data.toList]) := by simp [lst]
    have e2 : lst (y :: r) = y.data.toList :: lst r := rfl
    rw [e1, e2, Lib.join_cons, Lib.join_cons]
    have := Lib.joinTail_take_succ sep (lst r ++ [x.data.toList]) (lst r).length x.data.toList (by simp)
    rw [List.take_of_length_le (by simp), List.take_left] at this
    rw [this]; simp
theorem joined_one (x : ByteArray) (sep : List UInt8) : joined [x] sep = x.data.toList := Lib.join_one _ _

/-- The names with some numbers. -/
def nameAt (ss : List ByteArray) (l : List Nat) : List ByteArray := l.map fun i => ss.getD i ByteArray.empty
theorem nameAt_snoc (ss : List ByteArray) (l : List Nat) (i : Nat) : nameAt ss (l ++ [i]) = nameAt ss l ++ [ss.getD i ByteArray.empty] := by simp [nameAt]

theorem getD_tot (ss : List ByteArray) (i : Nat) : (ss.getD i ByteArray.empty).data.toList.length ≤ tot ss := by
  induction ss generalizing i with
  | nil => simp [tot]
  | cons x r ih =>
    cases i with
    | zero => simp [tot]
    | succ i => have := ih i; simp [tot] at this ⊢; omega
theorem nameAt_tot (ss : List ByteArray) (l : List Nat) : tot (nameAt ss l) ≤ l.length * tot ss := by
  induction l with
  | nil => simp [nameAt, tot]
  | cons i r ih =>
    have h := getD_tot ss i
    have e : tot (nameAt ss (i :: r)) = (ss.getD i ByteArray.empty).data.toList.length + tot (nameAt ss r) := by simp [nameAt, tot]
    rw [e, List.length_cons, Nat.add_mul, Nat.one_mul]; omega

/-- All members of a set are servers. -/
def fits (ss : List ByteArray) (s : Nat) : Prop := ∀ i ∈ mem s, i < ss.length
/-- The text of a set. -/
def setText (ss : List ByteArray) (s : Nat) : List UInt8 := [123] ++ joined (nameAt ss (mem s)) [44, 32] ++ [125]
theorem setText_length (ss : List ByteArray) (s : Nat) : (setText ss s).length ≤ 16 * tot ss + 34 := by
  have h1 := joined_length (nameAt ss (mem s)) [44, 32]
  have h2 := nameAt_tot ss (mem s)
  have h3 := mem_length s
  have h4 : (nameAt ss (mem s)).length = (mem s).length := by simp [nameAt]
  have h5 : (mem s).length * tot ss ≤ 16 * tot ss := Nat.mul_le_mul_right _ h3
  simp only [setText, List.length_append, List.length_cons, List.length_nil] at h1 ⊢
  rw [h4] at h1
  omega
end Go.Proofs.YtdclhgngjbneiaaDoor
