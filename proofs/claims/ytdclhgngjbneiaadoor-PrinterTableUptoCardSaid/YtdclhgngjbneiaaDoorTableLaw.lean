/- The plain law of tables (as many line feeds as rows; no blank before a line feed), and the walk of the law PrinterTable. -/
import Derived.Test.YtdclhgngjbneiaaDoorTableRef
import Derived.Test.YtdclhgngjbneiaaDoorLaws
import Derived.Lib.IndexMore
namespace Go.Proofs.YtdclhgngjbneiaaDoor
open Go.RowKit Go.Shelf

/-- A blank before a line feed. -/
def has2 : List UInt8 → Bool
  | [] => false
  | a :: l => (a == 32 && l.head? == some 10) || has2 l
theorem contains2 (l : List UInt8) : Lib.contains l [32, 10] = has2 l := by
  induction l with
  | nil => rfl
  | cons a l ih =>
    have hp : List.isPrefixOf [32, 10] (a :: l) = (a == 32 && l.head? == some 10) := by
      cases l with
      | nil => simp [List.isPrefixOf]
      | cons b r =>
        simp only [List.isPrefixOf, List.head?_cons, Bool.and_true]
        have e1 : ((32 : UInt8) == a) = (a == 32) := by rw [Bool.eq_iff_iff, beq_iff_eq, beq_iff_eq]; exact eq_comm
        have e2 : ((10 : UInt8) == b) = (some b == some 10) := by rw [Bool.eq_iff_iff, beq_iff_eq, beq_iff_eq, Option.some.injEq]; exact eq_comm
        rw [e1, e2]
    unfold Lib.contains Lib.index has2
    rw [hp]
    unfold Lib.contains at ih
    have hge := Lib.index_ge l [32, 10]
    cases h1 : (a == 32 && l.head? == some 10)
    · rw [← ih]
      simp only [Bool.false_or, Bool.false_eq_true, if_false]
      by_cases h2 : Lib.index l [32, 10] = -1
      · rw [h2]; rfl
      · have h3 : (Lib.index l [32, 10] == -1) = false := by simp [h2]
        rw [h3]
        simp only [Bool.false_eq_true, if_false]
        rw [decide_eq_decide]; omega
    · rfl
theorem has2_line (t rest : List UInt8) (h10 : ∀ x ∈ t, x ≠ 10) (hend : ∀ a, t ≠ a ++ [32]) : has2 (t ++ [10] ++ rest) = has2 rest := by
  induction t with
  | nil => simp [has2]
  | cons x t ih =>
    have ih' := ih (fun y hy => h10 y (by simp [hy])) (fun a e => hend (x :: a) (by rw [e]; rfl))
    rw [List.cons_append, List.cons_append, has2, ih']
    have : (x == 32 && (t ++ [10] ++ rest).head? == some 10) = false := by
      rw [Bool.and_eq_false_iff]
      by_cases hx : x = 32
      · right
        cases t with
        | nil => exact absurd (by rw [hx]; rfl) (hend [])
        | cons y r =>
          have := h10 y (by simp)
          simp [this]
      · left; simp [hx]
    rw [this]; rfl
theorem trim_end (l a : List UInt8) : Lib.trimRightB l 32 ≠ a ++ [32] := by
  intro e
  unfold Lib.trimRightB at e
  have h := congrArg List.reverse e
  rw [List.reverse_reverse, List.reverse_append] at h
  have hh : (List.dropWhile (· == (32 : UInt8)) l.reverse).head? = some 32 := by rw [h]; rfl
  have := List.head?_dropWhile_not (fun x => x == (32 : UInt8)) l.reverse
  rw [hh] at this
  simp at this
theorem trim_mem {l : List UInt8} {x : UInt8} (h : x ∈ Lib.trimRightB l 32) : x ∈ l := by
  unfold Lib.trimRightB at h
  rw [List.mem_reverse] at h
  exact List.mem_reverse.1 ((List.dropWhile_sublist _).subset h)

/-- No cell of the row has a line feed. -/
def cleanRow (row : List ByteArray) : Prop := ∀ j, ∀ x ∈ (row.getD j ByteArray.empty).data.toList, x ≠ 10
theorem joined_flat (ss : List ByteArray) : joined ss [] = (lst ss).flatten := by
  cases ss with
  | nil => rfl
  | cons x r =>
    unfold joined
    have e : (lst (x :: r)) = x.data.toList :: lst r := rfl
    rw [e, Lib.join_cons]
    simp [Lib.joinTail]
theorem clean_of (row : List ByteArray) (h : ¬ 0 ≤ Lib.indexByte (joined row []) 10) : cleanRow row := by
  have hn : ∀ l : List UInt8, ¬ 0 ≤ Lib.indexByte l 10 → ∀ x ∈ l, x ≠ 10 := by
    intro l
    induction l with
    | nil => intro _ x hx; simp at hx
    | cons b l ih =>
      intro h x hx
      unfold Lib.indexByte at h
      by_cases hb : b = 10
      · simp [hb] at h
      · have e1 : (b == 10) = false := by simp [hb]
        rw [e1] at h
        simp only [Bool.false_eq_true, if_false] at h
        rcases List.mem_cons.1 hx with rfl | hx
        · exact hb
        · refine ih ?_ x hx
          intro h0
          apply h
          by_cases h2 : Lib.indexByte l 10 = -1
          · omega
          · have e2 : (Lib.indexByte l 10 == -1) = false := by simp [h2]
            rw [e2]; simp only [Bool.false_eq_true, if_false]; omega
  intro j x hx
  by_cases hj : j < row.length
  · refine hn _ h x ?_
    rw [joined_flat, List.mem_flatten]
    refine ⟨_, ?_, hx⟩
    unfold lst
    rw [List.mem_map]
    exact ⟨row.getD j ByteArray.empty, by simp [hj], rfl⟩
  · rw [List.getD_eq_getElem?_getD, List.getElem?_eq_none (by omega)] at hx
    have : (ByteArray.empty).data.toList = [] := rfl
    simp at hx
theorem line_clean (W : List Nat) (row : List ByteArray) (h : cleanRow row) (i : Nat) : ∀ x ∈ lineTo W row i, x ≠ 10 := by
  induction i with
  | zero => intro x hx; simp [lineTo] at hx
  | succ i ih =>
    intro x hx
    rw [lineTo, List.mem_append, List.mem_append] at hx
    rcases hx with (hx | hx) | hx
    · exact ih x hx
    · exact h i x hx
    · split at hx
      · rw [List.mem_replicate] at hx; rw [hx.2]; decide
      · simp at hx
theorem lines_facts (W : List Nat) (rows : List (List ByteArray)) (h : ∀ k, cleanRow (rows.getD k [])) (k : Nat) : (linesTo W rows k).count 10 = k ∧ ∀ rest, has2 (linesTo W rows k ++ rest) = has2 rest := by
  induction k with
  | zero => exact ⟨rfl, fun _ => rfl⟩
  | succ k ih =>
    have hc : ∀ x ∈ Lib.trimRightB (lineTo W (rows.getD k []) (rows.getD k []).length) 32, x ≠ 10 := fun x hx => line_clean W _ (h k) _ x (trim_mem hx)
    have hcount : (Lib.trimRightB (lineTo W (rows.getD k []) (rows.getD k []).length) 32).count 10 = 0 := List.count_eq_zero.2 (fun hm => hc 10 hm rfl)
    refine ⟨?_, fun rest => ?_⟩
    · rw [linesTo, lineOf, List.count_append, List.count_append, ih.1, hcount]; simp
    · rw [linesTo, lineOf, List.append_assoc, ih.2]
      exact has2_line _ rest hc (trim_end _)
theorem table_facts (rows : List (List ByteArray)) (h : ∀ k, cleanRow (rows.getD k [])) : (tableText rows).count 10 = rows.length ∧ has2 (tableText rows) = false := by
  have := lines_facts (wRows rows rows.length) rows h rows.length
  refine ⟨this.1, ?_⟩
  have h2 := this.2 []
  rw [List.append_nil] at h2
  exact h2

/-- A slice of slices of strings, read, each within its capacity. -/
def SeesRowsC (w : World) (B : Nat) (A : Option Addr) (rows : List (List ByteArray)) : Prop :=
  ∀ k, k < rows.length → ∃ g o Ak ck, A = some ⟨g, o, none⟩ ∧ g < B ∧ w.cell? ⟨g, o + k, none⟩ = some (.slice Ak (rows.getD k []).length ck) ∧ Sees w B 1 Ak (rows.getD k []).length (strVals (rows.getD k [])) ∧ (rows.getD k []).length ≤ ck
theorem SeesRowsC.plain {w : World} {B : Nat} {A : Option Addr} {rows : List (List ByteArray)} (h : SeesRowsC w B A rows) : SeesRows w B A rows := by
  intro k hk
  obtain ⟨g, o, Ak, ck, h1, h2, h3, h4, _⟩ := h k hk
  exact ⟨g, o, Ak, ck, h1, h2, h3, h4⟩
theorem SeesRows.mono {w : World} {B B' : Nat} {A : Option Addr} {rows : List (List ByteArray)} (h : SeesRows w B A rows) (hB : B ≤ B') : SeesRows w B' A rows := by
  intro k hk
  obtain ⟨g, o, Ak, ck, e, hg, hc, hs⟩ := h k hk
  exact ⟨g, o, Ak, ck, e, by omega, hc, hs.mono hB⟩
theorem contains_one (S : ByteArray) (w : World) : Calls Tryd.prog 22 #[.string S, .string ⟨#[10]⟩] w fun e w' => e = .returned (.bool (decide (0 ≤ Lib.indexByte S.data.toList 10))) ∧ w = w' :=
  (Tryd.strings_Contains_one S 10 w).mono fun _ _ h => ⟨h.1, h.2.symm⟩
theorem contains_two (l : List UInt8) (S : ByteArray) (hS : S = bs l) (m : Int) (w : World) (hs : S.size < 4294967281) (hm : w.cell? ⟨0, 0, none⟩ = some (.int .i64 m)) : Calls Tryd.prog 22 #[.string S, .string ⟨#[32, 10]⟩] w fun e w' => e = .returned (.bool (has2 l)) ∧ w = w' :=
  (Tryd.strings_Contains S ⟨#[32, 10]⟩ m w hs hm).mono fun _ _ h => ⟨by rw [h.1, hS, bs_data, ← contains2], h.2.symm⟩
theorem count_one (l : List UInt8) (S : ByteArray) (hS : S = bs l) (w : World) : Calls Tryd.prog 26 #[.string S, .string ⟨#[10]⟩] w fun e w' => e = .returned (.int .i64 ((l.count 10 : Nat) : Int)) ∧ w = w' :=
  (Tryd.strings_Count_one S 10 w).mono fun _ _ h => ⟨by rw [h.1, hS, bs_data]; rfl, h.2.symm⟩

set_option maxHeartbeats 8000000 in
set_option maxRecDepth 100000 in
theorem table_law (A : Option Addr) (n c : Nat) (rows : List (List ByteArray)) (m0 : Int) (w : World) (ht : Tz w) (hm0 : w.cell? ⟨0, 0, none⟩ = some (.int .i64 m0))
    (hn : n = rows.length) (hsee : SeesRowsC w w.heap.size A rows) (hl : n ≤ 10000000) (hl1 : ∀ k, (rows.getD k []).length ≤ 10000000) (hl2 : ∀ k, tot (rows.getD k []) ≤ 10000000) :
    Calls Tryd.prog 8 #[.slice A n c] w fun e w' => e = .returned (.bool true) ∧ Below w.heap.size w w' := by
  have HN := Lib.hid hn
  have H1 := Lib.hid hl1
  have H2 := Lib.hid hl2
  have HM0 := Lib.hid hm0
  have hg0 : 0 < w.heap.size := World.block_lt_of_cell? w _ hm0
  have HG0 := Lib.hid hg0
  clear hn hl1 hl2 hm0 hg0
  go_enter Tryd.func8, Tryd.ntmps8
  go_wp2_with fail
  refine (awake_any w ht).mono ?_
  rintro e w1 ⟨rfl, hb1⟩
  by_cases h20 : 20 < n
  · have h20I : (20 : Int) < (n : Int) := by omega
    go_wp2_with fail
    refine (awake_any w1 (ht.below hb1 (Nat.le_refl _))).mono ?_
    rintro e w2 ⟨rfl, hb2⟩
    go_wp2
    go_ret
    exact ⟨rfl, hb1.trans (hb2.mono hb1.size)⟩
  have h20I : ¬ (20 : Int) < (n : Int) := by omega
  go_wp2
  go_loopw [4, 16] (fun _ x wr => ∃ k : Nat, k ≤ n ∧ x = .int .i64 k ∧ Below w.heap.size w wr ∧ ∀ j, j < k → shortB (rows.getD j []) = true ∧ cleanRow (rows.getD j [])) (fun _ x _ => n - (intOf x).toNat)
  case atStart => exact ⟨0, Nat.zero_le _, rfl, hb1, fun j hj => absurd hj (by omega)⟩
  case round =>
    obtain ⟨k, hk, rfl, hb, hall⟩ := hrel
    have HA := Lib.hid hall
    clear hall
    have hsz := hb.size
    by_cases hlt : k < n
    · have hkr : k < rows.length := by rw [← HN.out]; exact hlt
      obtain ⟨g, o, Ak, ck, rfl, hg, hck, hsk, hcap⟩ := hsee k hkr
      rw [← hb.cell (p := ⟨g, o + k, none⟩) hg] at hck
      have hsk := (hsk.below hb (Nat.le_refl _)).mono hsz
      have h1 := H1.out k
      have h2 := H2.out k
      obtain ⟨row, hrow⟩ : ∃ row, row = rows.getD k [] := ⟨_, rfl⟩
      rw [← hrow] at hck hsk hcap h1 h2
      have HROW := Lib.hid hrow
      clear hrow
      obtain ⟨m, hm⟩ : ∃ m, m = row.length := ⟨_, rfl⟩
      rw [← hm] at hck hsk hcap h1
      have HM := Lib.hid hm
      clear hm
      go_wp2_with fail
      refine (short_any Ak m ck row wr HM.out hcap hsk h1 h2).mono ?_
      rintro e w2 ⟨rfl, hb2⟩
      have hbw2 : Below w.heap.size w w2 := hb.trans (hb2.mono hsz)
      cases hsh : shortB row
      · clear hsh
        go_wp2
        go_ret
        exact ⟨rfl, hbw2⟩
      · have HSH := Lib.hid hsh
        clear hsh
        go_wp2_with fail
        refine (join_any Ak m ck row [] _ rfl w2 HM.out hcap ((hsk.below hb2 (Nat.le_refl _)).mono hb2.size) (by omega) (by decide) (by omega)).mono ?_
        rintro e w3 ⟨rfl, hb3⟩
        have hbw3 : Below w.heap.size w w3 := hbw2.trans (hb3.mono hbw2.size)
        obtain ⟨T, hT⟩ : ∃ T, T = bs (joined row []) := ⟨_, rfl⟩
        rw [← hT]
        have HT := Lib.hid hT
        clear hT
        go_wp2_with fail
        refine (contains_one T w3).mono ?_
        rintro e w4 ⟨rfl, rfl⟩
        cases hct : decide (0 ≤ Lib.indexByte T.data.toList 10)
        · have hcl : cleanRow row := clean_of row (by have := of_decide_eq_false hct; rw [HT.out, bs_data] at this; exact this)
          have HCL := Lib.hid hcl
          clear hct hcl
          go_wp2
          go_roundw
          case rel =>
            refine ⟨k + 1, by omega, by go_num, hbw3, fun j hj => ?_⟩
            by_cases e : j = k
            · subst e; rw [← HROW.out]; exact ⟨HSH.out, HCL.out⟩
            · exact HA.out j (by omega)
          case measure => simp [intOf]; omega
        · clear hct
          go_wp2
          go_ret
          exact ⟨rfl, hbw3⟩
    · obtain rfl : k = n := by omega
      have hout : ∀ j, ¬ j < rows.length → rows.getD j [] = [] := fun j hj => by rw [List.getD_eq_getElem?_getD, List.getElem?_eq_none (by omega)]; rfl
      have hclean : ∀ j, cleanRow (rows.getD j []) := by
        intro j
        by_cases hj : j < rows.length
        · exact (HA.out j (by rw [HN.out]; exact hj)).2
        · rw [hout j hj]; intro i x hx; simp at hx
      have hshort : ∀ j, (rows.getD j []).length ≤ 20 ∧ tot (rows.getD j []) ≤ 2000 := by
        intro j
        by_cases hj : j < rows.length
        · have := (HA.out j (by rw [HN.out]; exact hj)).1
          simpa [shortB] using this
        · rw [hout j hj]; exact ⟨by simp, by simp [tot]⟩
      have hcellM : ∀ a b, ((rows.getD a []).getD b ByteArray.empty).size ≤ 2000 := by
        intro a b
        have h1 := getD_tot (rows.getD a []) b
        rw [size_data] at h1
        have h2 := (hshort a).2
        omega
      have hfacts := table_facts rows hclean
      have hlen : (tableText rows).length ≤ 3000000 := by
        have h1 := linesTo_length (wRows rows rows.length) rows 2000 20 hcellM (fun j => (hshort j).1) (wRows_bound rows 2000 hcellM rows.length) rows.length
        have h2 : rows.length * (20 * (2 * 2000 + 2) + 1) ≤ 20 * (20 * (2 * 2000 + 2) + 1) := Nat.mul_le_mul_right _ (by rw [← HN.out]; omega)
        unfold tableText
        omega
      have HCM := Lib.hid hcellM
      have HSHT := Lib.hid hshort
      have HFA := Lib.hid hfacts
      clear hclean hshort hcellM hfacts HA hout
      have hseeP := hsee.plain
      go_wp2_with fail
      refine (table_any A k c rows wr HN.out ((hseeP.below hb (Nat.le_refl _)).mono hsz) 2000 20 HCM.out (fun j => (HSHT.out j).1) (by decide) (by decide) (by omega)).mono ?_
      rintro e w2 ⟨rfl, hb2⟩
      have hbw2 : Below w.heap.size w w2 := hb.trans (hb2.mono hsz)
      obtain ⟨S, hS⟩ : ∃ S, S = bs (tableText rows) := ⟨_, rfl⟩
      have hSs : S.size < 4294967281 := by rw [hS, bs_size]; omega
      rw [← hS]
      have HS := Lib.hid hS
      have HSS := Lib.hid hSs
      clear hS hSs hlen
      go_wp2_with fail
      refine (ref_table_any A k c rows w2 HN.out ((hseeP.below hbw2 (Nat.le_refl _)).mono hbw2.size) 2000 20 HCM.out (fun j => (HSHT.out j).1) (by decide) (by decide) (by omega)).mono ?_
      rintro e w3 ⟨rfl, hb3⟩
      have hbw3 : Below w.heap.size w w3 := hbw2.trans (hb3.mono hbw2.size)
      rw [← HS.out]
      go_wp2_with fail
      refine (contains_two (tableText rows) S HS.out m0 w3 HSS.out ((hbw3.cell (p := ⟨0, 0, none⟩) HG0.out).trans HM0.out)).mono ?_
      rintro e w4 ⟨rfl, rfl⟩
      rw [HFA.out.2]
      go_wp2_with fail
      refine (count_one (tableText rows) S HS.out w3).mono ?_
      rintro e w4 ⟨rfl, rfl⟩
      rw [HFA.out.1, ← HN.out]
      go_wp2
      go_ret
      exact ⟨rfl, hbw3⟩
end Go.Proofs.YtdclhgngjbneiaaDoor
