/- The contracts of math/bits.TrailingZeros16, of the reference's Has, and of both functions Members: the members of a set in ascending order, in memory of the call's own. Condition: the table of math/bits lies in the world. -/
import Derived.Test.YtdclhgngjbneiaaDoorChecked
import Derived.Test.YtdclhgngjbneiaaDoorSets
import Derived.Test.YtdclhgngjbneiaaDoorKit
import Derived.Laws.BitsAllLaws
import Derived.Outline
namespace Go.Proofs.YtdclhgngjbneiaaDoor
open Go.RowKit

/-- The table by which the lowest bit of a number is found. -/
def tzTab : List Nat := [0, 1, 28, 2, 29, 14, 24, 3, 30, 22, 20, 15, 25, 17, 4, 8, 31, 27, 13, 23, 21, 19, 16, 7, 26, 12, 18, 6, 11, 5, 10, 9]
/-- The table lies in the world. -/
def Tz (w : World) : Prop := 1 < w.heap.size ∧ ∀ i : Nat, i < 32 → w.cell? ⟨1, i, none⟩ = some (.int .u8 (tzTab.getD i 0 : Nat))
theorem Tz.below {w w' : World} {B : Nat} (h : Tz w) (hb : Below B w w') (hB : w.heap.size ≤ B) : Tz w' :=
  ⟨Nat.lt_of_lt_of_le h.1 hb.size, fun i hi => (hb.cell (p := ⟨1, i, none⟩) (Nat.lt_of_lt_of_le h.1 hB)).trans (h.2 i hi)⟩

set_option maxHeartbeats 1000000 in
theorem tz_at (x : Int) (k : Nat) (hk : k < 16) (w : World) (hx : (x == 0) = false) (h1 : bits .and .u16 x (IntKind.u16.wrap (-x)) = 2 ^ k) (ht : Tz w) :
    Calls Tryd.prog 55 #[.int .u16 x] w fun e w' => e = .returned (.int .i64 k) ∧ w = w' := by
  have c0 : w.cell? ⟨1, 0, none⟩ = some (.int .u8 0) := ht.2 0 (by decide)
  have c1 : w.cell? ⟨1, 1, none⟩ = some (.int .u8 1) := ht.2 1 (by decide)
  have c2 : w.cell? ⟨1, 3, none⟩ = some (.int .u8 2) := ht.2 3 (by decide)
  have c3 : w.cell? ⟨1, 7, none⟩ = some (.int .u8 3) := ht.2 7 (by decide)
  have c4 : w.cell? ⟨1, 14, none⟩ = some (.int .u8 4) := ht.2 14 (by decide)
  have c5 : w.cell? ⟨1, 29, none⟩ = some (.int .u8 5) := ht.2 29 (by decide)
  have c6 : w.cell? ⟨1, 27, none⟩ = some (.int .u8 6) := ht.2 27 (by decide)
  have c7 : w.cell? ⟨1, 23, none⟩ = some (.int .u8 7) := ht.2 23 (by decide)
  have c8 : w.cell? ⟨1, 15, none⟩ = some (.int .u8 8) := ht.2 15 (by decide)
  have c9 : w.cell? ⟨1, 31, none⟩ = some (.int .u8 9) := ht.2 31 (by decide)
  have c10 : w.cell? ⟨1, 30, none⟩ = some (.int .u8 10) := ht.2 30 (by decide)
  have c11 : w.cell? ⟨1, 28, none⟩ = some (.int .u8 11) := ht.2 28 (by decide)
  have c12 : w.cell? ⟨1, 25, none⟩ = some (.int .u8 12) := ht.2 25 (by decide)
  have c13 : w.cell? ⟨1, 18, none⟩ = some (.int .u8 13) := ht.2 18 (by decide)
  have c14 : w.cell? ⟨1, 5, none⟩ = some (.int .u8 14) := ht.2 5 (by decide)
  have c15 : w.cell? ⟨1, 11, none⟩ = some (.int .u8 15) := ht.2 11 (by decide)
  clear ht
  have hks : k = 0 ∨ k = 1 ∨ k = 2 ∨ k = 3 ∨ k = 4 ∨ k = 5 ∨ k = 6 ∨ k = 7 ∨ k = 8 ∨ k = 9 ∨ k = 10 ∨ k = 11 ∨ k = 12 ∨ k = 13 ∨ k = 14 ∨ k = 15 := by omega
  rcases hks with rfl | rfl | rfl | rfl | rfl | rfl | rfl | rfl | rfl | rfl | rfl | rfl | rfl | rfl | rfl | rfl
  all_goals
    go_enter Tryd.func55, Tryd.ntmps55
    go_wp2
    go_ret
    exact ⟨rfl, rfl⟩

theorem tz_any (s : Nat) (w : World) (h : s < 65536) (h0 : s ≠ 0) (ht : Tz w) :
    Calls Tryd.prog 55 #[.int .u16 s] w fun e w' => e = .returned (.int .i64 (low s)) ∧ w = w' := by
  obtain ⟨h1, h2, h3⟩ := set_facts s h h0
  refine tz_at s (low s) h1 w (by rw [beq_eq_false_iff_ne]; omega) ?_ ht
  have e : IntKind.u16.wrap (-(s : Int)) = ((65536 - s : Nat) : Int) := by rw [IntKind.wrap_u16]; omega
  rw [e, u16_and_nat s _ h (by omega), h2]
  simp

theorem has_any (s k : Nat) (w : World) (h : s < 65536) (hk : k < 16) :
    Calls Tryd.prog 56 #[.int .u16 s, .int .i64 k] w fun e w' => e = .returned (.bool (s.testBit k)) ∧ w = w' := by
  go_enter Tryd.func56, Tryd.ntmps56
  go_wp2
  go_ret
  refine ⟨?_, rfl⟩
  have hd : s / 2 ^ k < 65536 := Nat.lt_of_le_of_lt (Nat.div_le_self _ _) h
  have e : ((s : Int) / 2 ^ k) = ((s / 2 ^ k : Nat) : Int) := by simp
  have e2 := u16_and_nat (s / 2 ^ k) 1 hd (by decide)
  rw [← testBit_div]
  show Ending.returned (.bool (bits .and .u16 ((s : Int) / 2 ^ k) 1 == 1)) = _
  rw [e, show (1 : Int) = ((1 : Nat) : Int) from rfl, e2]
  congr 2
  rw [Bool.eq_iff_iff]; simp only [beq_iff_eq]; omega

theorem info_int : (Tryd.prog.info? 3).map (fun i => (i.zero, i.size, i.bytes)) = some (some (.int .i64 0), 1, 8) := by kernel_rfl

/-- One number appended to a row of the call's own. -/
theorem push_int (w : World) {ops : Array Oper} {rest : List Oper} {o : Oper} {a : Act} {Q : Exit → Act → World → Prop} (hgd : o.guard = none) (s x : Operand)
    (ho : o.op = .call { callee := .builtin .append, args := #[s, x], argTypes := #[30, 30] })
    (base : Nat) (v : Value) (n : Nat) (xs : List Value) (hown : w.ownsRow base 3 1 v n xs) (hs : a.eval s = v)
    (u : Value) (hx : a.eval x = .slice (some ⟨w.heap.size, 0, none⟩) 1 1) (h1 : u.oneCell' = true)
    (hlim : n ≤ 1000000000000) (hbase : base ≤ w.heap.size)
    (h : ∀ v' w', w'.ownsRow base 3 1 v' (n + 1) (xs ++ [u]) → (∀ B, B ≤ base → Below B w w') → wpList Tryd.prog ops Q rest (a.put o.dst v') w') :
    wpList Tryd.prog ops Q (o :: rest) a (w.alloc (.cells #[u] 3)) := by
  obtain ⟨i0, hi, hz0, hz1, hz2⟩ := info_parts info_int
  exact wpList_push w hgd s x _ ho base 3 i0 (.int .i64 0) 1 8 Tryd.underlying30 hi hz0 hz1 hz2 rfl (by decide) v n xs hown hs [u] hx rfl (by simpa using h1) (by omega) (by omega) hbase h

/-- The members, as the values in memory. -/
def memVals (l : List Nat) : List Value := l.map fun i => Value.int .i64 (i : Nat)
theorem memVals_snoc (l : List Nat) (i : Nat) : memVals (l ++ [i]) = memVals l ++ [.int .i64 (i : Nat)] := by simp [memVals]

set_option maxHeartbeats 1000000 in
theorem members_any (s : Nat) (w : World) (h : s < 65536) (ht : Tz w) :
    Calls Tryd.prog 42 #[.int .u16 s] w fun e w' => ∃ v, e = .returned v ∧ w'.ownsRow w.heap.size 3 1 v (mem s).length (memVals (mem s)) ∧ Below w.heap.size w w' := by
  go_enter Tryd.func42, Tryd.ntmps42
  go_wp2
  go_loopw [0, 3] (fun x v wr => ∃ (t : Nat) (l : List Nat), t < 65536 ∧ x = .int .u16 t ∧ l ++ mem t = mem s ∧ wr.ownsRow w.heap.size 3 1 v l.length (memVals l) ∧ Below w.heap.size w wr) (fun x _ _ => (intOf x).toNat)
  case atStart => exact ⟨s, [], h, rfl, rfl, World.ownsRow_nil _ _ _ _, Below.refl _ _⟩
  case round =>
    obtain ⟨t, l, hlt, rfl, hl, hown, hb⟩ := hrel
    have HL := Lib.hid hl
    clear hl
    by_cases h0 : t = 0
    · subst h0
      go_wp2
      go_ret
      have hl := HL.out
      rw [mem_zero, List.append_nil] at hl
      subst hl
      exact ⟨_, rfl, hown, hb⟩
    · obtain ⟨f1, f2, f3⟩ := set_facts t hlt h0
      have hx : ((t : Int) == 0) = false := by rw [beq_eq_false_iff_ne]; omega
      have hne : ((t : Int) != 0) = true := by simp; omega
      have htr := ht.below hb (Nat.le_refl _)
      go_wp2_with fail
      refine (tz_any t _ hlt h0 htr).mono ?_
      rintro e w' ⟨rfl, rfl⟩
      have hl16 := mem_length s
      have hlen : l.length ≤ 16 := by have := congrArg List.length HL.out; simp only [List.length_append] at this; omega
      have hsz := hb.size
      go_wp2_with (at_builtin; refine push_int wr rfl (.tmp 10) (.tmp 13) rfl w.heap.size _ _ _ hown rfl (.int .i64 (low t)) rfl rfl (by omega) hsz ?_; intro v' w1 hown1 hb1)
      have e1 : bits .and .u16 (t : Int) ((t : Int) - 1) = ((t &&& (t - 1) : Nat) : Int) := by
        rw [show ((t : Int) - 1) = ((t - 1 : Nat) : Int) by omega]
        exact u16_and_nat t (t - 1) hlt (by omega)
      have hlow : t &&& (t - 1) < t := by have := Nat.and_le_right (n := t) (m := t - 1); omega
      go_roundw
      case rel =>
        refine ⟨t &&& (t - 1), l ++ [low t], clear_lt t hlt, by rw [e1], ?_, ?_, hb.trans (hb1 _ (Nat.le_refl _))⟩
        · rw [List.append_assoc, List.singleton_append, ← f3]; exact HL.out
        · rw [memVals_snoc, List.length_append]; exact hown1
      case measure => rw [e1]; simp only [intOf, Int.toNat_natCast]; exact hlow

theorem has_yes (s k : Nat) (w : World) (h : s < 65536) (hk : k < 16) (hb : s.testBit k = true) :
    Calls Tryd.prog 56 #[.int .u16 s, .int .i64 k] w fun e w' => e = .returned (.bool true) ∧ w = w' := by
  have := has_any s k w h hk
  rw [hb] at this; exact this
theorem has_no (s k : Nat) (w : World) (h : s < 65536) (hk : k < 16) (hb : s.testBit k = false) :
    Calls Tryd.prog 56 #[.int .u16 s, .int .i64 k] w fun e w' => e = .returned (.bool false) ∧ w = w' := by
  have := has_any s k w h hk
  rw [hb] at this; exact this

set_option maxHeartbeats 1000000 in
theorem ref_members_any (s : Nat) (w : World) (h : s < 65536) :
    Calls Tryd.prog 43 #[.int .u16 s] w fun e w' => ∃ v, e = .returned v ∧ w'.ownsRow w.heap.size 3 1 v (mem s).length (memVals (mem s)) ∧ Below w.heap.size w w' := by
  have HS := Lib.hid h
  clear h
  go_enter Tryd.func43, Tryd.ntmps43
  go_wp2
  go_loopw [3, 4] (fun v x wr => ∃ k : Nat, k ≤ 16 ∧ x = .int .i64 k ∧ wr.ownsRow w.heap.size 3 1 v (memTo s k).length (memVals (memTo s k)) ∧ Below w.heap.size w wr) (fun _ x _ => 16 - (intOf x).toNat)
  case atStart => exact ⟨0, by omega, rfl, World.ownsRow_nil _ _ _ _, Below.refl _ _⟩
  case round =>
    obtain ⟨k, hk, rfl, hown, hb⟩ := hrel
    have hlen := memTo_length s k
    have hsz := hb.size
    obtain ⟨l, hl⟩ : ∃ l, l = memTo s k := ⟨_, rfl⟩
    rw [← hl] at hown hlen
    have HL := Lib.hid hl
    clear hl
    by_cases hlt : k < 16
    · cases hbit : s.testBit k
      · have HB := Lib.hid hbit
        clear hbit
        go_wp2_with (go_at_call 56; refine (has_no s k _ HS.out hlt HB.out).mono ?_; rintro e w' ⟨rfl, rfl⟩)
        go_roundw
        case rel =>
          refine ⟨k + 1, by omega, by go_num, ?_, hb⟩
          have e : memTo s (k + 1) = l := by rw [memTo_succ, HB.out, HL.out]; simp
          rw [e]; exact hown
        case measure => simp [intOf]; omega
      · have HB := Lib.hid hbit
        clear hbit
        go_wp2_with (first | (go_at_call 56; refine (has_yes s k _ HS.out hlt HB.out).mono ?_; rintro e w' ⟨rfl, rfl⟩) | (at_builtin; refine push_int wr rfl (.tmp 12) (.tmp 14) rfl w.heap.size _ _ _ hown rfl (.int .i64 k) rfl rfl (by omega) hsz ?_; intro v' w1 hown1 hb1))
        go_roundw
        case rel =>
          refine ⟨k + 1, by omega, by go_num, ?_, hb.trans (hb1 _ (Nat.le_refl _))⟩
          have e : memTo s (k + 1) = l ++ [k] := by rw [memTo_succ, HB.out, HL.out]; simp
          rw [e, memVals_snoc, List.length_append]; exact hown1
        case measure => simp [intOf]; omega
    · go_wp2
      go_ret
      obtain rfl : k = 16 := by omega
      have e : mem s = l := HL.out.symm
      rw [e]
      exact ⟨_, rfl, hown, hb⟩
end Go.Proofs.YtdclhgngjbneiaaDoor
