/- The contracts of both functions names: the names of the servers of a set, or false if one is lacking. -/
import Derived.Test.YtdclhgngjbneiaaDoorBits
import Derived.Test.YtdclhgngjbneiaaDoorTexts
import Derived.Deep.QuietTactic
import Derived.BigQuiet
import Derived.Deep.RegionLaw
import Derived.StillTailTactics
import Derived.Deep.RegionHeld3
import Derived.Deep.AppendLies
namespace Go.Proofs.YtdclhgngjbneiaaDoor
open Go.RowKit

theorem info_str : (Tryd.prog.info? 9).map (fun i => (i.zero, i.size, i.bytes)) = some (some (.string ByteArray.empty), 1, 16) := by kernel_rfl
/-- One text appended to a row of the call's own. -/
theorem push_str (w : World) {ops : Array Oper} {rest : List Oper} {o : Oper} {a : Act} {Q : Exit → Act → World → Prop} (hgd : o.guard = none) (s x : Operand)
    (ho : o.op = .call { callee := .builtin .append, args := #[s, x], argTypes := #[22, 22] })
    (base : Nat) (v : Value) (n : Nat) (xs : List Value) (hown : w.ownsRow base 9 1 v n xs) (hs : a.eval s = v)
    (u : ByteArray) (hx : a.eval x = .slice (some ⟨w.heap.size, 0, none⟩) 1 1)
    (hlim : n ≤ 1000000000000) (hbase : base ≤ w.heap.size)
    (h : ∀ v' w', w'.ownsRow base 9 1 v' (n + 1) (xs ++ [.string u]) → (∀ B, B ≤ base → Below B w w') → wpList Tryd.prog ops Q rest (a.put o.dst v') w') :
    wpList Tryd.prog ops Q (o :: rest) a (w.alloc (.cells #[.string u] 9)) := by
  obtain ⟨i0, hi, hz0, hz1, hz2⟩ := info_parts info_str
  exact wpList_push w hgd s x _ ho base 9 i0 (.string ByteArray.empty) 1 16 Tryd.underlying22 hi hz0 hz1 hz2 rfl (by decide) v n xs hown hs [.string u] hx rfl (by simp [Value.oneCell']) (by omega) (by omega) hbase h

theorem step_str (w : World) {ops : Array Oper} {o : Oper} {a : Act} {K : Act → World → Prop} {Q : Exit → Act → World → Prop} {E : Prop} (hgd : o.guard = none) (s x : Operand)
    (ho : o.op = .call { callee := .builtin .append, args := #[s, x], argTypes := #[22, 22] })
    (base : Nat) (v : Value) (n : Nat) (xs : List Value) (hown : w.ownsRow base 9 1 v n xs) (hs : a.eval s = v)
    (g cc : Nat) (u : ByteArray) (hblk : w.heap[g]? = some (.cells #[.string u] 9 (0, 0))) (hx : a.eval x = .slice (some ⟨g, 0, none⟩) 1 cc)
    (hlim : n ≤ 1000000000000) (hbase : base ≤ w.heap.size)
    (h : ∀ v' w', w'.ownsRow base 9 1 v' (n + 1) (xs ++ [.string u]) → (∀ B, B ≤ base → Below B w w') → K (a.put o.dst v') w') :
    if Region.wanted o (yielded ops a.tmps) = true then Oper.wp Tryd.prog o a w K Q else E := by
  obtain ⟨i0, hi, hz0, hz1, hz2⟩ := info_parts info_str
  exact step_push w hgd s x _ ho base 9 i0 (.string ByteArray.empty) 1 16 Tryd.underlying22 hi hz0 hz1 hz2 rfl (by decide) v n xs hown hs g cc [.string u] hblk hx rfl (by simp [Value.oneCell']) (by omega) (by omega) hbase h

def strVals (l : List ByteArray) : List Value := l.map Value.string
theorem strVals_snoc (l : List ByteArray) (x : ByteArray) : strVals (l ++ [x]) = strVals l ++ [.string x] := by simp [strVals]
theorem strVals_get (l : List ByteArray) (i : Nat) (h : i < l.length) : (strVals l)[i]? = some (.string (l.getD i ByteArray.empty)) := by simp [strVals, h]
theorem memVals_get (l : List Nat) (i : Nat) (h : i < l.length) : (memVals l)[i]? = some (.int .i64 (l.getD i 0 : Nat)) := by simp [memVals, h]
theorem take_snoc_getD (l : List Nat) (k : Nat) (h : k < l.length) : l.take (k + 1) = l.take k ++ [l.getD k 0] := by
  rw [List.take_succ_eq_append_getElem h]; simp [h]

/-- What names returns. -/
def NamesPost (ss : List ByteArray) (s : Nat) (w : World) (e : Ending) (w' : World) : Prop :=
  Below w.heap.size w w' ∧ ((∀ i ∈ mem s, i < ss.length) → ∃ v, e = .returned (.tuple #[v, .bool true]) ∧ w'.ownsRow w.heap.size 9 1 v (nameAt ss (mem s)).length (strVals (nameAt ss (mem s)))) ∧
    ((∃ i ∈ mem s, ss.length ≤ i) → e = .returned (.tuple #[.slice none 0 0, .bool false]))

theorem names_out {ss : List ByteArray} {s k : Nat} {w w' : World} (hb : Below w.heap.size w w') (hk : k < (mem s).length) (h : ss.length ≤ (mem s).getD k 0) :
    NamesPost ss s w (.returned (.tuple #[.slice none 0 0, .bool false])) w' := by
  refine ⟨hb, fun hall => ?_, fun _ => rfl⟩
  have := hall ((mem s).getD k 0) (by simp [hk])
  omega
theorem names_end {ss : List ByteArray} {s k : Nat} {w w' : World} {v : Value} (hb : Below w.heap.size w w') (hk : (mem s).length ≤ k) (hall : ∀ j, j < k → j < (mem s).length → (mem s).getD j 0 < ss.length)
    (hown : w'.ownsRow w.heap.size 9 1 v ((mem s).take k).length (strVals (nameAt ss ((mem s).take k)))) :
    NamesPost ss s w (.returned (.tuple #[v, .bool true])) w' := by
  rw [List.take_of_length_le hk] at hown
  refine ⟨hb, fun _ => ⟨v, rfl, by simpa [nameAt] using hown⟩, fun ⟨i, hi, hle⟩ => ?_⟩
  obtain ⟨j, hj, rfl⟩ := List.getElem_of_mem hi
  have := hall j (by omega) hj
  simp [hj] at this
  omega

set_option maxHeartbeats 2000000 in
theorem names_any (A A1 A2 A3 A4 : Option Addr) (n c n1 c1 n2 c2 n3 c3 n4 c4 : Nat) (wit : Int) (ss : List ByteArray) (s : Nat) (w : World) (hs : s < 65536) (ht : Tz w)
    (hn : n = ss.length) (hsee : Sees w w.heap.size 1 A n (strVals ss)) (hlim : n ≤ 1000000000000) :
    Calls Tryd.prog 27 #[.agg #[.slice A n c, .slice A1 n1 c1, .int .u16 wit, .slice A2 n2 c2, .slice A3 n3 c3, .slice A4 n4 c4], .int .u16 s] w (NamesPost ss s w) := by
  have HN := Lib.hid hn
  have HS := Lib.hid hs
  clear hn hs
  go_enter Tryd.func27, Tryd.ntmps27
  go_wp2_with fail
  refine (members_any s _ HS.out (ht.below (w' := w.alloc _) ((Below.refl _ _).alloc (Nat.le_refl _) _) (Nat.le_refl _))).mono ?_
  rintro e w1 ⟨v, rfl, hown, hb⟩
  obtain ⟨Am, cm, rfl, hcm⟩ := own_slice hown
  have hlen := mem_length s
  have hbw : Below w.heap.size w w1 := ((Below.refl _ _).alloc (Nat.le_refl _) _).trans (hb.mono (by simp))
  have hsz1 : w.heap.size < w1.heap.size := by have := hb.size; simp at this; omega
  have hbox : w1.cell? ⟨w.heap.size, 0, none⟩ = some (.slice A n c) := by rw [hb.cell (by simp)]; simp
  have hsee1 := Sees.own hown
  have hseeN := hsee.below hbw (Nat.le_refl _)
  clear hb hown hsee
  go_wp2
  go_loopw [6, 12] (fun v x wr => ∃ k : Nat, k ≤ (mem s).length ∧ x = .int .i64 k ∧ wr.ownsRow w1.heap.size 9 1 v ((mem s).take k).length (strVals (nameAt ss ((mem s).take k))) ∧ Below w1.heap.size w1 wr ∧ ∀ j, j < k → j < (mem s).length → (mem s).getD j 0 < ss.length) (fun _ x _ => (mem s).length - (intOf x).toNat)
  case atStart => exact ⟨0, Nat.zero_le _, rfl, World.ownsRow_nil _ _ _ _, Below.refl _ _, fun j hj => absurd hj (by omega)⟩
  case round =>
    obtain ⟨k, hk, rfl, hown, hb, hall⟩ := hrel
    have HA := Lib.hid hall
    clear hall
    have hsz := hb.size
    have hbox' : wr.cell? ⟨w.heap.size, 0, none⟩ = some (.slice A n c) := (hb.cell (p := ⟨w.heap.size, 0, none⟩) hsz1).trans hbox
    by_cases hlt : k < (mem s).length
    · obtain ⟨g, o, rfl, hg, hcell⟩ := (hsee1.below hb (Nat.le_refl _)).cells (by omega)
      have hck := hcell k _ (memVals_get _ k hlt)
      have h16 : (mem s).getD k 0 < 16 := mem_lt (by simp [hlt] : (mem s).getD k 0 ∈ mem s)
      clear hcell
      obtain ⟨m, hm⟩ : ∃ m, m = (mem s).getD k 0 := ⟨_, rfl⟩
      rw [← hm] at hck h16
      have HM := Lib.hid hm
      clear hm
      by_cases hmn : m < n
      · obtain ⟨g2, o2, rfl, hg2, hcell2⟩ := (hseeN.below hb (by omega)).cells (by omega)
        have hcn := hcell2 m _ (strVals_get ss m (by rw [← HN.out]; exact hmn))
        clear hcell2
        go_wp2_with (at_builtin; refine push_str wr rfl (.tmp 21) (.tmp 27) rfl w1.heap.size _ _ _ hown rfl (ss.getD m ByteArray.empty) rfl (by simp; omega) hsz ?_; intro v' w2 hown1 hb1)
        go_roundw
        case rel =>
          refine ⟨k + 1, by omega, by go_num, ?_, hb.trans (hb1 _ (Nat.le_refl _)), ?_⟩
          · rw [take_snoc_getD _ _ hlt, nameAt_snoc, strVals_snoc, List.length_append, ← HM.out]; exact hown1
          · intro j hj hj2
            by_cases e : j = k
            · subst e; rw [← HM.out, ← HN.out]; exact hmn
            · exact HA.out j (by omega) hj2
        case measure => simp [intOf]; omega
      · go_wp2
        go_ret2
        exact names_out (hbw.trans (hb.mono (by omega))) hlt (by rw [← HM.out, ← HN.out]; omega)
    · go_wp2
      go_ret2
      exact names_end (hbw.trans (hb.mono (by omega))) (Nat.le_of_not_lt hlt) HA.out (own_base hown (by omega))

set_option maxRecDepth 100000 in
set_option maxHeartbeats 2000000 in
theorem ref_names_any (A A1 A2 A3 A4 : Option Addr) (n c n1 c1 n2 c2 n3 c3 n4 c4 : Nat) (wit : Int) (ss : List ByteArray) (s : Nat) (w : World) (hs : s < 65536)
    (hn : n = ss.length) (hsee : Sees w w.heap.size 1 A n (strVals ss)) (hlim : n ≤ 1000000000000) :
    Calls Tryd.prog 28 #[.agg #[.slice A n c, .slice A1 n1 c1, .int .u16 wit, .slice A2 n2 c2, .slice A3 n3 c3, .slice A4 n4 c4], .int .u16 s] w (NamesPost ss s w) := by
  have HN := Lib.hid hn
  have HS := Lib.hid hs
  clear hn hs
  go_enter Tryd.func28, Tryd.ntmps28
  go_wp2_with fail
  refine (ref_members_any s _ HS.out).mono ?_
  rintro e w1 ⟨v, rfl, hown, hb⟩
  obtain ⟨Am, cm, rfl, hcm⟩ := own_slice hown
  have hlen := mem_length s
  have hbw : Below w.heap.size w w1 := ((Below.refl _ _).alloc (Nat.le_refl _) _).trans (hb.mono (by simp))
  have hsz1 : w.heap.size < w1.heap.size := by have := hb.size; simp at this; omega
  have hbox : w1.cell? ⟨w.heap.size, 0, none⟩ = some (.slice A n c) := by rw [hb.cell (by simp)]; simp
  have hsee1 := Sees.own hown
  have hseeN := hsee.below hbw (Nat.le_refl _)
  clear hb hown hsee
  go_wp2
  go_loopw [6, 8] (fun v x wr => ∃ k : Nat, k ≤ (mem s).length ∧ x = .int .i64 k ∧ wr.ownsRow w1.heap.size 9 1 v ((mem s).take k).length (strVals (nameAt ss ((mem s).take k))) ∧ Below w1.heap.size w1 wr ∧ ∀ j, j < k → j < (mem s).length → (mem s).getD j 0 < ss.length) (fun _ x _ => (mem s).length - (intOf x).toNat)
  case atStart => exact ⟨0, Nat.zero_le _, rfl, World.ownsRow_nil _ _ _ _, Below.refl _ _, fun j hj => absurd hj (by omega)⟩
  case round =>
    obtain ⟨k, hk, rfl, hown, hb, hall⟩ := hrel
    have HA := Lib.hid hall
    clear hall
    have hsz := hb.size
    have hbox' : wr.cell? ⟨w.heap.size, 0, none⟩ = some (.slice A n c) := (hb.cell (p := ⟨w.heap.size, 0, none⟩) hsz1).trans hbox
    by_cases hlt : k < (mem s).length
    · obtain ⟨g, o, rfl, hg, hcell⟩ := (hsee1.below hb (Nat.le_refl _)).cells (by omega)
      have hck := hcell k _ (memVals_get _ k hlt)
      have h16 : (mem s).getD k 0 < 16 := mem_lt (by simp [hlt] : (mem s).getD k 0 ∈ mem s)
      clear hcell
      obtain ⟨m, hm⟩ : ∃ m, m = (mem s).getD k 0 := ⟨_, rfl⟩
      rw [← hm] at hck h16
      have HM := Lib.hid hm
      clear hm
      have hkI : (k : Int) < ((mem s).length : Int) := by omega
      have hk0 : (0 : Int) ≤ (k : Int) := by omega
      by_cases hmn : m < n
      · obtain ⟨g2, o2, rfl, hg2, hcell2⟩ := (hseeN.below hb (by omega)).cells (by omega)
        have hcn := hcell2 m _ (strVals_get ss m (by rw [← HN.out]; exact hmn))
        have hmI : (m : Int) < (n : Int) := by omega
        clear hcell2
        obtain ⟨x, hx⟩ : ∃ x, x = ss.getD m ByteArray.empty := ⟨_, rfl⟩
        rw [← hx] at hcn
        have HX := Lib.hid hx
        clear hx
        go_wp2
        go_quiet (fail)
        go_wp2
        go_region_held3 (fun w' => w'.cell? ⟨w.heap.size, 0, none⟩ = some (.slice (some ⟨g2, o2, none⟩) n c) ∧ w'.cell? ⟨g, o + k, none⟩ = some (.int .i64 m) ∧ w'.cell? ⟨g2, o2 + m, none⟩ = some (.string x)) (first | go_keep | (refine ⟨?_, ?_, ?_⟩ <;> (rw [(hb1 _ (Nat.le_refl _)).cell (by simp; omega)]; go_keep)))
          ((refine step_str _ rfl (.tmp 25) (.tmp 34) rfl w1.heap.size _ _ _ (hown.alloc _) rfl _ _ _ (heap_alloc_new wr _) rfl (by simp; omega) (by simp; omega) ?_; intro v' w2 hown1 hb1))
        go_wp2
        go_roundw
        case rel =>
          refine ⟨k + 1, by omega, by go_num, ?_, ((below_drewN hb _).alloc hsz _).trans (hb1 _ (Nat.le_refl _)), ?_⟩
          · rw [take_snoc_getD _ _ hlt, nameAt_snoc, strVals_snoc, List.length_append, ← HM.out, ← HX.out]; exact hown1
          · intro j hj hj2
            by_cases e : j = k
            · subst e; rw [← HM.out, ← HN.out]; exact hmn
            · exact HA.out j (by omega) hj2
        case measure => simp [intOf]; omega
      · go_wp2
        go_quiet (fail)
        go_wp2
        go_ret2
        exact names_out (hbw.trans (below_drewN (hb.mono (by omega)) _)) hlt (by rw [← HM.out, ← HN.out]; omega)
    · go_wp2
      go_ret2
      exact names_end (hbw.trans (hb.mono (by omega))) (Nat.le_of_not_lt hlt) HA.out (own_base hown (by omega))
end Go.Proofs.YtdclhgngjbneiaaDoor
