/- The walks of the laws PrinterSets, PrinterFaults and PrinterClash, for names and lists of bounded size: the law returns true, and all that was there stays. -/
import Derived.Test.YtdclhgngjbneiaaDoorAwake
namespace Go.Proofs.YtdclhgngjbneiaaDoor
open Go.RowKit

/-- Names that are few and short. -/
def shortB (ss : List ByteArray) : Bool := decide (ss.length ≤ 20) && decide (tot ss ≤ 2000)
theorem joined_plain (ss : List ByteArray) : (joined ss []).length = tot ss := by
  cases ss with
  | nil => rfl
  | cons x r =>
    have := Lib.join_length x.data.toList (lst r) []
    have e : (lst (x :: r)) = x.data.toList :: lst r := rfl
    unfold joined
    rw [e, this, ← e, lens_lst]; simp
set_option maxHeartbeats 1000000 in
theorem short_any (A : Option Addr) (n c : Nat) (ss : List ByteArray) (w : World) (hn : n = ss.length) (hc : n ≤ c) (hsee : Sees w w.heap.size 1 A n (strVals ss)) (hl1 : n ≤ 10000000) (hl3 : tot ss ≤ 10000000) :
    Calls Tryd.prog 10 #[.slice A n c] w fun e w' => e = .returned (.bool (shortB ss)) ∧ Below w.heap.size w w' := by
  have HN := Lib.hid hn
  clear hn
  by_cases h20 : n ≤ 20
  · have h20I : (n : Int) ≤ 20 := by omega
    go_enter Tryd.func10, Tryd.ntmps10
    go_wp2_with fail
    refine (join_any A n c ss [] _ rfl w HN.out hc hsee (by omega) (by decide) (by omega)).mono ?_
    rintro e w1 ⟨rfl, hb1⟩
    have hs : (bs (joined ss [])).size = tot ss := by rw [bs_size, joined_plain]
    obtain ⟨T, hT⟩ : ∃ T, T = bs (joined ss []) := ⟨_, rfl⟩
    rw [← hT] at hs ⊢
    have HS := Lib.hid hs
    clear hT hs
    go_wp2
    go_ret
    refine ⟨?_, hb1⟩
    show Ending.returned (.bool (decide ((T.size : Int) ≤ 2000))) = _
    unfold shortB
    rw [HS.out, ← HN.out]
    have e : decide (n ≤ 20) = true := by simp [h20]
    rw [e, Bool.true_and]
    congr 2
    rw [decide_eq_decide]; omega
  · have h20I : ¬ (n : Int) ≤ 20 := by omega
    go_enter Tryd.func10, Tryd.ntmps10
    go_wp2
    go_ret
    refine ⟨?_, Below.refl _ _⟩
    unfold shortB
    rw [← HN.out]
    simp [h20]

/-- The text and the error that Family returns. -/
def famB (ss : List ByteArray) (fs : List Nat) : Bool := (List.range fs.length).all fun j => fitsB ss (fs.getD j 0)
theorem famB_iff (ss : List ByteArray) (fs : List Nat) : famB ss fs = true ↔ famFits ss fs := by
  simp only [famB, famFits, List.all_eq_true, List.mem_range, fitsB_iff]
def famStr (ss : List ByteArray) (fs : List Nat) : ByteArray := if famB ss fs then bs (famText ss fs) else bs []
def famErr (ss : List ByteArray) (fs : List Nat) : Int := if famB ss fs then 0 else 7
theorem fam_post {ss : List ByteArray} {fs : List Nat} {w w' : World} {e : Ending} (h : FamPost ss fs w e w') : e = .returned (.tuple #[.string (famStr ss fs), .int .i64 (famErr ss fs)]) ∧ Below w.heap.size w w' := by
  refine ⟨?_, h.1⟩
  unfold famStr famErr
  by_cases hf : famFits ss fs
  · rw [if_pos ((famB_iff ss fs).2 hf), if_pos ((famB_iff ss fs).2 hf)]; exact h.2.1 hf
  · rw [if_neg (fun e => hf ((famB_iff ss fs).1 e)), if_neg (fun e => hf ((famB_iff ss fs).1 e))]; exact h.2.2 hf
/-- The text and the error that Faults returns. -/
def faultsB (ss : List ByteArray) (fs : List (Nat × Nat)) : Bool := (List.range fs.length).all fun j => fitsB ss (fs.getD j (0, 0)).1 && fitsB ss (fs.getD j (0, 0)).2
theorem faultsB_iff (ss : List ByteArray) (fs : List (Nat × Nat)) : faultsB ss fs = true ↔ faultsFit ss fs := by
  simp only [faultsB, faultsFit, faultFits, List.all_eq_true, List.mem_range, Bool.and_eq_true, fitsB_iff]
def faultsStr (ss : List ByteArray) (fs : List (Nat × Nat)) : ByteArray := if faultsB ss fs then bs (faultsText ss fs) else bs []
def faultsErr (ss : List ByteArray) (fs : List (Nat × Nat)) : Int := if faultsB ss fs then 0 else 7
theorem faults_post {ss : List ByteArray} {fs : List (Nat × Nat)} {w w' : World} {e : Ending} (h : FaultsPost ss fs w e w') : e = .returned (.tuple #[.string (faultsStr ss fs), .int .i64 (faultsErr ss fs)]) ∧ Below w.heap.size w w' := by
  refine ⟨?_, h.1⟩
  unfold faultsStr faultsErr
  by_cases hf : faultsFit ss fs
  · rw [if_pos ((faultsB_iff ss fs).2 hf), if_pos ((faultsB_iff ss fs).2 hf)]; exact h.2.1 hf
  · rw [if_neg (fun e => hf ((faultsB_iff ss fs).1 e)), if_neg (fun e => hf ((faultsB_iff ss fs).1 e))]; exact h.2.2 hf
/-- The text and the error that Clash returns. -/
def clashStr (ss : List ByteArray) (r : Int) (x y z : Nat) : ByteArray :=
  if decide (1 ≤ r ∧ r ≤ 3) && fitsB ss z then (if r = 3 then bs (clash3 ss z) else if fitsB ss x && fitsB ss y then bs (clashText ss r.toNat x y z) else bs []) else bs []
def clashErr (ss : List ByteArray) (r : Int) (x y z : Nat) : Int :=
  if decide (1 ≤ r ∧ r ≤ 3) then (if fitsB ss z then (if r = 3 then 0 else if fitsB ss x && fitsB ss y then 0 else 7) else 7) else 1
theorem clash_post {ss : List ByteArray} {r : Int} {x y z : Nat} {w w' : World} {e : Ending} (h : ClashPost ss r x y z w e w') : e = .returned (.tuple #[.string (clashStr ss r x y z), .int .i64 (clashErr ss r x y z)]) ∧ Below w.heap.size w w' := by
  obtain ⟨h0, h1, h2, h3, h4, h5⟩ := h
  refine ⟨?_, h0⟩
  unfold clashStr clashErr
  by_cases hr : 1 ≤ r ∧ r ≤ 3
  · have e1 : decide (1 ≤ r ∧ r ≤ 3) = true := by simp [hr]
    by_cases hz : fits ss z
    · have e2 := (fitsB_iff ss z).2 hz
      by_cases h33 : r = 3
      · rw [e1, e2, h3 h33 hz]; simp [h33]
      · have h12 : 1 ≤ r ∧ r ≤ 2 := by omega
        by_cases hxy : fits ss x ∧ fits ss y
        · have e3 := (fitsB_iff ss x).2 hxy.1
          have e4 := (fitsB_iff ss y).2 hxy.2
          rw [e1, e2, e3, e4, h5 h12 hz hxy]; simp [h33]
        · have e3 : (fitsB ss x && fitsB ss y) = false := by
            rw [Bool.eq_false_iff]; intro e; rw [Bool.and_eq_true, fitsB_iff, fitsB_iff] at e; exact hxy e
          rw [e1, e2, e3, h4 h12 hz hxy]; simp [h33]
    · have e2 : fitsB ss z = false := by rw [Bool.eq_false_iff]; intro e; exact hz ((fitsB_iff ss z).1 e)
      rw [e1, e2, h2 hr hz]; simp
  · have e1 : decide (1 ≤ r ∧ r ≤ 3) = false := by simp [hr]
    rw [e1, h1 hr]; simp

set_option maxHeartbeats 4000000 in
set_option maxRecDepth 100000 in
theorem sets_law (A : Option Addr) (n c : Nat) (ss : List ByteArray) (s : Nat) (Af : Option Addr) (nf cf : Nat) (fs : List Nat) (w : World) (ht : Tz w)
    (hn : n = ss.length) (hc : n ≤ c) (hsee : Sees w w.heap.size 1 A n (strVals ss)) (hl1 : n ≤ 10000000) (hl3 : tot ss ≤ 10000000) (hs : s < 65536)
    (hnf : nf = fs.length) (hseef : Sees w w.heap.size 1 Af nf (setVals fs)) (hfs : ∀ j, j < fs.length → fs.getD j 0 < 65536) (hlf : nf ≤ 10000000) :
    Calls Tryd.prog 3 #[.slice A n c, .int .u16 s, .slice Af nf cf] w fun e w' => e = .returned (.bool true) ∧ Below w.heap.size w w' := by
  have HN := Lib.hid hn
  have HNF := Lib.hid hnf
  have HFS := Lib.hid hfs
  have HS := Lib.hid hs
  clear hn hnf hfs hs
  go_enter Tryd.func3, Tryd.ntmps3
  go_wp2_with fail
  refine (awake_any w ht).mono ?_
  rintro e w1 ⟨rfl, hb1⟩
  go_wp2_with fail
  refine (short_any A n c ss w1 HN.out hc ((hsee.below hb1 (Nat.le_refl _)).mono hb1.size) hl1 hl3).mono ?_
  rintro e w2 ⟨rfl, hb2⟩
  have hbw2 : Below w.heap.size w w2 := hb1.trans (hb2.mono hb1.size)
  cases hsh : shortB ss
  · clear hsh
    go_wp2_with fail
    refine (awake_any w2 (ht.below hbw2 (Nat.le_refl _))).mono ?_
    rintro e w3 ⟨rfl, hb3⟩
    go_wp2
    go_ret
    exact ⟨rfl, hbw2.trans (hb3.mono hbw2.size)⟩
  · simp only [shortB, Bool.and_eq_true, decide_eq_true_eq] at hsh
    obtain ⟨h20, h2000⟩ := hsh
    by_cases h40 : 40 < nf
    · have h40I : (40 : Int) < (nf : Int) := by omega
      go_wp2_with fail
      refine (awake_any w2 (ht.below hbw2 (Nat.le_refl _))).mono ?_
      rintro e w3 ⟨rfl, hb3⟩
      go_wp2
      go_ret
      exact ⟨rfl, hbw2.trans (hb3.mono hbw2.size)⟩
    · have h40I : ¬ (40 : Int) < (nf : Int) := by omega
      go_wp2_with fail
      obtain ⟨w3, hw3⟩ : ∃ w3 : World, w3 = w2.alloc (.cells #[.slice A n c, .slice none 0 0, .int .u16 0, .slice none 0 0, .slice none 0 0, .slice none 0 0] 33) := ⟨_, rfl⟩
      have hbw3 : Below w.heap.size w w3 := by rw [hw3]; exact hbw2.alloc hbw2.size _
      have hsz3 : w2.heap.size < w3.heap.size := by rw [hw3]; simp
      have bx := fun (W : World) (hb : Below w3.heap.size w3 W) => box6 A none none none none n c 0 0 0 0 0 0 0 0 0 (w := w2) (wr := W) (by rw [← hw3]; exact hb) hsz3
      have BX := Lib.hid bx
      rw [← hw3]
      have hsee3 := hsee.below hbw3 (Nat.le_refl _)
      have hseef3 := hseef.below hbw3 (Nat.le_refl _)
      have ht3 := ht.below hbw3 (Nat.le_refl _)
      clear bx hw3
      have hN : n ≤ 1000000000000 := by omega
      refine (set_val _ _ _ _ _ _ _ _ _ _ _ _ _ _ _ _ ss s w3 HS.out ht3 HN.out (hsee3.mono hbw3.size) hN (by omega)).mono ?_
      rintro e w4 ⟨rfl, hb4⟩
      obtain ⟨b0, b1, b2, b3, b4, b5⟩ := BX.out w4 hb4
      obtain ⟨T, hT⟩ : ∃ T, T = setStr ss s := ⟨_, rfl⟩
      obtain ⟨E, hE⟩ : ∃ E, E = setErr ss s := ⟨_, rfl⟩
      rw [← hT, ← hE]
      have HT := Lib.hid hT
      have HE := Lib.hid hE
      clear hT hE
      go_wp2_with fail
      refine (ref_set_val _ _ _ _ _ _ _ _ _ _ _ _ _ _ _ _ ss s w4 HS.out HN.out ((hsee3.below hb4 hbw3.size).mono (Nat.le_trans hbw3.size hb4.size)) hN (by omega)).mono ?_
      rintro e w5 ⟨rfl, hb5⟩
      have hb5 : Below w3.heap.size w3 w5 := hb4.trans (hb5.mono hb4.size)
      clear b0 b1 b2 b3 b4 b5
      obtain ⟨b0, b1, b2, b3, b4, b5⟩ := BX.out w5 hb5
      rw [← HT.out, ← HE.out]
      go_wp2_with fail
      refine ((family_any _ _ _ _ _ _ _ _ _ _ _ _ _ _ _ _ Af nf cf ss fs w5 HFS.out (ht3.below hb5 (Nat.le_refl _)) HN.out ((hsee3.below hb5 hbw3.size).mono (Nat.le_trans hbw3.size hb5.size)) hN (by omega) HNF.out ((hseef3.below hb5 hbw3.size).mono (Nat.le_trans hbw3.size hb5.size)) (by omega)).mono fun _ _ h => fam_post h).mono ?_
      rintro e w6 ⟨rfl, hb6⟩
      have hb6 : Below w3.heap.size w3 w6 := hb5.trans (hb6.mono hb5.size)
      clear b0 b1 b2 b3 b4 b5
      obtain ⟨b0, b1, b2, b3, b4, b5⟩ := BX.out w6 hb6
      obtain ⟨U, hU⟩ : ∃ U, U = famStr ss fs := ⟨_, rfl⟩
      obtain ⟨F, hF⟩ : ∃ F, F = famErr ss fs := ⟨_, rfl⟩
      rw [← hU, ← hF]
      have HU := Lib.hid hU
      have HF := Lib.hid hF
      clear hU hF
      go_wp2_with fail
      refine ((ref_family_any _ _ _ _ _ _ _ _ _ _ _ _ _ _ _ _ Af nf cf ss fs w6 HFS.out HN.out ((hsee3.below hb6 hbw3.size).mono (Nat.le_trans hbw3.size hb6.size)) hN (by omega) HNF.out ((hseef3.below hb6 hbw3.size).mono (Nat.le_trans hbw3.size hb6.size)) (by omega)).mono fun _ _ h => fam_post h).mono ?_
      rintro e w7 ⟨rfl, hb7⟩
      have hb7 : Below w3.heap.size w3 w7 := hb6.trans (hb7.mono hb6.size)
      clear b0 b1 b2 b3 b4 b5
      rw [← HU.out, ← HF.out]
      go_wp2
      go_ret
      exact ⟨rfl, hbw3.trans (hb7.mono hbw3.size)⟩

set_option maxHeartbeats 4000000 in
set_option maxRecDepth 100000 in
theorem faults_law (A : Option Addr) (n c : Nat) (ss : List ByteArray) (Af : Option Addr) (nf cf : Nat) (fs : List (Nat × Nat)) (w : World) (ht : Tz w)
    (hn : n = ss.length) (hc : n ≤ c) (hsee : Sees w w.heap.size 1 A n (strVals ss)) (hl1 : n ≤ 10000000) (hl3 : tot ss ≤ 10000000)
    (hnf : nf = fs.length) (hseef : Sees w w.heap.size 2 Af nf (faultVals fs)) (hfs : ∀ j, j < fs.length → (fs.getD j (0, 0)).1 < 65536 ∧ (fs.getD j (0, 0)).2 < 65536) (hlf : nf ≤ 10000000) :
    Calls Tryd.prog 4 #[.slice A n c, .slice Af nf cf] w fun e w' => e = .returned (.bool true) ∧ Below w.heap.size w w' := by
  have HN := Lib.hid hn
  have HNF := Lib.hid hnf
  have HFS := Lib.hid hfs
  clear hn hnf hfs
  go_enter Tryd.func4, Tryd.ntmps4
  go_wp2_with fail
  refine (awake_any w ht).mono ?_
  rintro e w1 ⟨rfl, hb1⟩
  go_wp2_with fail
  refine (short_any A n c ss w1 HN.out hc ((hsee.below hb1 (Nat.le_refl _)).mono hb1.size) hl1 hl3).mono ?_
  rintro e w2 ⟨rfl, hb2⟩
  have hbw2 : Below w.heap.size w w2 := hb1.trans (hb2.mono hb1.size)
  cases hsh : shortB ss
  · clear hsh
    go_wp2_with fail
    refine (awake_any w2 (ht.below hbw2 (Nat.le_refl _))).mono ?_
    rintro e w3 ⟨rfl, hb3⟩
    go_wp2
    go_ret
    exact ⟨rfl, hbw2.trans (hb3.mono hbw2.size)⟩
  · simp only [shortB, Bool.and_eq_true, decide_eq_true_eq] at hsh
    obtain ⟨h20, h2000⟩ := hsh
    by_cases h40 : 40 < nf
    · have h40I : (40 : Int) < (nf : Int) := by omega
      go_wp2_with fail
      refine (awake_any w2 (ht.below hbw2 (Nat.le_refl _))).mono ?_
      rintro e w3 ⟨rfl, hb3⟩
      go_wp2
      go_ret
      exact ⟨rfl, hbw2.trans (hb3.mono hbw2.size)⟩
    · have h40I : ¬ (40 : Int) < (nf : Int) := by omega
      go_wp2_with fail
      obtain ⟨w3, hw3⟩ : ∃ w3 : World, w3 = w2.alloc (.cells #[.slice A n c, .slice none 0 0, .int .u16 0, .slice none 0 0, .slice none 0 0, .slice none 0 0] 33) := ⟨_, rfl⟩
      have hbw3 : Below w.heap.size w w3 := by rw [hw3]; exact hbw2.alloc hbw2.size _
      have hsz3 : w2.heap.size < w3.heap.size := by rw [hw3]; simp
      have bx := fun (W : World) (hb : Below w3.heap.size w3 W) => box6 A none none none none n c 0 0 0 0 0 0 0 0 0 (w := w2) (wr := W) (by rw [← hw3]; exact hb) hsz3
      have BX := Lib.hid bx
      rw [← hw3]
      have hsee3 := hsee.below hbw3 (Nat.le_refl _)
      have hseef3 := hseef.below hbw3 (Nat.le_refl _)
      have ht3 := ht.below hbw3 (Nat.le_refl _)
      clear bx hw3
      have hN : n ≤ 1000000000000 := by omega
      refine ((faults_any _ _ _ _ _ _ _ _ _ _ _ _ _ _ _ _ Af nf cf ss fs w3 HFS.out ht3 HN.out (hsee3.mono hbw3.size) hN (by omega) HNF.out (hseef3.mono hbw3.size) (by omega)).mono fun _ _ h => faults_post h).mono ?_
      rintro e w4 ⟨rfl, hb4⟩
      obtain ⟨b0, b1, b2, b3, b4, b5⟩ := BX.out w4 hb4
      obtain ⟨T, hT⟩ : ∃ T, T = faultsStr ss fs := ⟨_, rfl⟩
      obtain ⟨E, hE⟩ : ∃ E, E = faultsErr ss fs := ⟨_, rfl⟩
      rw [← hT, ← hE]
      have HT := Lib.hid hT
      have HE := Lib.hid hE
      clear hT hE
      go_wp2_with fail
      refine ((ref_faults_any _ _ _ _ _ _ _ _ _ _ _ _ _ _ _ _ Af nf cf ss fs w4 HFS.out HN.out ((hsee3.below hb4 hbw3.size).mono (Nat.le_trans hbw3.size hb4.size)) hN (by omega) HNF.out ((hseef3.below hb4 hbw3.size).mono (Nat.le_trans hbw3.size hb4.size)) (by omega)).mono fun _ _ h => faults_post h).mono ?_
      rintro e w5 ⟨rfl, hb5⟩
      have hb5 : Below w3.heap.size w3 w5 := hb4.trans (hb5.mono hb4.size)
      clear b0 b1 b2 b3 b4 b5
      rw [← HT.out, ← HE.out]
      go_wp2
      go_ret
      exact ⟨rfl, hbw3.trans (hb5.mono hbw3.size)⟩

theorem clash_box (r : Int) (x y z : Nat) (w W : World) (B : Nat) (hB : w.heap.size < B) (hb : Below B (w.alloc (.cells #[.int .i64 r, .int .u16 x, .int .u16 y, .int .u16 z] 43)) W) :
    W.cell? ⟨w.heap.size, 0, none⟩ = some (.int .i64 r) ∧ W.cell? ⟨w.heap.size, 1, none⟩ = some (.int .u16 x) ∧ W.cell? ⟨w.heap.size, 2, none⟩ = some (.int .u16 y) ∧ W.cell? ⟨w.heap.size, 3, none⟩ = some (.int .u16 z) :=
  ⟨(hb.cell (p := ⟨w.heap.size, 0, none⟩) hB).trans (by simp), (hb.cell (p := ⟨w.heap.size, 1, none⟩) hB).trans (by simp), (hb.cell (p := ⟨w.heap.size, 2, none⟩) hB).trans (by simp), (hb.cell (p := ⟨w.heap.size, 3, none⟩) hB).trans (by simp)⟩

set_option maxHeartbeats 4000000 in
set_option maxRecDepth 100000 in
theorem clash_law (A : Option Addr) (n c : Nat) (ss : List ByteArray) (r : Int) (x y z : Nat) (w : World) (ht : Tz w)
    (hn : n = ss.length) (hc : n ≤ c) (hsee : Sees w w.heap.size 1 A n (strVals ss)) (hl1 : n ≤ 10000000) (hl3 : tot ss ≤ 10000000) (hx : x < 65536) (hy : y < 65536) (hz : z < 65536) :
    Calls Tryd.prog 5 #[.slice A n c, .agg #[.int .i64 r, .int .u16 x, .int .u16 y, .int .u16 z]] w fun e w' => e = .returned (.bool true) ∧ Below w.heap.size w w' := by
  have HN := Lib.hid hn
  have HX := Lib.hid hx
  have HY := Lib.hid hy
  have HZ := Lib.hid hz
  clear hn hx hy hz
  go_enter Tryd.func5, Tryd.ntmps5
  go_wp2_with fail
  have hb0 : Below w.heap.size w (w.alloc (.cells #[.int .i64 r, .int .u16 x, .int .u16 y, .int .u16 z] 43)) := (Below.refl _ _).alloc (Nat.le_refl _) _
  refine (awake_any _ (ht.below hb0 (Nat.le_refl _))).mono ?_
  rintro e w1 ⟨rfl, hb1⟩
  have hbb := fun (W : World) (B : Nat) (hB : w.heap.size < B) (hb : Below B (w.alloc (.cells #[.int .i64 r, .int .u16 x, .int .u16 y, .int .u16 z] 43)) W) => clash_box r x y z w W B hB hb
  have hs1 : w.heap.size < w1.heap.size := by have := hb1.size; simp at this; omega
  have hb1' : Below (w.heap.size + 1) (w.alloc (.cells #[.int .i64 r, .int .u16 x, .int .u16 y, .int .u16 z] 43)) w1 := hb1.mono (by simp)
  have hb1 : Below w.heap.size w w1 := hb0.trans (hb1.mono (by simp))
  have HBB := Lib.hid hbb
  clear hbb
  go_wp2_with fail
  refine (short_any A n c ss w1 HN.out hc ((hsee.below hb1 (Nat.le_refl _)).mono hb1.size) hl1 hl3).mono ?_
  rintro e w2 ⟨rfl, hb2⟩
  have hbw2 : Below w.heap.size w w2 := hb1.trans (hb2.mono hb1.size)
  have hb2' := hb1'.trans (hb2.mono hs1)
  have hs2 := hb2.size
  cases hsh : shortB ss
  · clear hsh
    go_wp2_with fail
    refine (awake_any w2 (ht.below hbw2 (Nat.le_refl _))).mono ?_
    rintro e w3 ⟨rfl, hb3⟩
    go_wp2
    go_ret
    exact ⟨rfl, hbw2.trans (hb3.mono hbw2.size)⟩
  · simp only [shortB, Bool.and_eq_true, decide_eq_true_eq] at hsh
    obtain ⟨h20, h2000⟩ := hsh
    obtain ⟨k0, k1, k2, k3⟩ := HBB.out (w2.alloc (.cells #[.slice A n c, .slice none 0 0, .int .u16 0, .slice none 0 0, .slice none 0 0, .slice none 0 0] 33)) _ (Nat.lt_succ_self _) (hb2'.alloc (by omega) _)
    go_wp2_with fail
    obtain ⟨w3, hw3⟩ : ∃ w3 : World, w3 = w2.alloc (.cells #[.slice A n c, .slice none 0 0, .int .u16 0, .slice none 0 0, .slice none 0 0, .slice none 0 0] 33) := ⟨_, rfl⟩
    have hbw3 : Below w.heap.size w w3 := by rw [hw3]; exact hbw2.alloc hbw2.size _
    have hb3' : Below (w.heap.size + 1) (w.alloc (.cells #[.int .i64 r, .int .u16 x, .int .u16 y, .int .u16 z] 43)) w3 := by rw [hw3]; exact hb2'.alloc (by omega) _
    have hsz3 : w2.heap.size < w3.heap.size := by rw [hw3]; simp
    have bx := fun (W : World) (hb : Below w3.heap.size w3 W) => box6 A none none none none n c 0 0 0 0 0 0 0 0 0 (w := w2) (wr := W) (by rw [← hw3]; exact hb) hsz3
    have BX := Lib.hid bx
    rw [← hw3]
    have hsee3 := hsee.below hbw3 (Nat.le_refl _)
    have ht3 := ht.below hbw3 (Nat.le_refl _)
    clear bx hw3
    have hN : n ≤ 1000000000000 := by omega
    refine ((clash_any _ _ _ _ _ _ _ _ _ _ _ _ _ _ _ _ ss r x y z w3 HX.out HY.out HZ.out ht3 HN.out (hsee3.mono hbw3.size) hN (by omega)).mono fun _ _ h => clash_post h).mono ?_
    rintro e w4 ⟨rfl, hb4⟩
    obtain ⟨b0, b1, b2, b3, b4, b5⟩ := BX.out w4 hb4
    have hb4' := hb3'.trans (hb4.mono (by omega))
    clear k0 k1 k2 k3
    obtain ⟨k0, k1, k2, k3⟩ := HBB.out w4 _ (Nat.lt_succ_self _) hb4'
    obtain ⟨T, hT⟩ : ∃ T, T = clashStr ss r x y z := ⟨_, rfl⟩
    obtain ⟨E, hE⟩ : ∃ E, E = clashErr ss r x y z := ⟨_, rfl⟩
    rw [← hT, ← hE]
    have HT := Lib.hid hT
    have HE := Lib.hid hE
    clear hT hE
    go_wp2_with fail
    refine ((ref_clash_any _ _ _ _ _ _ _ _ _ _ _ _ _ _ _ _ ss r x y z w4 HX.out HY.out HZ.out HN.out ((hsee3.below hb4 hbw3.size).mono (Nat.le_trans hbw3.size hb4.size)) hN (by omega)).mono fun _ _ h => clash_post h).mono ?_
    rintro e w5 ⟨rfl, hb5⟩
    have hb5 : Below w3.heap.size w3 w5 := hb4.trans (hb5.mono hb4.size)
    clear b0 b1 b2 b3 b4 b5
    rw [← HT.out, ← HE.out]
    go_wp2
    go_ret
    exact ⟨rfl, hbw3.trans (hb5.mono hbw3.size)⟩
end Go.Proofs.YtdclhgngjbneiaaDoor
