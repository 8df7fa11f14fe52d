/- The contracts of both functions Clash: the text of a clash, or the specified error. -/
import Derived.Test.YtdclhgngjbneiaaDoorFaultsRef
namespace Go.Proofs.YtdclhgngjbneiaaDoor
open Go.RowKit

theorem fits_and {ss : List ByteArray} {a : Nat} (b : Nat) (h : fits ss a) : fits ss (a &&& b) := by
  intro i hi
  apply h
  simp only [mem, List.mem_filter, Nat.testBit_and, Bool.and_eq_true] at hi ⊢
  exact ⟨hi.1, hi.2.1⟩
/-- The text of a clash of rule 1 or 2. -/
def clashText (ss : List ByteArray) (r a b y : Nat) : List UInt8 :=
  [114, 117, 108, 101, 32] ++ Lib.decDigits r ++ [58, 32] ++ setText ss a ++ [32, 97, 110, 100, 32] ++ setText ss b ++ [32, 115, 104, 97, 114, 101, 32] ++ setText ss (a &&& b) ++ [44, 32, 111, 102, 32, 119, 104, 105, 99, 104, 32, 109, 97, 121, 32, 108, 105, 101, 32] ++ setText ss y
/-- The text of a clash of rule 3. -/
def clash3 (ss : List ByteArray) (y : Nat) : List UInt8 := [114, 117, 108, 101, 32, 51, 58, 32, 109, 97, 121, 32, 108, 105, 101, 32] ++ setText ss y
/-- What Clash returns. -/
def ClashPost (ss : List ByteArray) (r : Int) (x y z : Nat) (w : World) (e : Ending) (w' : World) : Prop :=
  Below w.heap.size w w' ∧ (¬ (1 ≤ r ∧ r ≤ 3) → e = .returned (.tuple #[.string (bs []), .int .i64 1])) ∧
    (1 ≤ r ∧ r ≤ 3 → ¬ fits ss z → e = .returned (.tuple #[.string (bs []), .int .i64 7])) ∧
    (r = 3 → fits ss z → e = .returned (.tuple #[.string (bs (clash3 ss z)), .int .i64 0])) ∧
    (1 ≤ r ∧ r ≤ 2 → fits ss z → ¬ (fits ss x ∧ fits ss y) → e = .returned (.tuple #[.string (bs []), .int .i64 7])) ∧
    (1 ≤ r ∧ r ≤ 2 → fits ss z → fits ss x ∧ fits ss y → e = .returned (.tuple #[.string (bs (clashText ss r.toNat x y z)), .int .i64 0]))

theorem itoa_small (r : Int) (h1 : 1 ≤ r) (h2 : r ≤ 2) (w : World) : Calls Tryd.prog 31 #[.int .i64 r] w fun e w' => e = .returned (.string (bs (Lib.decDigits r.toNat))) ∧ w = w' := by
  obtain ⟨k, rfl⟩ := Int.eq_ofNat_of_zero_le (show 0 ≤ r by omega)
  refine (Tryd.strconv_Itoa_small k (by omega) w).mono fun e w' ⟨he, hw⟩ => ⟨?_, hw.symm⟩
  rw [he]; rfl

theorem digits_small (r : Int) (h1 : 1 ≤ r) (h2 : r ≤ 2) : (Lib.decDigits r.toNat).length ≤ 2 := by
  obtain rfl | rfl : r = 1 ∨ r = 2 := by omega
  · decide +kernel
  · decide +kernel

set_option maxHeartbeats 4000000 in
set_option maxRecDepth 100000 in
theorem clash_any (A A1 A2 A3 A4 : Option Addr) (n c n1 c1 n2 c2 n3 c3 n4 c4 : Nat) (wit : Int) (ss : List ByteArray) (r : Int) (x y z : Nat) (w : World) (hx : x < 65536) (hy : y < 65536) (hz : z < 65536) (ht : Tz w)
    (hn : n = ss.length) (hsee : Sees w w.heap.size 1 A n (strVals ss)) (hlim : n ≤ 1000000000000) (htot : tot ss ≤ 10000000) :
    Calls Tryd.prog 17 #[.agg #[.slice A n c, .slice A1 n1 c1, .int .u16 wit, .slice A2 n2 c2, .slice A3 n3 c3, .slice A4 n4 c4], .agg #[.int .i64 r, .int .u16 x, .int .u16 y, .int .u16 z]] w (ClashPost ss r x y z w) := by
  have HN := Lib.hid hn
  have HX := Lib.hid hx
  have HY := Lib.hid hy
  have HZ := Lib.hid hz
  have hxy : bits .and .u16 (x : Int) (y : Int) = ((x &&& y : Nat) : Int) := u16_and_nat x y hx hy
  have HXY := Lib.hid (show x &&& y < 65536 from Nat.lt_of_le_of_lt Nat.and_le_left hx)
  clear hn hx hy hz
  have hbW : Below w.heap.size w ((w.alloc (.cells #[.slice A n c, .slice A1 n1 c1, .int .u16 wit, .slice A2 n2 c2, .slice A3 n3 c3, .slice A4 n4 c4] 33)).alloc (.cells #[.int .i64 r, .int .u16 x, .int .u16 y, .int .u16 z] 43)) := ((Below.refl _ _).alloc (Nat.le_refl _) _).alloc (by simp) _
  by_cases hr1 : r < 1
  · clear hxy
    go_enter Tryd.func17, Tryd.ntmps17
    go_wp2
    go_ret2
    exact ⟨hbW, fun _ => rfl, fun h => absurd h.1 (by omega), fun h => absurd h (by omega), fun h => absurd h.1 (by omega), fun h => absurd h.1 (by omega)⟩
  by_cases hr3 : 3 < r
  · clear hxy
    go_enter Tryd.func17, Tryd.ntmps17
    go_wp2
    go_ret2
    exact ⟨hbW, fun _ => rfl, fun h => absurd h.2 (by omega), fun h => absurd h (by omega), fun h => absurd h.2 (by omega), fun h => absurd h.2 (by omega)⟩
  go_enter Tryd.func17, Tryd.ntmps17
  go_wp2_with fail
  refine (set_val _ _ _ _ _ _ _ _ _ _ _ _ _ _ _ _ ss z _ HZ.out (ht.below hbW (Nat.le_refl _)) HN.out ((hsee.below hbW (Nat.le_refl _)).mono hbW.size) hlim (by omega)).mono ?_
  rintro e w1 ⟨rfl, hb1⟩
  have hbw : Below w.heap.size w w1 := hbW.trans (hb1.mono hbW.size)
  obtain ⟨b0, b1, b2, b3, b4, b5⟩ := box6 A A1 A2 A3 A4 n c n1 c1 n2 c2 n3 c3 n4 c4 wit (w := w) (wr := w1) (B := w.heap.size + 1) (((Below.refl _ _).alloc (by simp) _).trans (hb1.mono (by simp))) (by omega)
  have f0 : w1.cell? ⟨w.heap.size + 1, 0, none⟩ = some (.int .i64 r) := by rw [hb1.cell (by simp)]; simp
  have f1 : w1.cell? ⟨w.heap.size + 1, 1, none⟩ = some (.int .u16 x) := by rw [hb1.cell (by simp)]; simp
  have f2 : w1.cell? ⟨w.heap.size + 1, 2, none⟩ = some (.int .u16 y) := by rw [hb1.cell (by simp)]; simp
  have hs1 : w.heap.size + 2 ≤ w1.heap.size := by have := hb1.size; simp at this; omega
  have hbB1 : Below (w.heap.size + 1) (w.alloc (.cells #[.slice A n c, .slice A1 n1 c1, .int .u16 wit, .slice A2 n2 c2, .slice A3 n3 c3, .slice A4 n4 c4] 33)) w1 := ((Below.refl _ _).alloc (by simp) _).trans (hb1.mono (by simp))
  clear hb1
  obtain ⟨T, hT⟩ : ∃ T, T = setStr ss z := ⟨_, rfl⟩
  obtain ⟨E, hE⟩ : ∃ E, E = setErr ss z := ⟨_, rfl⟩
  have hTs : T.size ≤ 200000000 := by have := setStr_size ss z; rw [hT]; omega
  rw [← hT, ← hE]
  have HT := Lib.hid hT
  have HE := Lib.hid hE
  clear hT hE
  by_cases hfz : fits ss z
  · have hE0 : (E != 0) = false := by rw [HE.out, setErr_yes hfz]; rfl
    have hTT : T = bs (setText ss z) := by rw [HT.out, setStr_yes hfz]
    have HFZ := Lib.hid hfz
    have HTT := Lib.hid hTT
    clear hfz hTT
    by_cases hr : r = 3
    · have er : (r == 3) = true := by rw [beq_iff_eq]; exact hr
      have HR := Lib.hid hr
      clear hr hxy
      go_wp2
      go_ret2
      refine ⟨hbw, fun h => absurd ⟨by omega, by omega⟩ h, fun _ h => absurd HFZ.out h, fun _ _ => ?_, fun h => absurd HR.out (by omega), fun h => absurd HR.out (by omega)⟩
      unfold clash3
      rw [← bs_append, ← HTT.out]; rfl
    · have er : (r == 3) = false := by rw [beq_eq_false_iff_ne]; exact hr
      have hr2 : r ≤ 2 := by omega
      have hr0 : 1 ≤ r := by omega
      have HR := Lib.hid hr
      clear hr
      go_wp2_with fail
      refine (set_val _ _ _ _ _ _ _ _ _ _ _ _ _ _ _ _ ss x w1 HX.out (ht.below hbw (Nat.le_refl _)) HN.out ((hsee.below hbw (Nat.le_refl _)).mono hbw.size) hlim (by omega)).mono ?_
      rintro e w2 ⟨rfl, hb2⟩
      have hbw2 : Below w.heap.size w w2 := hbw.trans (hb2.mono hbw.size)
      have hs2 := hb2.size
      have hbB2 := hbB1.trans (hb2.mono (by omega))
      have g0 : w2.cell? ⟨w.heap.size + 1, 0, none⟩ = some (.int .i64 r) := by rw [hb2.cell (by simp only; omega)]; exact f0
      have g1 : w2.cell? ⟨w.heap.size + 1, 1, none⟩ = some (.int .u16 x) := by rw [hb2.cell (by simp only; omega)]; exact f1
      have g2 : w2.cell? ⟨w.heap.size + 1, 2, none⟩ = some (.int .u16 y) := by rw [hb2.cell (by simp only; omega)]; exact f2
      obtain ⟨b0', b1', b2', b3', b4', b5'⟩ := box6 A A1 A2 A3 A4 n c n1 c1 n2 c2 n3 c3 n4 c4 wit (w := w) hbB2 (by omega)
      clear hb2 b0 b1 b2 b3 b4 b5 f0 f1 f2 hbB1
      obtain ⟨U, hU⟩ : ∃ U, U = setStr ss x := ⟨_, rfl⟩
      obtain ⟨F, hF⟩ : ∃ F, F = setErr ss x := ⟨_, rfl⟩
      have hUs : U.size ≤ 200000000 := by have := setStr_size ss x; rw [hU]; omega
      rw [← hU, ← hF]
      have HU := Lib.hid hU
      have HF := Lib.hid hF
      clear hU hF
      go_wp2_with fail
      refine (set_val _ _ _ _ _ _ _ _ _ _ _ _ _ _ _ _ ss y w2 HY.out (ht.below hbw2 (Nat.le_refl _)) HN.out ((hsee.below hbw2 (Nat.le_refl _)).mono hbw2.size) hlim (by omega)).mono ?_
      rintro e w3 ⟨rfl, hb3⟩
      have hbw3 : Below w.heap.size w w3 := hbw2.trans (hb3.mono hbw2.size)
      have hs3 := hb3.size
      have hbB3 := hbB2.trans (hb3.mono (by omega))
      have k0 : w3.cell? ⟨w.heap.size + 1, 0, none⟩ = some (.int .i64 r) := by rw [hb3.cell (by simp only; omega)]; exact g0
      have k1 : w3.cell? ⟨w.heap.size + 1, 1, none⟩ = some (.int .u16 x) := by rw [hb3.cell (by simp only; omega)]; exact g1
      have k2 : w3.cell? ⟨w.heap.size + 1, 2, none⟩ = some (.int .u16 y) := by rw [hb3.cell (by simp only; omega)]; exact g2
      obtain ⟨b0, b1, b2, b3, b4, b5⟩ := box6 A A1 A2 A3 A4 n c n1 c1 n2 c2 n3 c3 n4 c4 wit (w := w) hbB3 (by omega)
      clear hb3 b0' b1' b2' b3' b4' b5' g0 g1 g2 hbB2
      obtain ⟨V, hV⟩ : ∃ V, V = setStr ss y := ⟨_, rfl⟩
      obtain ⟨G, hG⟩ : ∃ G, G = setErr ss y := ⟨_, rfl⟩
      have hVs : V.size ≤ 200000000 := by have := setStr_size ss y; rw [hV]; omega
      rw [← hV, ← hG]
      have HV := Lib.hid hV
      have HG := Lib.hid hG
      clear hV hG
      go_wp2_with fail
      refine (set_val _ _ _ _ _ _ _ _ _ _ _ _ _ _ _ _ ss (x &&& y) w3 HXY.out (ht.below hbw3 (Nat.le_refl _)) HN.out ((hsee.below hbw3 (Nat.le_refl _)).mono hbw3.size) hlim (by omega)).mono ?_
      rintro e w4 ⟨rfl, hb4⟩
      have hbw4 : Below w.heap.size w w4 := hbw3.trans (hb4.mono hbw3.size)
      have l0 : w4.cell? ⟨w.heap.size + 1, 0, none⟩ = some (.int .i64 r) := by rw [hb4.cell (by simp only; omega)]; exact k0
      clear hb4 b0 b1 b2 b3 b4 b5 k0 k1 k2 hbB3 hxy
      obtain ⟨X, hX⟩ : ∃ X, X = setStr ss (x &&& y) := ⟨_, rfl⟩
      obtain ⟨H, hH⟩ : ∃ H, H = setErr ss (x &&& y) := ⟨_, rfl⟩
      have hXs : X.size ≤ 200000000 := by have := setStr_size ss (x &&& y); rw [hX]; omega
      rw [← hX, ← hH]
      have HX2 := Lib.hid hX
      have HH := Lib.hid hH
      clear hX hH
      by_cases hfx : fits ss x
      · have hF0 : (F != 0) = false := by rw [HF.out, setErr_yes hfx]; rfl
        have hH0 : (H != 0) = false := by rw [HH.out, setErr_yes (fits_and y hfx)]; rfl
        have HFX := Lib.hid hfx
        clear hfx
        by_cases hfy : fits ss y
        · have hG0 : (G != 0) = false := by rw [HG.out, setErr_yes hfy]; rfl
          have HFY := Lib.hid hfy
          clear hfy
          go_wp2_with fail
          refine (itoa_small r hr0 hr2 w4).mono ?_
          rintro e w5 ⟨rfl, rfl⟩
          have hds := digits_small r hr0 hr2
          obtain ⟨D, hD⟩ : ∃ D, D = bs (Lib.decDigits r.toNat) := ⟨_, rfl⟩
          have hDs : D.size ≤ 2 := by rw [hD, bs_size]; exact hds
          rw [← hD]
          have HD := Lib.hid hD
          clear hD hds
          go_wp2
          go_ret2
          refine ⟨hbw4, fun h => absurd ⟨by omega, by omega⟩ h, fun _ h => absurd HFZ.out h, fun h => absurd h HR.out, fun _ _ h => absurd ⟨HFX.out, HFY.out⟩ h, fun _ _ _ => ?_⟩
          unfold clashText
          rw [← bs_append, ← bs_append, ← bs_append, ← bs_append, ← bs_append, ← bs_append, ← bs_append, ← bs_append, ← bs_append, ← HD.out, ← HTT.out, ← setStr_yes HFX.out, ← setStr_yes HFY.out, ← setStr_yes (fits_and y HFX.out), ← HU.out, ← HV.out, ← HX2.out]
          rfl
        · have hG0 : (G != 0) = true := by rw [HG.out, setErr_no hfy]; rfl
          have HFY := Lib.hid hfy
          clear hfy
          go_wp2
          go_ret2
          exact ⟨hbw4, fun h => absurd ⟨by omega, by omega⟩ h, fun _ h => absurd HFZ.out h, fun h => absurd h HR.out, fun _ _ _ => rfl, fun _ _ h => absurd h.2 HFY.out⟩
      · have hF0 : (F != 0) = true := by rw [HF.out, setErr_no hfx]; rfl
        have HFX := Lib.hid hfx
        clear hfx
        go_wp2
        go_ret2
        exact ⟨hbw4, fun h => absurd ⟨by omega, by omega⟩ h, fun _ h => absurd HFZ.out h, fun h => absurd h HR.out, fun _ _ _ => rfl, fun _ _ h => absurd h.1 HFX.out⟩
  · have hE0 : (E != 0) = true := by rw [HE.out, setErr_no hfz]; rfl
    have HFZ := Lib.hid hfz
    have HE7 : E = 7 := by rw [HE.out, setErr_no hfz]
    have HE7 := Lib.hid HE7
    clear hfz hxy
    go_wp2
    go_ret2
    refine ⟨hbw, fun h => absurd ⟨by omega, by omega⟩ h, fun _ _ => ?_, fun _ h => absurd h HFZ.out, fun _ h => absurd h HFZ.out, fun _ h => absurd h HFZ.out⟩
    rw [← HE7.out]; rfl

set_option maxHeartbeats 4000000 in
set_option maxRecDepth 100000 in
theorem ref_clash_any (A A1 A2 A3 A4 : Option Addr) (n c n1 c1 n2 c2 n3 c3 n4 c4 : Nat) (wit : Int) (ss : List ByteArray) (r : Int) (x y z : Nat) (w : World) (hx : x < 65536) (hy : y < 65536) (hz : z < 65536)
    (hn : n = ss.length) (hsee : Sees w w.heap.size 1 A n (strVals ss)) (hlim : n ≤ 1000000000000) (htot : tot ss ≤ 10000000) :
    Calls Tryd.prog 18 #[.agg #[.slice A n c, .slice A1 n1 c1, .int .u16 wit, .slice A2 n2 c2, .slice A3 n3 c3, .slice A4 n4 c4], .agg #[.int .i64 r, .int .u16 x, .int .u16 y, .int .u16 z]] w (ClashPost ss r x y z w) := by
  have HN := Lib.hid hn
  have HX := Lib.hid hx
  have HY := Lib.hid hy
  have HZ := Lib.hid hz
  have hxy : bits .and .u16 (x : Int) (y : Int) = ((x &&& y : Nat) : Int) := u16_and_nat x y hx hy
  have HXY := Lib.hid (show x &&& y < 65536 from Nat.lt_of_le_of_lt Nat.and_le_left hx)
  clear hn hx hy hz
  have hbW : Below w.heap.size w ((w.alloc (.cells #[.slice A n c, .slice A1 n1 c1, .int .u16 wit, .slice A2 n2 c2, .slice A3 n3 c3, .slice A4 n4 c4] 33)).alloc (.cells #[.int .i64 r, .int .u16 x, .int .u16 y, .int .u16 z] 43)) := ((Below.refl _ _).alloc (Nat.le_refl _) _).alloc (by simp) _
  by_cases hr1 : r < 1
  · clear hxy
    go_enter Tryd.func18, Tryd.ntmps18
    go_wp2
    go_ret2
    exact ⟨hbW, fun _ => rfl, fun h => absurd h.1 (by omega), fun h => absurd h (by omega), fun h => absurd h.1 (by omega), fun h => absurd h.1 (by omega)⟩
  by_cases hr3 : 3 < r
  · clear hxy
    go_enter Tryd.func18, Tryd.ntmps18
    go_wp2
    go_ret2
    exact ⟨hbW, fun _ => rfl, fun h => absurd h.2 (by omega), fun h => absurd h (by omega), fun h => absurd h.2 (by omega), fun h => absurd h.2 (by omega)⟩
  go_enter Tryd.func18, Tryd.ntmps18
  go_wp2_with fail
  refine (ref_set_val _ _ _ _ _ _ _ _ _ _ _ _ _ _ _ _ ss z _ HZ.out HN.out ((hsee.below hbW (Nat.le_refl _)).mono hbW.size) hlim (by omega)).mono ?_
  rintro e w1 ⟨rfl, hb1⟩
  have hbw : Below w.heap.size w w1 := hbW.trans (hb1.mono hbW.size)
  obtain ⟨b0, b1, b2, b3, b4, b5⟩ := box6 A A1 A2 A3 A4 n c n1 c1 n2 c2 n3 c3 n4 c4 wit (w := w) (wr := w1) (B := w.heap.size + 1) (((Below.refl _ _).alloc (by simp) _).trans (hb1.mono (by simp))) (by omega)
  have f0 : w1.cell? ⟨w.heap.size + 1, 0, none⟩ = some (.int .i64 r) := by rw [hb1.cell (by simp)]; simp
  have f1 : w1.cell? ⟨w.heap.size + 1, 1, none⟩ = some (.int .u16 x) := by rw [hb1.cell (by simp)]; simp
  have f2 : w1.cell? ⟨w.heap.size + 1, 2, none⟩ = some (.int .u16 y) := by rw [hb1.cell (by simp)]; simp
  have hs1 : w.heap.size + 2 ≤ w1.heap.size := by have := hb1.size; simp at this; omega
  have hbB1 : Below (w.heap.size + 1) (w.alloc (.cells #[.slice A n c, .slice A1 n1 c1, .int .u16 wit, .slice A2 n2 c2, .slice A3 n3 c3, .slice A4 n4 c4] 33)) w1 := ((Below.refl _ _).alloc (by simp) _).trans (hb1.mono (by simp))
  clear hb1
  obtain ⟨T, hT⟩ : ∃ T, T = setStr ss z := ⟨_, rfl⟩
  obtain ⟨E, hE⟩ : ∃ E, E = setErr ss z := ⟨_, rfl⟩
  have hTs : T.size ≤ 200000000 := by have := setStr_size ss z; rw [hT]; omega
  rw [← hT, ← hE]
  have HT := Lib.hid hT
  have HE := Lib.hid hE
  clear hT hE
  by_cases hfz : fits ss z
  · have hE0 : (E != 0) = false := by rw [HE.out, setErr_yes hfz]; rfl
    have hTT : T = bs (setText ss z) := by rw [HT.out, setStr_yes hfz]
    have HFZ := Lib.hid hfz
    have HTT := Lib.hid hTT
    clear hfz hTT
    by_cases hr : r = 3
    · have er : (r == 3) = true := by rw [beq_iff_eq]; exact hr
      have HR := Lib.hid hr
      clear hr hxy
      go_wp2
      go_ret2
      refine ⟨hbw, fun h => absurd ⟨by omega, by omega⟩ h, fun _ h => absurd HFZ.out h, fun _ _ => ?_, fun h => absurd HR.out (by omega), fun h => absurd HR.out (by omega)⟩
      unfold clash3
      rw [← bs_append, ← HTT.out]; rfl
    · have er : (r == 3) = false := by rw [beq_eq_false_iff_ne]; exact hr
      have hr2 : r ≤ 2 := by omega
      have hr0 : 1 ≤ r := by omega
      have HR := Lib.hid hr
      clear hr
      go_wp2_with fail
      refine (ref_set_val _ _ _ _ _ _ _ _ _ _ _ _ _ _ _ _ ss x w1 HX.out HN.out ((hsee.below hbw (Nat.le_refl _)).mono hbw.size) hlim (by omega)).mono ?_
      rintro e w2 ⟨rfl, hb2⟩
      have hbw2 : Below w.heap.size w w2 := hbw.trans (hb2.mono hbw.size)
      have hs2 := hb2.size
      have hbB2 := hbB1.trans (hb2.mono (by omega))
      have g0 : w2.cell? ⟨w.heap.size + 1, 0, none⟩ = some (.int .i64 r) := by rw [hb2.cell (by simp only; omega)]; exact f0
      have g1 : w2.cell? ⟨w.heap.size + 1, 1, none⟩ = some (.int .u16 x) := by rw [hb2.cell (by simp only; omega)]; exact f1
      have g2 : w2.cell? ⟨w.heap.size + 1, 2, none⟩ = some (.int .u16 y) := by rw [hb2.cell (by simp only; omega)]; exact f2
      obtain ⟨b0', b1', b2', b3', b4', b5'⟩ := box6 A A1 A2 A3 A4 n c n1 c1 n2 c2 n3 c3 n4 c4 wit (w := w) hbB2 (by omega)
      clear hb2 b0 b1 b2 b3 b4 b5 f0 f1 f2 hbB1
      obtain ⟨U, hU⟩ : ∃ U, U = setStr ss x := ⟨_, rfl⟩
      obtain ⟨F, hF⟩ : ∃ F, F = setErr ss x := ⟨_, rfl⟩
      have hUs : U.size ≤ 200000000 := by have := setStr_size ss x; rw [hU]; omega
      rw [← hU, ← hF]
      have HU := Lib.hid hU
      have HF := Lib.hid hF
      clear hU hF
      go_wp2_with fail
      refine (ref_set_val _ _ _ _ _ _ _ _ _ _ _ _ _ _ _ _ ss y w2 HY.out HN.out ((hsee.below hbw2 (Nat.le_refl _)).mono hbw2.size) hlim (by omega)).mono ?_
      rintro e w3 ⟨rfl, hb3⟩
      have hbw3 : Below w.heap.size w w3 := hbw2.trans (hb3.mono hbw2.size)
      have hs3 := hb3.size
      have hbB3 := hbB2.trans (hb3.mono (by omega))
      have k0 : w3.cell? ⟨w.heap.size + 1, 0, none⟩ = some (.int .i64 r) := by rw [hb3.cell (by simp only; omega)]; exact g0
      have k1 : w3.cell? ⟨w.heap.size + 1, 1, none⟩ = some (.int .u16 x) := by rw [hb3.cell (by simp only; omega)]; exact g1
      have k2 : w3.cell? ⟨w.heap.size + 1, 2, none⟩ = some (.int .u16 y) := by rw [hb3.cell (by simp only; omega)]; exact g2
      obtain ⟨b0, b1, b2, b3, b4, b5⟩ := box6 A A1 A2 A3 A4 n c n1 c1 n2 c2 n3 c3 n4 c4 wit (w := w) hbB3 (by omega)
      clear hb3 b0' b1' b2' b3' b4' b5' g0 g1 g2 hbB2
      obtain ⟨V, hV⟩ : ∃ V, V = setStr ss y := ⟨_, rfl⟩
      obtain ⟨G, hG⟩ : ∃ G, G = setErr ss y := ⟨_, rfl⟩
      have hVs : V.size ≤ 200000000 := by have := setStr_size ss y; rw [hV]; omega
      rw [← hV, ← hG]
      have HV := Lib.hid hV
      have HG := Lib.hid hG
      clear hV hG
      by_cases hfx : fits ss x
      · have hF0 : (F != 0) = false := by rw [HF.out, setErr_yes hfx]; rfl
        have HFX := Lib.hid hfx
        clear hfx
        by_cases hfy : fits ss y
        · have hG0 : (G != 0) = false := by rw [HG.out, setErr_yes hfy]; rfl
          have HFY := Lib.hid hfy
          clear hfy
          go_wp2_with fail
          refine (ref_set_val _ _ _ _ _ _ _ _ _ _ _ _ _ _ _ _ ss (x &&& y) w3 HXY.out HN.out ((hsee.below hbw3 (Nat.le_refl _)).mono hbw3.size) hlim (by omega)).mono ?_
          rintro e w4 ⟨rfl, hb4⟩
          have hbw4 : Below w.heap.size w w4 := hbw3.trans (hb4.mono hbw3.size)
          have l0 : w4.cell? ⟨w.heap.size + 1, 0, none⟩ = some (.int .i64 r) := by rw [hb4.cell (by simp only; omega)]; exact k0
          clear hb4 b0 b1 b2 b3 b4 b5 k0 k1 k2 hbB3 hxy
          obtain ⟨X, hX⟩ : ∃ X, X = setStr ss (x &&& y) := ⟨_, rfl⟩
          have hXs : X.size ≤ 200000000 := by have := setStr_size ss (x &&& y); rw [hX]; omega
          rw [← hX]
          have HX2 := Lib.hid hX
          clear hX
          go_wp2_with fail
          refine (itoa_small r hr0 hr2 w4).mono ?_
          rintro e w5 ⟨rfl, rfl⟩
          have hds := digits_small r hr0 hr2
          obtain ⟨D, hD⟩ : ∃ D, D = bs (Lib.decDigits r.toNat) := ⟨_, rfl⟩
          have hDs : D.size ≤ 2 := by rw [hD, bs_size]; exact hds
          rw [← hD]
          have HD := Lib.hid hD
          clear hD hds
          go_wp2
          go_ret2
          refine ⟨hbw4, fun h => absurd ⟨by omega, by omega⟩ h, fun _ h => absurd HFZ.out h, fun h => absurd h HR.out, fun _ _ h => absurd ⟨HFX.out, HFY.out⟩ h, fun _ _ _ => ?_⟩
          unfold clashText
          rw [← bs_append, ← bs_append, ← bs_append, ← bs_append, ← bs_append, ← bs_append, ← bs_append, ← bs_append, ← bs_append, ← HD.out, ← HTT.out, ← setStr_yes HFX.out, ← setStr_yes HFY.out, ← setStr_yes (fits_and y HFX.out), ← HU.out, ← HV.out, ← HX2.out]
          rfl
        · have hG0 : (G != 0) = true := by rw [HG.out, setErr_no hfy]; rfl
          have HFY := Lib.hid hfy
          clear hfy hxy
          go_wp2
          go_ret2
          exact ⟨hbw3, fun h => absurd ⟨by omega, by omega⟩ h, fun _ h => absurd HFZ.out h, fun h => absurd h HR.out, fun _ _ _ => rfl, fun _ _ h => absurd h.2 HFY.out⟩
      · have hF0 : (F != 0) = true := by rw [HF.out, setErr_no hfx]; rfl
        have HFX := Lib.hid hfx
        clear hfx hxy
        go_wp2
        go_ret2
        exact ⟨hbw3, fun h => absurd ⟨by omega, by omega⟩ h, fun _ h => absurd HFZ.out h, fun h => absurd h HR.out, fun _ _ _ => rfl, fun _ _ h => absurd h.1 HFX.out⟩
  · have hE0 : (E != 0) = true := by rw [HE.out, setErr_no hfz]; rfl
    have HFZ := Lib.hid hfz
    have HE7 : E = 7 := by rw [HE.out, setErr_no hfz]
    have HE7 := Lib.hid HE7
    clear hfz
    by_cases hr : r = 3
    · have er : (r == 3) = true := by rw [beq_iff_eq]; exact hr
      clear hr hxy
      go_wp2
      go_ret2
      refine ⟨hbw, fun h => absurd ⟨by omega, by omega⟩ h, fun _ _ => ?_, fun _ h => absurd h HFZ.out, fun _ h => absurd h HFZ.out, fun _ h => absurd h HFZ.out⟩
      rw [← HE7.out]; rfl
    · have er : (r == 3) = false := by rw [beq_eq_false_iff_ne]; exact hr
      clear hr
      go_wp2_with fail
      refine (ref_set_val _ _ _ _ _ _ _ _ _ _ _ _ _ _ _ _ ss x w1 HX.out HN.out ((hsee.below hbw (Nat.le_refl _)).mono hbw.size) hlim (by omega)).mono ?_
      rintro e w2 ⟨rfl, hb2⟩
      have hbw2 : Below w.heap.size w w2 := hbw.trans (hb2.mono hbw.size)
      have hs2 := hb2.size
      have hbB2 := hbB1.trans (hb2.mono (by omega))
      have g2 : w2.cell? ⟨w.heap.size + 1, 2, none⟩ = some (.int .u16 y) := by rw [hb2.cell (by simp only; omega)]; exact f2
      obtain ⟨b0', b1', b2', b3', b4', b5'⟩ := box6 A A1 A2 A3 A4 n c n1 c1 n2 c2 n3 c3 n4 c4 wit (w := w) hbB2 (by omega)
      clear hb2 b0 b1 b2 b3 b4 b5 f0 f1 f2 hbB1 hxy
      generalize setStr ss x = U
      generalize setErr ss x = F
      go_wp2_with fail
      refine (ref_set_val _ _ _ _ _ _ _ _ _ _ _ _ _ _ _ _ ss y w2 HY.out HN.out ((hsee.below hbw2 (Nat.le_refl _)).mono hbw2.size) hlim (by omega)).mono ?_
      rintro e w3 ⟨rfl, hb3⟩
      have hbw3 : Below w.heap.size w w3 := hbw2.trans (hb3.mono hbw2.size)
      generalize setStr ss y = V
      generalize setErr ss y = G
      go_wp2
      go_ret2
      exact ⟨hbw3, fun h => absurd ⟨by omega, by omega⟩ h, fun _ _ => rfl, fun _ h => absurd h HFZ.out, fun _ h => absurd h HFZ.out, fun _ h => absurd h HFZ.out⟩
end Go.Proofs.YtdclhgngjbneiaaDoor
