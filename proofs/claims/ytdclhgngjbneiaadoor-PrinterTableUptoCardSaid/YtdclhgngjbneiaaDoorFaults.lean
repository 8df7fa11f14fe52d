/- The contracts of faultText and of both functions Faults: the text of a list of faults, or the error ErrRange. -/
import Derived.Test.YtdclhgngjbneiaaDoorFamily
namespace Go.Proofs.YtdclhgngjbneiaaDoor
open Go.RowKit

theorem set_yes (A A1 A2 A3 A4 : Option Addr) (n c n1 c1 n2 c2 n3 c3 n4 c4 : Nat) (wit : Int) (ss : List ByteArray) (s : Nat) (w : World) (hs : s < 65536) (ht : Tz w)
    (hn : n = ss.length) (hsee : Sees w w.heap.size 1 A n (strVals ss)) (hlim : n ≤ 1000000000000) (htot : tot ss ≤ 10000000000) (hf : fits ss s) :
    Calls Tryd.prog 11 #[.agg #[.slice A n c, .slice A1 n1 c1, .int .u16 wit, .slice A2 n2 c2, .slice A3 n3 c3, .slice A4 n4 c4], .int .u16 s] w fun e w' => e = .returned (.tuple #[.string (bs (setText ss s)), .int .i64 0]) ∧ Below w.heap.size w w' :=
  (set_any _ _ _ _ _ _ _ _ _ _ _ _ _ _ _ _ ss s w hs ht hn hsee hlim htot).mono fun _ _ h => ⟨h.2.1 hf, h.1⟩
theorem set_no (A A1 A2 A3 A4 : Option Addr) (n c n1 c1 n2 c2 n3 c3 n4 c4 : Nat) (wit : Int) (ss : List ByteArray) (s : Nat) (w : World) (hs : s < 65536) (ht : Tz w)
    (hn : n = ss.length) (hsee : Sees w w.heap.size 1 A n (strVals ss)) (hlim : n ≤ 1000000000000) (htot : tot ss ≤ 10000000000) (hf : ¬ fits ss s) :
    Calls Tryd.prog 11 #[.agg #[.slice A n c, .slice A1 n1 c1, .int .u16 wit, .slice A2 n2 c2, .slice A3 n3 c3, .slice A4 n4 c4], .int .u16 s] w fun e w' => e = .returned (.tuple #[.string (bs []), .int .i64 7]) ∧ Below w.heap.size w w' :=
  (set_any _ _ _ _ _ _ _ _ _ _ _ _ _ _ _ _ ss s w hs ht hn hsee hlim htot).mono fun _ _ h => ⟨h.2.2 hf, h.1⟩

/-- The text of a fault. -/
def faultOf (ss : List ByteArray) (b c : Nat) : List UInt8 :=
  if b = 0 ∧ c = 0 then [110, 111, 110, 101] else if c = 0 then [98, 121, 122, 32] ++ setText ss b else if b = 0 then [99, 114, 97, 115, 104, 32] ++ setText ss c
  else [98, 121, 122, 32] ++ setText ss b ++ [32, 99, 114, 97, 115, 104, 32] ++ setText ss c
theorem faultOf_length (ss : List ByteArray) (b c : Nat) : (faultOf ss b c).length ≤ 32 * tot ss + 100 := by
  have h1 := setText_length ss b
  have h2 := setText_length ss c
  unfold faultOf
  split
  · simp
  · split
    · simp; omega
    · split <;> simp <;> omega
/-- What faultText returns. -/
def FaultPost (ss : List ByteArray) (b c : Nat) (w : World) (e : Ending) (w' : World) : Prop :=
  Below w.heap.size w w' ∧ (fits ss b ∧ fits ss c → e = .returned (.tuple #[.string (bs (faultOf ss b c)), .int .i64 0])) ∧ (¬ (fits ss b ∧ fits ss c) → e = .returned (.tuple #[.string (bs []), .int .i64 7]))

set_option maxHeartbeats 4000000 in
theorem faultText_any (A A1 A2 A3 A4 : Option Addr) (n c n1 c1 n2 c2 n3 c3 n4 c4 : Nat) (wit : Int) (ss : List ByteArray) (x y : Nat) (w : World) (hx : x < 65536) (hy : y < 65536) (ht : Tz w)
    (hn : n = ss.length) (hsee : Sees w w.heap.size 1 A n (strVals ss)) (hlim : n ≤ 1000000000000) (htot : tot ss ≤ 10000000) :
    Calls Tryd.prog 30 #[.agg #[.slice A n c, .slice A1 n1 c1, .int .u16 wit, .slice A2 n2 c2, .slice A3 n3 c3, .slice A4 n4 c4], .agg #[.int .u16 x, .int .u16 y]] w (FaultPost ss x y w) := by
  have HN := Lib.hid hn
  have HX := Lib.hid hx
  have HY := Lib.hid hy
  clear hn hx hy
  go_enter Tryd.func30, Tryd.ntmps30
  go_wp2_with fail
  have hbW : Below w.heap.size w ((w.alloc (.cells #[.slice A n c, .slice A1 n1 c1, .int .u16 wit, .slice A2 n2 c2, .slice A3 n3 c3, .slice A4 n4 c4] 33)).alloc (.cells #[.int .u16 x, .int .u16 y] 57)) := ((Below.refl _ _).alloc (Nat.le_refl _) _).alloc (by simp) _
  refine (set_any _ _ _ _ _ _ _ _ _ _ _ _ _ _ _ _ ss x _ HX.out (ht.below hbW (Nat.le_refl _)) HN.out ((hsee.below hbW (Nat.le_refl _)).mono hbW.size) hlim (by omega)).mono ?_
  rintro e w1 ⟨hb1, hyes1, hno1⟩
  have hbw : Below w.heap.size w w1 := hbW.trans (hb1.mono hbW.size)
  obtain ⟨b0, b1, b2, b3, b4, b5⟩ := box6 A A1 A2 A3 A4 n c n1 c1 n2 c2 n3 c3 n4 c4 wit (w := w) (wr := w1) (B := w.heap.size + 1) (((Below.refl _ _).alloc (by simp) _).trans (hb1.mono (by simp))) (by omega)
  have f0 : w1.cell? ⟨w.heap.size + 1, 0, none⟩ = some (.int .u16 x) := by rw [hb1.cell (by simp)]; simp
  have f1 : w1.cell? ⟨w.heap.size + 1, 1, none⟩ = some (.int .u16 y) := by rw [hb1.cell (by simp)]; simp
  have hs1 : w.heap.size + 2 ≤ w1.heap.size := by have := hb1.size; simp at this; omega
  clear hb1
  by_cases hfx : fits ss x
  · rw [hyes1 hfx]
    have HFX := Lib.hid hfx
    clear hyes1 hno1 hfx
    obtain ⟨T, hT⟩ : ∃ T, T = bs (setText ss x) := ⟨_, rfl⟩
    have hTs : T.size ≤ 200000000 := by have := setText_length ss x; rw [hT, bs_size]; omega
    rw [← hT]
    have HT := Lib.hid hT
    clear hT
    go_wp2_with fail
    refine (set_any _ _ _ _ _ _ _ _ _ _ _ _ _ _ _ _ ss y _ HY.out (ht.below hbw (Nat.le_refl _)) HN.out ((hsee.below hbw (Nat.le_refl _)).mono hbw.size) hlim (by omega)).mono ?_
    rintro e w2 ⟨hb2, hyes2, hno2⟩
    have hbw2 : Below w.heap.size w w2 := hbw.trans (hb2.mono hbw.size)
    have f0' : w2.cell? ⟨w.heap.size + 1, 0, none⟩ = some (.int .u16 x) := by rw [hb2.cell (by simp only; omega)]; exact f0
    have f1' : w2.cell? ⟨w.heap.size + 1, 1, none⟩ = some (.int .u16 y) := by rw [hb2.cell (by simp only; omega)]; exact f1
    clear hb2 f0 f1 b0 b1 b2 b3 b4 b5
    by_cases hfy : fits ss y
    · rw [hyes2 hfy]
      have HFY := Lib.hid hfy
      clear hyes2 hno2 hfy
      obtain ⟨U, hU⟩ : ∃ U, U = bs (setText ss y) := ⟨_, rfl⟩
      have hUs : U.size ≤ 200000000 := by have := setText_length ss y; rw [hU, bs_size]; omega
      rw [← hU]
      have HU := Lib.hid hU
      clear hU
      by_cases hx0 : x = 0
      · have HX0 := Lib.hid hx0
        have ex : ((x : Int) == 0) = true := by rw [beq_iff_eq]; omega
        by_cases hy0 : y = 0
        · have HY0 := Lib.hid hy0
          have ey : ((y : Int) == 0) = true := by rw [beq_iff_eq]; omega
          clear hx0 hy0
          go_wp2
          go_ret2
          refine ⟨hbw2, fun _ => ?_, fun h => absurd ⟨HFX.out, HFY.out⟩ h⟩
          unfold faultOf
          rw [if_pos ⟨HX0.out, HY0.out⟩]; rfl
        · have HY0 := Lib.hid hy0
          have ey : ((y : Int) == 0) = false := by rw [beq_eq_false_iff_ne]; omega
          clear hx0 hy0
          go_wp2
          go_ret2
          refine ⟨hbw2, fun _ => ?_, fun h => absurd ⟨HFX.out, HFY.out⟩ h⟩
          unfold faultOf
          rw [if_neg (fun h => HY0.out h.2), if_neg HY0.out, if_pos HX0.out, ← bs_append, ← HU.out]; rfl
      · have HX0 := Lib.hid hx0
        have ex : ((x : Int) == 0) = false := by rw [beq_eq_false_iff_ne]; omega
        by_cases hy0 : y = 0
        · have HY0 := Lib.hid hy0
          have ey : ((y : Int) == 0) = true := by rw [beq_iff_eq]; omega
          clear hx0 hy0
          go_wp2
          go_ret2
          refine ⟨hbw2, fun _ => ?_, fun h => absurd ⟨HFX.out, HFY.out⟩ h⟩
          unfold faultOf
          rw [if_neg (fun h => HX0.out h.1), if_pos HY0.out, ← bs_append, ← HT.out]; rfl
        · have HY0 := Lib.hid hy0
          have ey : ((y : Int) == 0) = false := by rw [beq_eq_false_iff_ne]; omega
          clear hx0 hy0
          go_wp2
          go_ret2
          refine ⟨hbw2, fun _ => ?_, fun h => absurd ⟨HFX.out, HFY.out⟩ h⟩
          unfold faultOf
          rw [if_neg (fun h => HX0.out h.1), if_neg HY0.out, if_neg HX0.out, ← bs_append, ← bs_append, ← bs_append, ← HT.out, ← HU.out]; rfl
    · rw [hno2 hfy]
      have HFY := Lib.hid hfy
      clear hyes2 hno2 hfy
      go_wp2
      go_ret2
      exact ⟨hbw2, fun h => absurd h.2 HFY.out, fun _ => rfl⟩
  · rw [hno1 hfx]
    have HFX := Lib.hid hfx
    clear hyes1 hno1 hfx
    go_wp2
    go_ret2
    exact ⟨hbw, fun h => absurd h.1 HFX.out, fun _ => rfl⟩

/-- Faults as the values in memory. -/
def faultVals (l : List (Nat × Nat)) : List Value := l.flatMap fun p => [.int .u16 (p.1 : Nat), .int .u16 (p.2 : Nat)]
theorem faultVals_get (l : List (Nat × Nat)) : ∀ i, i < l.length → (faultVals l)[i * 2]? = some (.int .u16 ((l.getD i (0, 0)).1 : Nat)) ∧ (faultVals l)[i * 2 + 1]? = some (.int .u16 ((l.getD i (0, 0)).2 : Nat)) := by
  induction l with
  | nil => intro i h; simp at h
  | cons x r ih =>
    intro i h
    cases i with
    | zero => simp [faultVals]
    | succ i =>
      have := ih i (by simpa using h)
      have e : faultVals (x :: r) = .int .u16 (x.1 : Nat) :: .int .u16 (x.2 : Nat) :: faultVals r := by simp [faultVals]
      rw [e, show (i + 1) * 2 = i * 2 + 1 + 1 by omega, show i * 2 + 1 + 1 + 1 = (i * 2 + 1) + 1 + 1 by omega]
      simpa using this
theorem take_snoc_pair (l : List (Nat × Nat)) (k : Nat) (h : k < l.length) : l.take (k + 1) = l.take k ++ [l.getD k (0, 0)] := by
  rw [List.take_succ_eq_append_getElem h]; simp [h]
/-- The texts of some faults. -/
def faultTexts (ss : List ByteArray) (fs : List (Nat × Nat)) : List ByteArray := fs.map fun p => bs (faultOf ss p.1 p.2)
theorem faultTexts_snoc (ss : List ByteArray) (fs : List (Nat × Nat)) (p : Nat × Nat) : faultTexts ss (fs ++ [p]) = faultTexts ss fs ++ [bs (faultOf ss p.1 p.2)] := by simp [faultTexts]
theorem faultTexts_length (ss : List ByteArray) (fs : List (Nat × Nat)) : (faultTexts ss fs).length = fs.length := by simp [faultTexts]
theorem faultTexts_tot (ss : List ByteArray) (fs : List (Nat × Nat)) : tot (faultTexts ss fs) ≤ fs.length * (32 * tot ss + 100) := by
  induction fs with
  | nil => simp [faultTexts, tot]
  | cons s r ih =>
    have h := faultOf_length ss s.1 s.2
    have e : tot (faultTexts ss (s :: r)) = (faultOf ss s.1 s.2).length + tot (faultTexts ss r) := by simp [faultTexts, tot, bs_size]
    rw [e, List.length_cons, Nat.add_mul, Nat.one_mul]; omega
/-- The text of a list of faults. -/
def faultsText (ss : List ByteArray) (fs : List (Nat × Nat)) : List UInt8 := joined (faultTexts ss fs) [32, 124, 32]
def faultFits (ss : List ByteArray) (p : Nat × Nat) : Prop := fits ss p.1 ∧ fits ss p.2
def faultsFit (ss : List ByteArray) (fs : List (Nat × Nat)) : Prop := ∀ j, j < fs.length → faultFits ss (fs.getD j (0, 0))
/-- What Faults returns. -/
def FaultsPost (ss : List ByteArray) (fs : List (Nat × Nat)) (w : World) (e : Ending) (w' : World) : Prop :=
  Below w.heap.size w w' ∧ (faultsFit ss fs → e = .returned (.tuple #[.string (bs (faultsText ss fs)), .int .i64 0])) ∧ (¬ faultsFit ss fs → e = .returned (.tuple #[.string (bs []), .int .i64 7]))

set_option maxHeartbeats 2000000 in
theorem faults_any (A A1 A2 A3 A4 : Option Addr) (n c n1 c1 n2 c2 n3 c3 n4 c4 : Nat) (wit : Int) (Af : Option Addr) (nf cf : Nat) (ss : List ByteArray) (fs : List (Nat × Nat)) (w : World) (hfs : ∀ j, j < fs.length → (fs.getD j (0, 0)).1 < 65536 ∧ (fs.getD j (0, 0)).2 < 65536) (ht : Tz w)
    (hn : n = ss.length) (hsee : Sees w w.heap.size 1 A n (strVals ss)) (hlim : n ≤ 1000000000000) (htot : tot ss ≤ 1000000)
    (hnf : nf = fs.length) (hseef : Sees w w.heap.size 2 Af nf (faultVals fs)) (hlimf : nf ≤ 5000) :
    Calls Tryd.prog 15 #[.agg #[.slice A n c, .slice A1 n1 c1, .int .u16 wit, .slice A2 n2 c2, .slice A3 n3 c3, .slice A4 n4 c4], .slice Af nf cf] w (FaultsPost ss fs w) := by
  have HN := Lib.hid hn
  have HS := Lib.hid hfs
  have HF := Lib.hid hnf
  clear hn hfs hnf
  go_enter Tryd.func15, Tryd.ntmps15
  go_wp2
  obtain ⟨W, hW⟩ : ∃ W, W = w.alloc (.cells #[.slice A n c, .slice A1 n1 c1, .int .u16 wit, .slice A2 n2 c2, .slice A3 n3 c3, .slice A4 n4 c4] 33) := ⟨_, rfl⟩
  have hWs : W.heap.size = w.heap.size + 1 := by rw [hW]; simp
  have hbW : Below w.heap.size w W := by rw [hW]; exact (Below.refl _ _).alloc (Nat.le_refl _) _
  rw [← hW]
  have HW := Lib.hid hW
  have HWs := Lib.hid hWs
  clear hW hWs
  go_loopw [6, 13] (fun v x wr => ∃ k : Nat, k ≤ nf ∧ x = .int .i64 k ∧ wr.ownsRow W.heap.size 9 1 v (fs.take k).length (strVals (faultTexts ss (fs.take k))) ∧ Below W.heap.size W wr ∧ ∀ j, j < k → faultFits ss (fs.getD j (0, 0))) (fun _ x _ => nf - (intOf x).toNat)
  case atStart => exact ⟨0, Nat.zero_le _, rfl, World.ownsRow_nil _ _ _ _, Below.refl _ _, fun j hj => absurd hj (by omega)⟩
  case round =>
    obtain ⟨k, hk, rfl, hown, hb, hall⟩ := hrel
    have HA := Lib.hid hall
    clear hall
    have hsz := hb.size
    obtain ⟨b0, b1, b2, b3, b4, b5⟩ := box6 A A1 A2 A3 A4 n c n1 c1 n2 c2 n3 c3 n4 c4 wit (w := w) (by rw [← HW.out]; exact hb) (by rw [HWs.out]; omega)
    have hbw : Below w.heap.size w wr := hbW.trans (hb.mono hbW.size)
    have hw0 : w.heap.size < wr.heap.size := by have := HWs.out; omega
    by_cases hlt : k < nf
    · obtain ⟨g, o, rfl, hg, hcell⟩ := (hseef.below hbw (Nat.le_refl _)).cells (by omega)
      have hkf : k < fs.length := by rw [← HF.out]; exact hlt
      have hck := hcell _ _ (faultVals_get fs k hkf).1
      have hck2 := hcell _ _ (faultVals_get fs k hkf).2
      have h16 := HS.out k hkf
      have hsn := take_snoc_pair fs k hkf
      clear hcell
      obtain ⟨p, hp⟩ : ∃ p, p = fs.getD k (0, 0) := ⟨_, rfl⟩
      rw [← hp] at hck hck2 h16 hsn
      have HM := Lib.hid hp
      have HSN := Lib.hid hsn
      have H16 := Lib.hid h16
      clear hp hsn h16
      obtain ⟨x, y⟩ := p
      simp only at hck hck2
      rw [← Nat.add_assoc] at hck2
      go_wp2_with fail
      have hbX : Below w.heap.size w (wr.alloc (.cells #[.int .u16 x, .int .u16 y] 57)) := hbw.alloc hbw.size _
      have hbR : Below wr.heap.size wr (wr.alloc (.cells #[.int .u16 x, .int .u16 y] 57)) := (Below.refl _ _).alloc (Nat.le_refl _) _
      refine (faultText_any _ _ _ _ _ _ _ _ _ _ _ _ _ _ _ _ ss x y _ H16.out.1 H16.out.2 (ht.below hbX (Nat.le_refl _)) HN.out ((hsee.below hbX (Nat.le_refl _)).mono hbX.size) hlim (by omega)).mono ?_
      rintro e w2 ⟨hb2, hyes, hno⟩
      have hb2 : Below wr.heap.size wr w2 := hbR.trans (hb2.mono (by simp))
      by_cases hf : faultFits ss (x, y)
      · rw [hyes hf]
        have HFT := Lib.hid hf
        have hown2 := own_below hown hb2 (Nat.le_refl _)
        have hlk : (fs.take k).length ≤ k := List.length_take_le _ _
        have hsz2 := hb2.size
        clear hyes hno hf
        go_wp2_with (at_builtin; refine push_str w2 rfl (.tmp 26) (.tmp 28) rfl W.heap.size _ _ _ hown2 rfl (bs (faultOf ss x y)) rfl (by omega) (by omega) ?_; intro v' w3 hown3 hb3)
        go_roundw
        case rel =>
          refine ⟨k + 1, by omega, by go_num, ?_, (hb.trans (hb2.mono (by omega))).trans (hb3 _ (Nat.le_refl _)), ?_⟩
          · rw [HSN.out, faultTexts_snoc, strVals_snoc, List.length_append]; exact hown3
          · intro j hj
            by_cases e : j = k
            · subst e; rw [← HM.out]; exact HFT.out
            · exact HA.out j (by omega)
        case measure => simp [intOf]; omega
      · rw [hno hf]
        have HFT := Lib.hid hf
        clear hyes hno hf
        go_wp2
        go_ret2
        refine ⟨hbw.trans (hb2.mono hbw.size), fun h => ?_, fun _ => rfl⟩
        exact absurd (h k (by rw [← HF.out]; exact hlt)) (by rw [← HM.out]; exact HFT.out)
    · obtain rfl : k = nf := by omega
      rw [List.take_of_length_le (by rw [← HF.out]; exact Nat.le_refl _), ← HF.out] at hown
      have hfin : faultsFit ss fs := fun j hj => HA.out j (by rw [HF.out]; exact hj)
      have HFIN := Lib.hid hfin
      clear hfin
      obtain ⟨Am, cm, rfl, hcm⟩ := own_slice hown
      have hsee1 := Sees.own hown
      clear hown
      go_wp2_with fail
      have htt := faultTexts_tot ss fs
      have hmul : fs.length * (32 * tot ss + 100) ≤ 5000 * (32 * tot ss + 100) := Nat.mul_le_mul_right _ (by rw [← HF.out]; exact hlimf)
      refine (join_any Am k cm (faultTexts ss fs) [32, 124, 32] _ rfl wr (by rw [faultTexts_length]; exact HF.out) hcm hsee1 (by omega) (by decide) (by omega)).mono ?_
      rintro e w2 ⟨rfl, hb2⟩
      go_wp2
      go_ret2
      exact ⟨hbw.trans (hb2.mono hbw.size), fun _ => rfl, fun h => absurd HFIN.out h⟩

/-- The text and the error that Set returns. -/
def fitsB (ss : List ByteArray) (s : Nat) : Bool := (mem s).all fun i => decide (i < ss.length)
theorem fitsB_iff (ss : List ByteArray) (s : Nat) : fitsB ss s = true ↔ fits ss s := by simp [fitsB, fits]
def setStr (ss : List ByteArray) (s : Nat) : ByteArray := if fitsB ss s then bs (setText ss s) else bs []
def setErr (ss : List ByteArray) (s : Nat) : Int := if fitsB ss s then 0 else 7
theorem setErr_yes {ss : List ByteArray} {s : Nat} (h : fits ss s) : setErr ss s = 0 := by unfold setErr; rw [if_pos ((fitsB_iff ss s).2 h)]
theorem setErr_no {ss : List ByteArray} {s : Nat} (h : ¬ fits ss s) : setErr ss s = 7 := by unfold setErr; rw [if_neg (fun e => h ((fitsB_iff ss s).1 e))]
theorem setStr_yes {ss : List ByteArray} {s : Nat} (h : fits ss s) : setStr ss s = bs (setText ss s) := by unfold setStr; rw [if_pos ((fitsB_iff ss s).2 h)]
theorem setStr_no {ss : List ByteArray} {s : Nat} (h : ¬ fits ss s) : setStr ss s = bs [] := by unfold setStr; rw [if_neg (fun e => h ((fitsB_iff ss s).1 e))]
theorem setStr_size (ss : List ByteArray) (s : Nat) : (setStr ss s).size ≤ 16 * tot ss + 34 := by
  have := setText_length ss s
  unfold setStr
  split
  · rw [bs_size]; exact this
  · rw [bs_size]; simp
theorem set_val (A A1 A2 A3 A4 : Option Addr) (n c n1 c1 n2 c2 n3 c3 n4 c4 : Nat) (wit : Int) (ss : List ByteArray) (s : Nat) (w : World) (hs : s < 65536) (ht : Tz w)
    (hn : n = ss.length) (hsee : Sees w w.heap.size 1 A n (strVals ss)) (hlim : n ≤ 1000000000000) (htot : tot ss ≤ 10000000000) :
    Calls Tryd.prog 11 #[.agg #[.slice A n c, .slice A1 n1 c1, .int .u16 wit, .slice A2 n2 c2, .slice A3 n3 c3, .slice A4 n4 c4], .int .u16 s] w fun e w' => e = .returned (.tuple #[.string (setStr ss s), .int .i64 (setErr ss s)]) ∧ Below w.heap.size w w' :=
  (set_any _ _ _ _ _ _ _ _ _ _ _ _ _ _ _ _ ss s w hs ht hn hsee hlim htot).mono fun e _ h => by
    refine ⟨?_, h.1⟩
    by_cases hf : fits ss s
    · rw [setStr_yes hf, setErr_yes hf]; exact h.2.1 hf
    · rw [setStr_no hf, setErr_no hf]; exact h.2.2 hf
theorem ref_set_val (A A1 A2 A3 A4 : Option Addr) (n c n1 c1 n2 c2 n3 c3 n4 c4 : Nat) (wit : Int) (ss : List ByteArray) (s : Nat) (w : World) (hs : s < 65536)
    (hn : n = ss.length) (hsee : Sees w w.heap.size 1 A n (strVals ss)) (hlim : n ≤ 1000000000000) (htot : tot ss ≤ 10000000000) :
    Calls Tryd.prog 12 #[.agg #[.slice A n c, .slice A1 n1 c1, .int .u16 wit, .slice A2 n2 c2, .slice A3 n3 c3, .slice A4 n4 c4], .int .u16 s] w fun e w' => e = .returned (.tuple #[.string (setStr ss s), .int .i64 (setErr ss s)]) ∧ Below w.heap.size w w' :=
  (ref_set_any _ _ _ _ _ _ _ _ _ _ _ _ _ _ _ _ ss s w hs hn hsee hlim htot).mono fun e _ h => by
    refine ⟨?_, h.1⟩
    by_cases hf : fits ss s
    · rw [setStr_yes hf, setErr_yes hf]; exact h.2.1 hf
    · rw [setStr_no hf, setErr_no hf]; exact h.2.2 hf

end Go.Proofs.YtdclhgngjbneiaaDoor
