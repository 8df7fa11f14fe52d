/- The contracts of both functions Family: the text of a list of sets, or the error ErrRange. -/
import Derived.Test.YtdclhgngjbneiaaDoorSet
namespace Go.Proofs.YtdclhgngjbneiaaDoor
open Go.RowKit

theorem box6 (A A1 A2 A3 A4 : Option Addr) (n c n1 c1 n2 c2 n3 c3 n4 c4 : Nat) (wit : Int) {w wr : World} {B : Nat} (hb : Below B (w.alloc (.cells #[.slice A n c, .slice A1 n1 c1, .int .u16 wit, .slice A2 n2 c2, .slice A3 n3 c3, .slice A4 n4 c4] 33)) wr) (hB : w.heap.size < B) : wr.cell? ⟨w.heap.size, 0, none⟩ = some (.slice A n c) ∧ wr.cell? ⟨w.heap.size, 1, none⟩ = some (.slice A1 n1 c1) ∧ wr.cell? ⟨w.heap.size, 2, none⟩ = some (.int .u16 wit) ∧ wr.cell? ⟨w.heap.size, 3, none⟩ = some (.slice A2 n2 c2) ∧ wr.cell? ⟨w.heap.size, 4, none⟩ = some (.slice A3 n3 c3) ∧ wr.cell? ⟨w.heap.size, 5, none⟩ = some (.slice A4 n4 c4) :=
  ⟨(hb.cell (p := ⟨w.heap.size, 0, none⟩) hB).trans (by simp), (hb.cell (p := ⟨w.heap.size, 1, none⟩) hB).trans (by simp), (hb.cell (p := ⟨w.heap.size, 2, none⟩) hB).trans (by simp),
   (hb.cell (p := ⟨w.heap.size, 3, none⟩) hB).trans (by simp), (hb.cell (p := ⟨w.heap.size, 4, none⟩) hB).trans (by simp), (hb.cell (p := ⟨w.heap.size, 5, none⟩) hB).trans (by simp)⟩

/-- Sets as the values in memory. -/
def setVals (l : List Nat) : List Value := l.map fun s => Value.int .u16 (s : Nat)
theorem setVals_get (l : List Nat) (i : Nat) (h : i < l.length) : (setVals l)[i]? = some (.int .u16 (l.getD i 0 : Nat)) := by simp [setVals, h]
/-- The texts of some sets. -/
def setTexts (ss : List ByteArray) (fs : List Nat) : List ByteArray := fs.map fun s => bs (setText ss s)
theorem setTexts_snoc (ss : List ByteArray) (fs : List Nat) (s : Nat) : setTexts ss (fs ++ [s]) = setTexts ss fs ++ [bs (setText ss s)] := by simp [setTexts]
theorem setTexts_length (ss : List ByteArray) (fs : List Nat) : (setTexts ss fs).length = fs.length := by simp [setTexts]
theorem setTexts_tot (ss : List ByteArray) (fs : List Nat) : tot (setTexts ss fs) ≤ fs.length * (16 * tot ss + 34) := by
  induction fs with
  | nil => simp [setTexts, tot]
  | cons s r ih =>
    have h := setText_length ss s
    have e : tot (setTexts ss (s :: r)) = (setText ss s).length + tot (setTexts ss r) := by simp [setTexts, tot, bs_size]
    rw [e, List.length_cons, Nat.add_mul, Nat.one_mul]; omega
/-- The text of a list of sets. -/
def famText (ss : List ByteArray) (fs : List Nat) : List UInt8 := if fs.length = 0 then [110, 111, 110, 101] else joined (setTexts ss fs) [32, 124, 32]
def famFits (ss : List ByteArray) (fs : List Nat) : Prop := ∀ j, j < fs.length → fits ss (fs.getD j 0)
/-- What Family returns. -/
def FamPost (ss : List ByteArray) (fs : List Nat) (w : World) (e : Ending) (w' : World) : Prop :=
  Below w.heap.size w w' ∧ (famFits ss fs → e = .returned (.tuple #[.string (bs (famText ss fs)), .int .i64 0])) ∧ (¬ famFits ss fs → e = .returned (.tuple #[.string (bs []), .int .i64 7]))

set_option maxHeartbeats 2000000 in
theorem family_any (A A1 A2 A3 A4 : Option Addr) (n c n1 c1 n2 c2 n3 c3 n4 c4 : Nat) (wit : Int) (Af : Option Addr) (nf cf : Nat) (ss : List ByteArray) (fs : List Nat) (w : World) (hfs : ∀ j, j < fs.length → fs.getD j 0 < 65536) (ht : Tz w)
    (hn : n = ss.length) (hsee : Sees w w.heap.size 1 A n (strVals ss)) (hlim : n ≤ 1000000000000) (htot : tot ss ≤ 10000000)
    (hnf : nf = fs.length) (hseef : Sees w w.heap.size 1 Af nf (setVals fs)) (hlimf : nf ≤ 5000) :
    Calls Tryd.prog 13 #[.agg #[.slice A n c, .slice A1 n1 c1, .int .u16 wit, .slice A2 n2 c2, .slice A3 n3 c3, .slice A4 n4 c4], .slice Af nf cf] w (FamPost ss fs w) := by
  have HN := Lib.hid hn
  have HS := Lib.hid hfs
  have HF := Lib.hid hnf
  clear hn hfs hnf
  go_enter Tryd.func13, Tryd.ntmps13
  go_wp2
  obtain ⟨W, hW⟩ : ∃ W, W = w.alloc (.cells #[.slice A n c, .slice A1 n1 c1, .int .u16 wit, .slice A2 n2 c2, .slice A3 n3 c3, .slice A4 n4 c4] 33) := ⟨_, rfl⟩
  have hWs : W.heap.size = w.heap.size + 1 := by rw [hW]; simp
  have hbW : Below w.heap.size w W := by rw [hW]; exact (Below.refl _ _).alloc (Nat.le_refl _) _
  rw [← hW]
  have HW := Lib.hid hW
  have HWs := Lib.hid hWs
  clear hW hWs
  go_loopw [6, 13] (fun v x wr => ∃ k : Nat, k ≤ nf ∧ x = .int .i64 k ∧ wr.ownsRow W.heap.size 9 1 v (fs.take k).length (strVals (setTexts ss (fs.take k))) ∧ Below W.heap.size W wr ∧ ∀ j, j < k → fits ss (fs.getD j 0)) (fun _ x _ => nf - (intOf x).toNat)
  case atStart => exact ⟨0, Nat.zero_le _, rfl, World.ownsRow_nil _ _ _ _, Below.refl _ _, fun j hj => absurd hj (by omega)⟩
  case round =>
    obtain ⟨k, hk, rfl, hown, hb, hall⟩ := hrel
    have HA := Lib.hid hall
    clear hall
    have hsz := hb.size
    obtain ⟨b0, b1, b2, b3, b4, b5⟩ := box6 A A1 A2 A3 A4 n c n1 c1 n2 c2 n3 c3 n4 c4 wit (w := w) (by rw [← HW.out]; exact hb) (by rw [HWs.out]; omega)
    have hbw : Below w.heap.size w wr := hbW.trans (hb.mono hbW.size)
    by_cases hlt : k < nf
    · obtain ⟨g, o, rfl, hg, hcell⟩ := (hseef.below hbw (Nat.le_refl _)).cells (by omega)
      have hkf : k < fs.length := by rw [← HF.out]; exact hlt
      have hck := hcell k _ (setVals_get fs k hkf)
      have h16 := HS.out k hkf
      have hsn := take_snoc_getD fs k hkf
      clear hcell
      obtain ⟨m, hm⟩ : ∃ m, m = fs.getD k 0 := ⟨_, rfl⟩
      rw [← hm] at hck h16 hsn
      have HM := Lib.hid hm
      have HSN := Lib.hid hsn
      have H16 := Lib.hid h16
      clear hm hsn h16
      go_wp2_with fail
      refine (set_any _ _ _ _ _ _ _ _ _ _ _ _ _ _ _ _ ss m wr H16.out (ht.below hbw (Nat.le_refl _)) HN.out ((hsee.below hbw (Nat.le_refl _)).mono hbw.size) hlim (by omega)).mono ?_
      rintro e w2 ⟨hb2, hyes, hno⟩
      by_cases hf : fits ss m
      · rw [hyes hf]
        have HFT := Lib.hid hf
        have hown2 := own_below hown hb2 (Nat.le_refl _)
        have hlk : (fs.take k).length ≤ k := List.length_take_le _ _
        have hsz2 := hb2.size
        clear hyes hno hf
        go_wp2_with (at_builtin; refine push_str w2 rfl (.tmp 26) (.tmp 28) rfl W.heap.size _ _ _ hown2 rfl (bs (setText ss m)) rfl (by omega) (by omega) ?_; intro v' w3 hown3 hb3)
        go_roundw
        case rel =>
          refine ⟨k + 1, by omega, by go_num, ?_, (hb.trans (hb2.mono (by omega))).trans (hb3 _ (Nat.le_refl _)), ?_⟩
          · rw [HSN.out, setTexts_snoc, strVals_snoc, List.length_append]; exact hown3
          · intro j hj
            by_cases e : j = k
            · subst e; rw [← HM.out]; exact HFT.out
            · exact HA.out j (by omega)
        case measure => simp [intOf]; omega
      · rw [hno hf]
        have HFT := Lib.hid hf
        clear hyes hno hf
        go_wp2
        go_ret2
        refine ⟨hbw.trans (hb2.mono hbw.size), fun h => ?_, fun _ => rfl⟩
        exact absurd (h k (by rw [← HF.out]; exact hlt)) (by rw [← HM.out]; exact HFT.out)
    · obtain rfl : k = nf := by omega
      rw [List.take_of_length_le (by rw [← HF.out]; exact Nat.le_refl _), ← HF.out] at hown
      have hfin : famFits ss fs := fun j hj => HA.out j (by rw [HF.out]; exact hj)
      have HFIN := Lib.hid hfin
      clear hfin
      obtain ⟨Am, cm, rfl, hcm⟩ := own_slice hown
      by_cases h0 : k = 0
      · subst h0
        go_wp2
        go_ret2
        refine ⟨hbw, fun _ => ?_, fun h => absurd HFIN.out h⟩
        unfold famText
        rw [if_pos HF.out.symm]; rfl
      · have hne : ((k : Int) == 0) = false := by rw [beq_eq_false_iff_ne]; omega
        have hsee1 := Sees.own hown
        clear hown
        go_wp2_with fail
        have htt := setTexts_tot ss fs
        have hmul : fs.length * (16 * tot ss + 34) ≤ 5000 * (16 * tot ss + 34) := Nat.mul_le_mul_right _ (by rw [← HF.out]; exact hlimf)
        refine (join_any Am k cm (setTexts ss fs) [32, 124, 32] _ rfl wr (by rw [setTexts_length]; exact HF.out) hcm hsee1 (by omega) (by decide) (by omega)).mono ?_
        rintro e w2 ⟨rfl, hb2⟩
        go_wp2
        go_ret2
        refine ⟨hbw.trans (hb2.mono hbw.size), fun _ => ?_, fun h => absurd HFIN.out h⟩
        unfold famText
        rw [if_neg (by rw [← HF.out]; exact h0)]; rfl

theorem ref_set_yes (A A1 A2 A3 A4 : Option Addr) (n c n1 c1 n2 c2 n3 c3 n4 c4 : Nat) (wit : Int) (ss : List ByteArray) (s : Nat) (w : World) (hs : s < 65536)
    (hn : n = ss.length) (hsee : Sees w w.heap.size 1 A n (strVals ss)) (hlim : n ≤ 1000000000000) (htot : tot ss ≤ 10000000000) (hf : fits ss s) :
    Calls Tryd.prog 12 #[.agg #[.slice A n c, .slice A1 n1 c1, .int .u16 wit, .slice A2 n2 c2, .slice A3 n3 c3, .slice A4 n4 c4], .int .u16 s] w fun e w' => e = .returned (.tuple #[.string (bs (setText ss s)), .int .i64 0]) ∧ Below w.heap.size w w' :=
  (ref_set_any _ _ _ _ _ _ _ _ _ _ _ _ _ _ _ _ ss s w hs hn hsee hlim htot).mono fun _ _ h => ⟨h.2.1 hf, h.1⟩
theorem ref_set_no (A A1 A2 A3 A4 : Option Addr) (n c n1 c1 n2 c2 n3 c3 n4 c4 : Nat) (wit : Int) (ss : List ByteArray) (s : Nat) (w : World) (hs : s < 65536)
    (hn : n = ss.length) (hsee : Sees w w.heap.size 1 A n (strVals ss)) (hlim : n ≤ 1000000000000) (htot : tot ss ≤ 10000000000) (hf : ¬ fits ss s) :
    Calls Tryd.prog 12 #[.agg #[.slice A n c, .slice A1 n1 c1, .int .u16 wit, .slice A2 n2 c2, .slice A3 n3 c3, .slice A4 n4 c4], .int .u16 s] w fun e w' => e = .returned (.tuple #[.string (bs []), .int .i64 7]) ∧ Below w.heap.size w w' :=
  (ref_set_any _ _ _ _ _ _ _ _ _ _ _ _ _ _ _ _ ss s w hs hn hsee hlim htot).mono fun _ _ h => ⟨h.2.2 hf, h.1⟩

set_option maxHeartbeats 2000000 in
theorem ref_family_any (A A1 A2 A3 A4 : Option Addr) (n c n1 c1 n2 c2 n3 c3 n4 c4 : Nat) (wit : Int) (Af : Option Addr) (nf cf : Nat) (ss : List ByteArray) (fs : List Nat) (w : World) (hfs : ∀ j, j < fs.length → fs.getD j 0 < 65536)
    (hn : n = ss.length) (hsee : Sees w w.heap.size 1 A n (strVals ss)) (hlim : n ≤ 1000000000000) (htot : tot ss ≤ 10000000)
    (hnf : nf = fs.length) (hseef : Sees w w.heap.size 1 Af nf (setVals fs)) (hlimf : nf ≤ 5000) :
    Calls Tryd.prog 14 #[.agg #[.slice A n c, .slice A1 n1 c1, .int .u16 wit, .slice A2 n2 c2, .slice A3 n3 c3, .slice A4 n4 c4], .slice Af nf cf] w (FamPost ss fs w) := by
  have HN := Lib.hid hn
  have HS := Lib.hid hfs
  have HF := Lib.hid hnf
  clear hn hfs hnf
  by_cases h00 : nf = 0
  · subst h00
    go_enter Tryd.func14, Tryd.ntmps14
    go_wp2
    go_ret2
    have h0 := HF.out
    refine ⟨(Below.refl _ _).alloc (Nat.le_refl _) _, fun _ => ?_, fun h => absurd (fun j hj => absurd hj (by omega)) h⟩
    unfold famText
    rw [if_pos h0.symm]; rfl
  have hne : ((nf : Int) == 0) = false := by rw [beq_eq_false_iff_ne]; omega
  go_enter Tryd.func14, Tryd.ntmps14
  go_wp2
  obtain ⟨W, hW⟩ : ∃ W, W = w.alloc (.cells #[.slice A n c, .slice A1 n1 c1, .int .u16 wit, .slice A2 n2 c2, .slice A3 n3 c3, .slice A4 n4 c4] 33) := ⟨_, rfl⟩
  have hWs : W.heap.size = w.heap.size + 1 := by rw [hW]; simp
  have hbW : Below w.heap.size w W := by rw [hW]; exact (Below.refl _ _).alloc (Nat.le_refl _) _
  rw [← hW]
  have HW := Lib.hid hW
  have HWs := Lib.hid hWs
  clear hW hWs
  go_loopw [6, 7] (fun v x wr => ∃ k : Nat, k ≤ nf ∧ x = .int .i64 k ∧ wr.ownsRow W.heap.size 9 1 v (fs.take k).length (strVals (setTexts ss (fs.take k))) ∧ Below W.heap.size W wr ∧ ∀ j, j < k → fits ss (fs.getD j 0)) (fun _ x _ => nf - (intOf x).toNat)
  case atStart => exact ⟨0, Nat.zero_le _, rfl, World.ownsRow_nil _ _ _ _, Below.refl _ _, fun j hj => absurd hj (by omega)⟩
  case round =>
    obtain ⟨k, hk, rfl, hown, hb, hall⟩ := hrel
    have HA := Lib.hid hall
    clear hall
    have hsz := hb.size
    obtain ⟨b0, b1, b2, b3, b4, b5⟩ := box6 A A1 A2 A3 A4 n c n1 c1 n2 c2 n3 c3 n4 c4 wit (w := w) (by rw [← HW.out]; exact hb) (by rw [HWs.out]; omega)
    have hbw : Below w.heap.size w wr := hbW.trans (hb.mono hbW.size)
    by_cases hlt : k < nf
    · obtain ⟨g, o, rfl, hg, hcell⟩ := (hseef.below hbw (Nat.le_refl _)).cells (by omega)
      have hkf : k < fs.length := by rw [← HF.out]; exact hlt
      have hck := hcell k _ (setVals_get fs k hkf)
      have h16 := HS.out k hkf
      have hsn := take_snoc_getD fs k hkf
      clear hcell
      obtain ⟨m, hm⟩ : ∃ m, m = fs.getD k 0 := ⟨_, rfl⟩
      rw [← hm] at hck h16 hsn
      have HM := Lib.hid hm
      have HSN := Lib.hid hsn
      have H16 := Lib.hid h16
      clear hm hsn h16
      have hkI : (k : Int) < (nf : Int) := by omega
      have hw0 : w.heap.size < wr.heap.size := by have := HWs.out; omega
      have hsee2 := (hsee.below hbw (Nat.le_refl _)).mono hbw.size
      by_cases hf : fits ss m
      · have HFT := Lib.hid hf
        have HC := Lib.hid fun (W' : World) (hbb : Below wr.heap.size wr W') => ref_set_yes A A1 A2 A3 A4 n c n1 c1 n2 c2 n3 c3 n4 c4 wit ss m W' H16.out HN.out ((hsee2.below hbb (Nat.le_refl _)).mono hbb.size) hlim (by omega) hf
        clear hf
        go_wp2
        go_region_held3 (fun wr => wr.cell? ⟨w.heap.size, 0, none⟩ = some (.slice A n c) ∧ wr.cell? ⟨w.heap.size, 1, none⟩ = some (.slice A1 n1 c1) ∧ wr.cell? ⟨w.heap.size, 2, none⟩ = some (.int .u16 wit) ∧ wr.cell? ⟨w.heap.size, 3, none⟩ = some (.slice A2 n2 c2) ∧ wr.cell? ⟨w.heap.size, 4, none⟩ = some (.slice A3 n3 c3) ∧ wr.cell? ⟨w.heap.size, 5, none⟩ = some (.slice A4 n4 c4) ∧ wr.cell? ⟨g, o + k, none⟩ = some (.int .u16 m)) (first | go_keep | (refine ⟨?_, ?_, ?_, ?_, ?_, ?_, ?_⟩ <;> (rw [hb2.cell (by simp; omega)]; go_keep)))
          ((go_at_call 12; refine (HC.out _ (below_drewN (Below.refl _ _) _)).mono ?_; rintro e w2 ⟨rfl, hb2⟩))
        have hb2' : Below wr.heap.size wr w2 := (below_drewN (Below.refl _ _) _).trans hb2
        have hown2 := own_below hown hb2' (Nat.le_refl _)
        have hlk : (fs.take k).length ≤ k := List.length_take_le _ _
        have hsz2 := hb2'.size
        clear hb2
        go_wp2_with (at_builtin; refine push_str w2 rfl (.tmp 31) (.tmp 33) rfl W.heap.size _ _ _ hown2 rfl (bs (setText ss m)) rfl (by omega) (by omega) ?_; intro v' w3 hown3 hb3)
        go_roundw
        case rel =>
          refine ⟨k + 1, by omega, by go_num, ?_, (hb.trans (hb2'.mono (by omega))).trans (hb3 _ (Nat.le_refl _)), ?_⟩
          · rw [HSN.out, setTexts_snoc, strVals_snoc, List.length_append]; exact hown3
          · intro j hj
            by_cases e : j = k
            · subst e; rw [← HM.out]; exact HFT.out
            · exact HA.out j (by omega)
        case measure => simp [intOf]; omega
      · have HFT := Lib.hid hf
        have HC := Lib.hid fun (W' : World) (hbb : Below wr.heap.size wr W') => ref_set_no A A1 A2 A3 A4 n c n1 c1 n2 c2 n3 c3 n4 c4 wit ss m W' H16.out HN.out ((hsee2.below hbb (Nat.le_refl _)).mono hbb.size) hlim (by omega) hf
        clear hf
        go_wp2
        go_region_held3 (fun wr => wr.cell? ⟨w.heap.size, 0, none⟩ = some (.slice A n c) ∧ wr.cell? ⟨w.heap.size, 1, none⟩ = some (.slice A1 n1 c1) ∧ wr.cell? ⟨w.heap.size, 2, none⟩ = some (.int .u16 wit) ∧ wr.cell? ⟨w.heap.size, 3, none⟩ = some (.slice A2 n2 c2) ∧ wr.cell? ⟨w.heap.size, 4, none⟩ = some (.slice A3 n3 c3) ∧ wr.cell? ⟨w.heap.size, 5, none⟩ = some (.slice A4 n4 c4) ∧ wr.cell? ⟨g, o + k, none⟩ = some (.int .u16 m)) (first | go_keep | (refine ⟨?_, ?_, ?_, ?_, ?_, ?_, ?_⟩ <;> (rw [hb2.cell (by simp; omega)]; go_keep)))
          ((go_at_call 12; refine (HC.out _ (below_drewN (Below.refl _ _) _)).mono ?_; rintro e w2 ⟨rfl, hb2⟩))
        have hb2' : Below wr.heap.size wr w2 := (below_drewN (Below.refl _ _) _).trans hb2
        clear hb2
        go_wp2
        go_ret2
        refine ⟨hbw.trans (hb2'.mono hbw.size), fun h => ?_, fun _ => rfl⟩
        exact absurd (h k (by rw [← HF.out]; exact hlt)) (by rw [← HM.out]; exact HFT.out)
    · obtain rfl : k = nf := by omega
      rw [List.take_of_length_le (by rw [← HF.out]; exact Nat.le_refl _), ← HF.out] at hown
      have hfin : famFits ss fs := fun j hj => HA.out j (by rw [HF.out]; exact hj)
      have HFIN := Lib.hid hfin
      clear hfin
      obtain ⟨Am, cm, rfl, hcm⟩ := own_slice hown
      have hsee1 := Sees.own hown
      clear hown
      go_wp2_with fail
      have htt := setTexts_tot ss fs
      have hmul : fs.length * (16 * tot ss + 34) ≤ 5000 * (16 * tot ss + 34) := Nat.mul_le_mul_right _ (by rw [← HF.out]; exact hlimf)
      refine (ref_joined_any Am k cm (setTexts ss fs) [32, 124, 32] _ rfl wr (by rw [setTexts_length]; exact HF.out) hsee1 (by omega) (by decide) (by omega)).mono ?_
      rintro e w2 ⟨rfl, rfl⟩
      go_wp2
      go_ret2
      refine ⟨hbw, fun _ => ?_, fun h => absurd HFIN.out h⟩
      unfold famText
      rw [if_neg (by rw [← HF.out]; exact h00)]; rfl
end Go.Proofs.YtdclhgngjbneiaaDoor
