/- The contracts of the program's tests of names, faults and zero terms. -/
import Derived.Test.YtbmglebipepdmaaGreatDoorPkVala
namespace Go.Proofs.YtbmglebipepdmaaGreatDoor
open Go.RowKit

theorem bD {s : ByteArray} (h : s.size = 0) : s = ⟨#[]⟩ := by
 have : s.data.toList = [] := List.length_eq_zero_iff.1 (by simpa using h)
 rw [← dR s, this]; rfl
set_option maxHeartbeats 1000000 in
theorem name_test (w : World) (l : List ByteArray) : Tests (fun _ x v => v = .string x) w 148 l (fun n => !aP n) := by
 rintro x - v W rfl -
 have HS := Lib.hid (cK x W)
 go_enter Tryz.func148, Tryz.ntmps148
 go_wp2_with fail
 refine HS.out.mono ?_
 rintro e w' ⟨rfl, rfl⟩
 go_wp2
 go_ret
 exact ⟨rfl, Below.refl _ _⟩
set_option maxHeartbeats 1000000 in
theorem oM (l : List ByteArray) (S : Nat → Prop) (A : Option Addr) (c : Nat) (w : World) (hl : aV w S 1 A l.length (l.map Value.string)) (hS : ∀ g, S g → g < w.heap.size) (hlim : l.length ≤ 1000000000000) :
  Calls Tryz.prog 127 #[.slice A l.length c] w fun e w' => e = .returned (.bool (aY l)) ∧ Below w.heap.size w w' := by
 have HC := Lib.hid (F8 l S A c w hl hS hlim 148 (enters_of Tryz.func148 (by kernel_rfl) rfl) _ (name_test w l))
 have E := Lib.hid (show aY l = !l.any (fun n => !aP n) by unfold aY; rw [List.not_any_eq_all_not]; simp)
 clear hl
 go_enter Tryz.func127, Tryz.ntmps127
 go_wp2_with fail
 refine HC.out.mono ?_
 rintro e w' ⟨rfl, hb⟩
 go_wp2
 go_ret
 exact ⟨congrArg (fun b => Ending.returned (.bool b)) E.out.symm, hb⟩

set_option maxHeartbeats 1000000 in
theorem Lm (k : Int) (w : World) : Calls Tryz.prog 126 #[.int .i64 k] w fun e w' => e = .returned (.int .i64 (bP k)) ∧ w = w' := by
 by_cases h1 : k = 1
 ·subst h1
  go_enter Tryz.func126, Tryz.ntmps126
  go_wp2
  go_ret
  exact ⟨rfl, rfl⟩
 have q1 : (k == 1) = false := by rw [beq_eq_false_iff_ne]; exact h1
 by_cases h2 : k = 2
 ·subst h2
  go_enter Tryz.func126, Tryz.ntmps126
  go_wp2
  go_ret
  exact ⟨rfl, rfl⟩
 have q2 : (k == 2) = false := by rw [beq_eq_false_iff_ne]; exact h2
 by_cases h3 : k = 3
 ·subst h3
  go_enter Tryz.func126, Tryz.ntmps126
  go_wp2
  go_ret
  exact ⟨rfl, rfl⟩
 have q3 : (k == 3) = false := by rw [beq_eq_false_iff_ne]; exact h3
 by_cases h4 : k = 4
 ·subst h4
  go_enter Tryz.func126, Tryz.ntmps126
  go_wp2
  go_ret
  exact ⟨rfl, rfl⟩
 have q4 : (k == 4) = false := by rw [beq_eq_false_iff_ne]; exact h4
 by_cases h5 : k = 5
 ·subst h5
  go_enter Tryz.func126, Tryz.ntmps126
  go_wp2
  go_ret
  exact ⟨rfl, rfl⟩
 have q5 : (k == 5) = false := by rw [beq_eq_false_iff_ne]; exact h5
 by_cases h7 : k = 7
 ·subst h7
  go_enter Tryz.func126, Tryz.ntmps126
  go_wp2
  go_ret
  exact ⟨rfl, rfl⟩
 have q7 : (k == 7) = false := by rw [beq_eq_false_iff_ne]; exact h7
 by_cases h6 : k = 6
 ·subst h6
  go_enter Tryz.func126, Tryz.ntmps126
  go_wp2
  go_ret
  exact ⟨rfl, rfl⟩
 have q6 : (k == 6) = false := by rw [beq_eq_false_iff_ne]; exact h6
 have E := Lib.hid (show bP k = 0 by simp [bP, h1, h2, h3, h4, h5, h6, h7])
 go_enter Tryz.func126, Tryz.ntmps126
 go_wp2
 go_ret
 exact ⟨by rw [E.out]; rfl, rfl⟩

set_option maxHeartbeats 1000000 in
theorem Ch (t : Tm) (v : Value) (w : World) (S : Nat → Prop) (ht : gm w S t v) (hsz : au t ≤ 1000000000000) :
  Calls Tryz.prog 130 #[v] w fun e w' => e = .returned (.bool (blank t)) ∧ Below w.heap.size w w' := by
 have hkl := lM t
 cases ht with
 | mk op nm need ws kids wA kA cw kc vs hw hwc hk hkc hl h =>
  have hkl : kids.length + ws.length < au (.mk op nm need ws kids) := hkl
  have hbA : ∀ o, Below w.heap.size w (w.alloc o) := fun o => (Below.refl _ _).alloc (Nat.le_refl _) o
  have HB := Lib.hid (fun W => vX op need nm wA kA ws.length cw kids.length kc W (by omega) (by omega))
  have e : blank (.mk op nm need ws kids) = (decide (op = 0) && decide (nm.size = 0) && (decide (need = 0) && decide (ws.length + kids.length = 0))) := rfl
  have E := Lib.hid e
  clear e
  generalize (decide (need = 0) && decide (ws.length + kids.length = 0)) = bq at HB E
  clear hw hk hl h
  by_cases h0 : op = 0
  ·subst h0
   by_cases hz : nm.size = 0
   ·obtain rfl := bD hz
    go_enter Tryz.func130, Tryz.ntmps130
    go_wp2_with fail
    refine (HB.out _).mono ?_
    rintro e w' ⟨rfl, hb2⟩
    go_wp2
    go_ret
    exact ⟨congrArg (fun b => Ending.returned (.bool b)) (by rw [E.out]; rfl), (hbA _).trans (hb2.mono (by simp))⟩
   ·have hp : 0 < nm.size := by omega
    have hne2 := bg hp
    have hne := av hp
    go_enter Tryz.func130, Tryz.ntmps130
    go_wp2
    go_ret
    exact ⟨congrArg (fun b => Ending.returned (.bool b)) (by rw [E.out]; simp [hz]), hbA _⟩
  ·have q0 : (op == 0) = false := by rw [beq_eq_false_iff_ne]; exact h0
   have E2 := Lib.hid (show (decide (op = 0) && decide (nm.size = 0) && bq) = false by simp [h0])
   clear h0
   go_enter Tryz.func130, Tryz.ntmps130
   go_wp2
   go_ret
   exact ⟨congrArg (fun b => Ending.returned (.bool b)) (by rw [E.out, E2.out]), hbA _⟩

set_option maxRecDepth 100000 in
set_option maxHeartbeats 20000000 in
theorem Eb (f : Ft) (v : Value) (w : World) (S : Nat → Prop) (hf : lK w S f v) (hS : ∀ g, S g → g < w.heap.size) (hlim : f.aH.length + f.ax.length ≤ 1000000000000) (gnm : 0 < f.aH.length + f.ax.length) :
  Calls Tryz.prog 129 #[v] w fun e w' => e = .returned (.bool (aZ f)) ∧ Below w.heap.size w w' := by
 obtain ⟨op, nm, by_, cr, bl, cl⟩ := f
 obtain ⟨bA, bc, cA, cc, rfl, hsb, hlb, hsc, hlc⟩ := hf
 simp only at hsb hlb hsc hlc hlim gnm
 have hbA : ∀ o, Below w.heap.size w (w.alloc o) := fun o => (Below.refl _ _).alloc (Nat.le_refl _) o
 have znm : (0 : Int) < (bl.length : Int) + (cl.length : Int) := by omega
 by_cases gby : by_ = 0
 ·have zby : (by_ != 0) = false := by rw [gby]; rfl
  by_cases gcr : cr = 0
  ·have zcr : (cr != 0) = false := by rw [gcr]; rfl
   have hN : ∀ (o : Int) (n : ByteArray), gH ⟨o, n, by_, cr, bl, cl⟩ = true := fun _ _ => by unfold gH; exact decide_eq_true gnm
   have hM : ∀ (o : Int) (n : ByteArray), dB ⟨o, n, by_, cr, bl, cl⟩ = false := fun _ _ => by simp [dB, gby, gcr]
   clear gnm gby gcr
   by_cases h1 : op = 1
   ·subst h1
    by_cases hz : nm.size = 0
    ·obtain rfl := bD hz
     have E := Lib.hid (show aZ ⟨1, ⟨#[]⟩, by_, cr, bl, cl⟩ = false by simp [aZ, hN, hM, hz] <;> rfl)
     go_enter Tryz.func129, Tryz.ntmps129
     go_wp2
     go_ret
     exact ⟨congrArg (fun b => Ending.returned (.bool b)) E.out.symm, hbA _⟩
    ·have hp : 0 < nm.size := by omega
     have hne2 := bg hp
     have hne := av hp
     have E := Lib.hid (show aZ ⟨1, nm, by_, cr, bl, cl⟩ = false by simp [aZ, hN, hM, hz] <;> rfl)
     go_enter Tryz.func129, Tryz.ntmps129
     go_wp2
     go_ret
     exact ⟨congrArg (fun b => Ending.returned (.bool b)) E.out.symm, hbA _⟩
   have q1 : (op == 1) = false := by rw [beq_eq_false_iff_ne]; exact h1
   by_cases h2 : op = 2
   ·subst h2
    by_cases hz : nm.size = 0
    ·obtain rfl := bD hz
     have HS1 := Lib.hid (fun W => iw by_ W)
     have HS2 := Lib.hid (fun W => iw cr W)
     cases hs1 : small by_
     ·rw [hs1] at HS1
      have E := Lib.hid (show aZ ⟨2, ⟨#[]⟩, by_, cr, bl, cl⟩ = false by simp [aZ, hN, hs1] <;> rfl)
      go_enter Tryz.func129, Tryz.ntmps129
      go_wp2_with fail
      refine (HS1.out _).mono ?_
      rintro e w' ⟨rfl, rfl⟩
      go_wp2
      go_ret
      exact ⟨congrArg (fun b => Ending.returned (.bool b)) E.out.symm, hbA _⟩
     ·rw [hs1] at HS1
      cases hs2 : small cr
      ·rw [hs2] at HS2
       have E := Lib.hid (show aZ ⟨2, ⟨#[]⟩, by_, cr, bl, cl⟩ = false by simp [aZ, hN, hs1, hs2] <;> rfl)
       go_enter Tryz.func129, Tryz.ntmps129
       go_wp2_with fail
       refine (HS1.out _).mono ?_
       rintro e w' ⟨rfl, rfl⟩
       go_wp2_with fail
       refine (HS2.out _).mono ?_
       rintro e w' ⟨rfl, rfl⟩
       go_wp2
       go_ret
       exact ⟨congrArg (fun b => Ending.returned (.bool b)) E.out.symm, hbA _⟩
      ·rw [hs2] at HS2
       have E := Lib.hid (show aZ ⟨2, ⟨#[]⟩, by_, cr, bl, cl⟩ = false by simp [aZ, hN, hs1, hs2] <;> rfl)
       go_enter Tryz.func129, Tryz.ntmps129
       go_wp2_with fail
       refine (HS1.out _).mono ?_
       rintro e w' ⟨rfl, rfl⟩
       go_wp2_with fail
       refine (HS2.out _).mono ?_
       rintro e w' ⟨rfl, rfl⟩
       go_wp2
       go_ret
       exact ⟨congrArg (fun b => Ending.returned (.bool b)) E.out.symm, hbA _⟩
    ·have hp : 0 < nm.size := by omega
     have hne2 := bg hp
     have hne := av hp
     have E := Lib.hid (show aZ ⟨2, nm, by_, cr, bl, cl⟩ = false by simp [aZ, hN, hz] <;> rfl)
     go_enter Tryz.func129, Tryz.ntmps129
     go_wp2
     go_ret
     exact ⟨congrArg (fun b => Ending.returned (.bool b)) E.out.symm, hbA _⟩
   have q2 : (op == 2) = false := by rw [beq_eq_false_iff_ne]; exact h2
   by_cases h3 : op = 3
   ·subst h3
    by_cases hz : nm.size = 0
    ·obtain rfl := bD hz
     have HV1 := Lib.hid (fun o => oM bl S bA bc (w.alloc o) (hsb.keep (aW (hbA o))) (fun g hg => by have := hS g hg; simp; omega) (by omega))
     have HV2 := Lib.hid (fun (W1 : World) (hb1 : Below (w.heap.size + 1) (w.alloc (.cells #[.int .i64 3, .string ⟨#[]⟩, .int .i64 by_, .int .i64 cr, .slice bA bl.length bc, .slice cA cl.length cc] 82)) W1) => oM cl S cA cc W1 ((hsc.keep (aW (hbA _))).keep (aF (w := w.alloc _) (by simpa using hb1) (fun g hg => by have := hS g hg; simp; omega))) (fun g hg => by have := hS g hg; have := hb1.size; simp at this; omega) (by omega))
     have BOX := Lib.hid (fun (W1 : World) (hb1 : Below (w.heap.size + 1) (w.alloc (.cells #[.int .i64 3, .string ⟨#[]⟩, .int .i64 by_, .int .i64 cr, .slice bA bl.length bc, .slice cA cl.length cc] 82)) W1) => show W1.cell? ⟨w.heap.size, 5, none⟩ = some (.slice cA cl.length cc) from (cell_of_row W1 _ 5 _ _ _ ((hb1.block _ (by omega)).trans (heap_alloc_new w _))).trans rfl)
     cases hv1 : aY bl
     ·rw [hv1] at HV1
      have E := Lib.hid (show aZ ⟨3, ⟨#[]⟩, by_, cr, bl, cl⟩ = false by simp [aZ, hN, hM, hv1] <;> rfl)
      go_enter Tryz.func129, Tryz.ntmps129
      go_wp2_with fail
      refine (HV1.out _).mono ?_
      rintro e W1 ⟨rfl, hb1⟩
      go_wp2
      go_ret
      exact ⟨congrArg (fun b => Ending.returned (.bool b)) E.out.symm, (hbA _).trans (hb1.mono (by simp))⟩
     ·rw [hv1] at HV1
      cases hv2 : aY cl
      ·rw [hv2] at HV2
       have E := Lib.hid (show aZ ⟨3, ⟨#[]⟩, by_, cr, bl, cl⟩ = false by simp [aZ, hN, hM, hv1, hv2] <;> rfl)
       go_enter Tryz.func129, Tryz.ntmps129
       go_wp2_with fail
       refine (HV1.out _).mono ?_
       rintro e W1 ⟨rfl, hb1⟩
       have c5 := BOX.out W1 (by simpa using hb1)
       go_wp2_with fail
       refine (HV2.out W1 (by simpa using hb1)).mono ?_
       rintro e W2 ⟨rfl, hb2⟩
       go_wp2
       go_ret
       exact ⟨congrArg (fun b => Ending.returned (.bool b)) E.out.symm, ((hbA _).trans (hb1.mono (by simp))).trans (hb2.mono (by have := hb1.size; simp at this; omega))⟩
      ·rw [hv2] at HV2
       have E := Lib.hid (show aZ ⟨3, ⟨#[]⟩, by_, cr, bl, cl⟩ = true by simp [aZ, hN, hM, hv1, hv2] <;> rfl)
       go_enter Tryz.func129, Tryz.ntmps129
       go_wp2_with fail
       refine (HV1.out _).mono ?_
       rintro e W1 ⟨rfl, hb1⟩
       have c5 := BOX.out W1 (by simpa using hb1)
       go_wp2_with fail
       refine (HV2.out W1 (by simpa using hb1)).mono ?_
       rintro e W2 ⟨rfl, hb2⟩
       go_wp2
       go_ret
       exact ⟨congrArg (fun b => Ending.returned (.bool b)) E.out.symm, ((hbA _).trans (hb1.mono (by simp))).trans (hb2.mono (by have := hb1.size; simp at this; omega))⟩
    ·have hp : 0 < nm.size := by omega
     have hne2 := bg hp
     have hne := av hp
     have E := Lib.hid (show aZ ⟨3, nm, by_, cr, bl, cl⟩ = false by simp [aZ, hN, hM, hz] <;> rfl)
     go_enter Tryz.func129, Tryz.ntmps129
     go_wp2
     go_ret
     exact ⟨congrArg (fun b => Ending.returned (.bool b)) E.out.symm, hbA _⟩
   have q3 : (op == 3) = false := by rw [beq_eq_false_iff_ne]; exact h3
   by_cases h4 : op = 4
   ·subst h4
    have HN := Lib.hid (fun W => cK nm W)
    cases hn : aP nm
    ·rw [hn] at HN
     have E := Lib.hid (show aZ ⟨4, nm, by_, cr, bl, cl⟩ = false by simp [aZ, hN, hM, hn] <;> rfl)
     go_enter Tryz.func129, Tryz.ntmps129
     go_wp2_with fail
     refine (HN.out _).mono ?_
     rintro e w' ⟨rfl, rfl⟩
     go_wp2
     go_ret
     exact ⟨congrArg (fun b => Ending.returned (.bool b)) E.out.symm, hbA _⟩
    ·rw [hn] at HN
     have E := Lib.hid (show aZ ⟨4, nm, by_, cr, bl, cl⟩ = false by simp [aZ, hN, hM, hn] <;> rfl)
     go_enter Tryz.func129, Tryz.ntmps129
     go_wp2_with fail
     refine (HN.out _).mono ?_
     rintro e w' ⟨rfl, rfl⟩
     go_wp2
     go_ret
     exact ⟨congrArg (fun b => Ending.returned (.bool b)) E.out.symm, hbA _⟩
   have q4 : (op == 4) = false := by rw [beq_eq_false_iff_ne]; exact h4
   by_cases h5 : op = 5
   ·subst h5
    have HN := Lib.hid (fun W => cK nm W)
    cases hn : aP nm
    ·rw [hn] at HN
     have E := Lib.hid (show aZ ⟨5, nm, by_, cr, bl, cl⟩ = false by simp [aZ, hN, hM, hn] <;> rfl)
     go_enter Tryz.func129, Tryz.ntmps129
     go_wp2_with fail
     refine (HN.out _).mono ?_
     rintro e w' ⟨rfl, rfl⟩
     go_wp2
     go_ret
     exact ⟨congrArg (fun b => Ending.returned (.bool b)) E.out.symm, hbA _⟩
    ·rw [hn] at HN
     have E := Lib.hid (show aZ ⟨5, nm, by_, cr, bl, cl⟩ = false by simp [aZ, hN, hM, hn] <;> rfl)
     go_enter Tryz.func129, Tryz.ntmps129
     go_wp2_with fail
     refine (HN.out _).mono ?_
     rintro e w' ⟨rfl, rfl⟩
     go_wp2
     go_ret
     exact ⟨congrArg (fun b => Ending.returned (.bool b)) E.out.symm, hbA _⟩
   have q5 : (op == 5) = false := by rw [beq_eq_false_iff_ne]; exact h5
   by_cases h6 : op = 6
   ·subst h6
    have HN := Lib.hid (fun W => cK nm W)
    cases hn : aP nm
    ·rw [hn] at HN
     have E := Lib.hid (show aZ ⟨6, nm, by_, cr, bl, cl⟩ = false by simp [aZ, hN, hM, hn] <;> rfl)
     go_enter Tryz.func129, Tryz.ntmps129
     go_wp2_with fail
     refine (HN.out _).mono ?_
     rintro e w' ⟨rfl, rfl⟩
     go_wp2
     go_ret
     exact ⟨congrArg (fun b => Ending.returned (.bool b)) E.out.symm, hbA _⟩
    ·rw [hn] at HN
     have E := Lib.hid (show aZ ⟨6, nm, by_, cr, bl, cl⟩ = false by simp [aZ, hN, hM, hn] <;> rfl)
     go_enter Tryz.func129, Tryz.ntmps129
     go_wp2_with fail
     refine (HN.out _).mono ?_
     rintro e w' ⟨rfl, rfl⟩
     go_wp2
     go_ret
     exact ⟨congrArg (fun b => Ending.returned (.bool b)) E.out.symm, hbA _⟩
   have q6 : (op == 6) = false := by rw [beq_eq_false_iff_ne]; exact h6
   have E := Lib.hid (show aZ ⟨op, nm, by_, cr, bl, cl⟩ = false by simp [aZ, h1, h2, h3, h4, h5, h6])
   go_enter Tryz.func129, Tryz.ntmps129
   go_wp2
   go_ret
   exact ⟨congrArg (fun b => Ending.returned (.bool b)) E.out.symm, hbA _⟩
  ·have zcr : (cr != 0) = true := by simpa using gcr
   have hN : ∀ (o : Int) (n : ByteArray), gH ⟨o, n, by_, cr, bl, cl⟩ = true := fun _ _ => by unfold gH; exact decide_eq_true gnm
   have hM : ∀ (o : Int) (n : ByteArray), dB ⟨o, n, by_, cr, bl, cl⟩ = true := fun _ _ => by simp [dB, gby, gcr]
   clear gnm gby gcr
   by_cases h1 : op = 1
   ·subst h1
    by_cases hz : nm.size = 0
    ·obtain rfl := bD hz
     have E := Lib.hid (show aZ ⟨1, ⟨#[]⟩, by_, cr, bl, cl⟩ = false by simp [aZ, hN, hM, hz] <;> rfl)
     go_enter Tryz.func129, Tryz.ntmps129
     go_wp2
     go_ret
     exact ⟨congrArg (fun b => Ending.returned (.bool b)) E.out.symm, hbA _⟩
    ·have hp : 0 < nm.size := by omega
     have hne2 := bg hp
     have hne := av hp
     have E := Lib.hid (show aZ ⟨1, nm, by_, cr, bl, cl⟩ = false by simp [aZ, hN, hM, hz] <;> rfl)
     go_enter Tryz.func129, Tryz.ntmps129
     go_wp2
     go_ret
     exact ⟨congrArg (fun b => Ending.returned (.bool b)) E.out.symm, hbA _⟩
   have q1 : (op == 1) = false := by rw [beq_eq_false_iff_ne]; exact h1
   by_cases h2 : op = 2
   ·subst h2
    by_cases hz : nm.size = 0
    ·obtain rfl := bD hz
     have HS1 := Lib.hid (fun W => iw by_ W)
     have HS2 := Lib.hid (fun W => iw cr W)
     cases hs1 : small by_
     ·rw [hs1] at HS1
      have E := Lib.hid (show aZ ⟨2, ⟨#[]⟩, by_, cr, bl, cl⟩ = false by simp [aZ, hN, hs1] <;> rfl)
      go_enter Tryz.func129, Tryz.ntmps129
      go_wp2_with fail
      refine (HS1.out _).mono ?_
      rintro e w' ⟨rfl, rfl⟩
      go_wp2
      go_ret
      exact ⟨congrArg (fun b => Ending.returned (.bool b)) E.out.symm, hbA _⟩
     ·rw [hs1] at HS1
      cases hs2 : small cr
      ·rw [hs2] at HS2
       have E := Lib.hid (show aZ ⟨2, ⟨#[]⟩, by_, cr, bl, cl⟩ = false by simp [aZ, hN, hs1, hs2] <;> rfl)
       go_enter Tryz.func129, Tryz.ntmps129
       go_wp2_with fail
       refine (HS1.out _).mono ?_
       rintro e w' ⟨rfl, rfl⟩
       go_wp2_with fail
       refine (HS2.out _).mono ?_
       rintro e w' ⟨rfl, rfl⟩
       go_wp2
       go_ret
       exact ⟨congrArg (fun b => Ending.returned (.bool b)) E.out.symm, hbA _⟩
      ·rw [hs2] at HS2
       have E := Lib.hid (show aZ ⟨2, ⟨#[]⟩, by_, cr, bl, cl⟩ = false by simp [aZ, hN, hs1, hs2] <;> rfl)
       go_enter Tryz.func129, Tryz.ntmps129
       go_wp2_with fail
       refine (HS1.out _).mono ?_
       rintro e w' ⟨rfl, rfl⟩
       go_wp2_with fail
       refine (HS2.out _).mono ?_
       rintro e w' ⟨rfl, rfl⟩
       go_wp2
       go_ret
       exact ⟨congrArg (fun b => Ending.returned (.bool b)) E.out.symm, hbA _⟩
    ·have hp : 0 < nm.size := by omega
     have hne2 := bg hp
     have hne := av hp
     have E := Lib.hid (show aZ ⟨2, nm, by_, cr, bl, cl⟩ = false by simp [aZ, hN, hz] <;> rfl)
     go_enter Tryz.func129, Tryz.ntmps129
     go_wp2
     go_ret
     exact ⟨congrArg (fun b => Ending.returned (.bool b)) E.out.symm, hbA _⟩
   have q2 : (op == 2) = false := by rw [beq_eq_false_iff_ne]; exact h2
   by_cases h3 : op = 3
   ·subst h3
    by_cases hz : nm.size = 0
    ·obtain rfl := bD hz
     have E := Lib.hid (show aZ ⟨3, ⟨#[]⟩, by_, cr, bl, cl⟩ = false by simp [aZ, hN, hM, hz] <;> rfl)
     go_enter Tryz.func129, Tryz.ntmps129
     go_wp2
     go_ret
     exact ⟨congrArg (fun b => Ending.returned (.bool b)) E.out.symm, hbA _⟩
    ·have hp : 0 < nm.size := by omega
     have hne2 := bg hp
     have hne := av hp
     have E := Lib.hid (show aZ ⟨3, nm, by_, cr, bl, cl⟩ = false by simp [aZ, hN, hM, hz] <;> rfl)
     go_enter Tryz.func129, Tryz.ntmps129
     go_wp2
     go_ret
     exact ⟨congrArg (fun b => Ending.returned (.bool b)) E.out.symm, hbA _⟩
   have q3 : (op == 3) = false := by rw [beq_eq_false_iff_ne]; exact h3
   by_cases h4 : op = 4
   ·subst h4
    have HN := Lib.hid (fun W => cK nm W)
    cases hn : aP nm
    ·rw [hn] at HN
     have E := Lib.hid (show aZ ⟨4, nm, by_, cr, bl, cl⟩ = false by simp [aZ, hN, hM, hn] <;> rfl)
     go_enter Tryz.func129, Tryz.ntmps129
     go_wp2_with fail
     refine (HN.out _).mono ?_
     rintro e w' ⟨rfl, rfl⟩
     go_wp2
     go_ret
     exact ⟨congrArg (fun b => Ending.returned (.bool b)) E.out.symm, hbA _⟩
    ·rw [hn] at HN
     have E := Lib.hid (show aZ ⟨4, nm, by_, cr, bl, cl⟩ = false by simp [aZ, hN, hM, hn] <;> rfl)
     go_enter Tryz.func129, Tryz.ntmps129
     go_wp2_with fail
     refine (HN.out _).mono ?_
     rintro e w' ⟨rfl, rfl⟩
     go_wp2
     go_ret
     exact ⟨congrArg (fun b => Ending.returned (.bool b)) E.out.symm, hbA _⟩
   have q4 : (op == 4) = false := by rw [beq_eq_false_iff_ne]; exact h4
   by_cases h5 : op = 5
   ·subst h5
    have HN := Lib.hid (fun W => cK nm W)
    cases hn : aP nm
    ·rw [hn] at HN
     have E := Lib.hid (show aZ ⟨5, nm, by_, cr, bl, cl⟩ = false by simp [aZ, hN, hM, hn] <;> rfl)
     go_enter Tryz.func129, Tryz.ntmps129
     go_wp2_with fail
     refine (HN.out _).mono ?_
     rintro e w' ⟨rfl, rfl⟩
     go_wp2
     go_ret
     exact ⟨congrArg (fun b => Ending.returned (.bool b)) E.out.symm, hbA _⟩
    ·rw [hn] at HN
     have E := Lib.hid (show aZ ⟨5, nm, by_, cr, bl, cl⟩ = false by simp [aZ, hN, hM, hn] <;> rfl)
     go_enter Tryz.func129, Tryz.ntmps129
     go_wp2_with fail
     refine (HN.out _).mono ?_
     rintro e w' ⟨rfl, rfl⟩
     go_wp2
     go_ret
     exact ⟨congrArg (fun b => Ending.returned (.bool b)) E.out.symm, hbA _⟩
   have q5 : (op == 5) = false := by rw [beq_eq_false_iff_ne]; exact h5
   by_cases h6 : op = 6
   ·subst h6
    have HN := Lib.hid (fun W => cK nm W)
    cases hn : aP nm
    ·rw [hn] at HN
     have E := Lib.hid (show aZ ⟨6, nm, by_, cr, bl, cl⟩ = false by simp [aZ, hN, hM, hn] <;> rfl)
     go_enter Tryz.func129, Tryz.ntmps129
     go_wp2_with fail
     refine (HN.out _).mono ?_
     rintro e w' ⟨rfl, rfl⟩
     go_wp2
     go_ret
     exact ⟨congrArg (fun b => Ending.returned (.bool b)) E.out.symm, hbA _⟩
    ·rw [hn] at HN
     have E := Lib.hid (show aZ ⟨6, nm, by_, cr, bl, cl⟩ = false by simp [aZ, hN, hM, hn] <;> rfl)
     go_enter Tryz.func129, Tryz.ntmps129
     go_wp2_with fail
     refine (HN.out _).mono ?_
     rintro e w' ⟨rfl, rfl⟩
     go_wp2
     go_ret
     exact ⟨congrArg (fun b => Ending.returned (.bool b)) E.out.symm, hbA _⟩
   have q6 : (op == 6) = false := by rw [beq_eq_false_iff_ne]; exact h6
   have E := Lib.hid (show aZ ⟨op, nm, by_, cr, bl, cl⟩ = false by simp [aZ, h1, h2, h3, h4, h5, h6])
   go_enter Tryz.func129, Tryz.ntmps129
   go_wp2
   go_ret
   exact ⟨congrArg (fun b => Ending.returned (.bool b)) E.out.symm, hbA _⟩
 ·have zby : (by_ != 0) = true := by simpa using gby
  have hN : ∀ (o : Int) (n : ByteArray), gH ⟨o, n, by_, cr, bl, cl⟩ = true := fun _ _ => by unfold gH; exact decide_eq_true gnm
  have hM : ∀ (o : Int) (n : ByteArray), dB ⟨o, n, by_, cr, bl, cl⟩ = true := fun _ _ => by simp [dB, gby]
  clear gnm gby
  by_cases h1 : op = 1
  ·subst h1
   by_cases hz : nm.size = 0
   ·obtain rfl := bD hz
    have E := Lib.hid (show aZ ⟨1, ⟨#[]⟩, by_, cr, bl, cl⟩ = false by simp [aZ, hN, hM, hz] <;> rfl)
    go_enter Tryz.func129, Tryz.ntmps129
    go_wp2
    go_ret
    exact ⟨congrArg (fun b => Ending.returned (.bool b)) E.out.symm, hbA _⟩
   ·have hp : 0 < nm.size := by omega
    have hne2 := bg hp
    have hne := av hp
    have E := Lib.hid (show aZ ⟨1, nm, by_, cr, bl, cl⟩ = false by simp [aZ, hN, hM, hz] <;> rfl)
    go_enter Tryz.func129, Tryz.ntmps129
    go_wp2
    go_ret
    exact ⟨congrArg (fun b => Ending.returned (.bool b)) E.out.symm, hbA _⟩
  have q1 : (op == 1) = false := by rw [beq_eq_false_iff_ne]; exact h1
  by_cases h2 : op = 2
  ·subst h2
   by_cases hz : nm.size = 0
   ·obtain rfl := bD hz
    have HS1 := Lib.hid (fun W => iw by_ W)
    have HS2 := Lib.hid (fun W => iw cr W)
    cases hs1 : small by_
    ·rw [hs1] at HS1
     have E := Lib.hid (show aZ ⟨2, ⟨#[]⟩, by_, cr, bl, cl⟩ = false by simp [aZ, hN, hs1] <;> rfl)
     go_enter Tryz.func129, Tryz.ntmps129
     go_wp2_with fail
     refine (HS1.out _).mono ?_
     rintro e w' ⟨rfl, rfl⟩
     go_wp2
     go_ret
     exact ⟨congrArg (fun b => Ending.returned (.bool b)) E.out.symm, hbA _⟩
    ·rw [hs1] at HS1
     cases hs2 : small cr
     ·rw [hs2] at HS2
      have E := Lib.hid (show aZ ⟨2, ⟨#[]⟩, by_, cr, bl, cl⟩ = false by simp [aZ, hN, hs1, hs2] <;> rfl)
      go_enter Tryz.func129, Tryz.ntmps129
      go_wp2_with fail
      refine (HS1.out _).mono ?_
      rintro e w' ⟨rfl, rfl⟩
      go_wp2_with fail
      refine (HS2.out _).mono ?_
      rintro e w' ⟨rfl, rfl⟩
      go_wp2
      go_ret
      exact ⟨congrArg (fun b => Ending.returned (.bool b)) E.out.symm, hbA _⟩
     ·rw [hs2] at HS2
      have E := Lib.hid (show aZ ⟨2, ⟨#[]⟩, by_, cr, bl, cl⟩ = false by simp [aZ, hN, hs1, hs2] <;> rfl)
      go_enter Tryz.func129, Tryz.ntmps129
      go_wp2_with fail
      refine (HS1.out _).mono ?_
      rintro e w' ⟨rfl, rfl⟩
      go_wp2_with fail
      refine (HS2.out _).mono ?_
      rintro e w' ⟨rfl, rfl⟩
      go_wp2
      go_ret
      exact ⟨congrArg (fun b => Ending.returned (.bool b)) E.out.symm, hbA _⟩
   ·have hp : 0 < nm.size := by omega
    have hne2 := bg hp
    have hne := av hp
    have E := Lib.hid (show aZ ⟨2, nm, by_, cr, bl, cl⟩ = false by simp [aZ, hN, hz] <;> rfl)
    go_enter Tryz.func129, Tryz.ntmps129
    go_wp2
    go_ret
    exact ⟨congrArg (fun b => Ending.returned (.bool b)) E.out.symm, hbA _⟩
  have q2 : (op == 2) = false := by rw [beq_eq_false_iff_ne]; exact h2
  by_cases h3 : op = 3
  ·subst h3
   by_cases hz : nm.size = 0
   ·obtain rfl := bD hz
    have E := Lib.hid (show aZ ⟨3, ⟨#[]⟩, by_, cr, bl, cl⟩ = false by simp [aZ, hN, hM, hz] <;> rfl)
    go_enter Tryz.func129, Tryz.ntmps129
    go_wp2
    go_ret
    exact ⟨congrArg (fun b => Ending.returned (.bool b)) E.out.symm, hbA _⟩
   ·have hp : 0 < nm.size := by omega
    have hne2 := bg hp
    have hne := av hp
    have E := Lib.hid (show aZ ⟨3, nm, by_, cr, bl, cl⟩ = false by simp [aZ, hN, hM, hz] <;> rfl)
    go_enter Tryz.func129, Tryz.ntmps129
    go_wp2
    go_ret
    exact ⟨congrArg (fun b => Ending.returned (.bool b)) E.out.symm, hbA _⟩
  have q3 : (op == 3) = false := by rw [beq_eq_false_iff_ne]; exact h3
  by_cases h4 : op = 4
  ·subst h4
   have HN := Lib.hid (fun W => cK nm W)
   cases hn : aP nm
   ·rw [hn] at HN
    have E := Lib.hid (show aZ ⟨4, nm, by_, cr, bl, cl⟩ = false by simp [aZ, hN, hM, hn] <;> rfl)
    go_enter Tryz.func129, Tryz.ntmps129
    go_wp2_with fail
    refine (HN.out _).mono ?_
    rintro e w' ⟨rfl, rfl⟩
    go_wp2
    go_ret
    exact ⟨congrArg (fun b => Ending.returned (.bool b)) E.out.symm, hbA _⟩
   ·rw [hn] at HN
    have E := Lib.hid (show aZ ⟨4, nm, by_, cr, bl, cl⟩ = false by simp [aZ, hN, hM, hn] <;> rfl)
    go_enter Tryz.func129, Tryz.ntmps129
    go_wp2_with fail
    refine (HN.out _).mono ?_
    rintro e w' ⟨rfl, rfl⟩
    go_wp2
    go_ret
    exact ⟨congrArg (fun b => Ending.returned (.bool b)) E.out.symm, hbA _⟩
  have q4 : (op == 4) = false := by rw [beq_eq_false_iff_ne]; exact h4
  by_cases h5 : op = 5
  ·subst h5
   have HN := Lib.hid (fun W => cK nm W)
   cases hn : aP nm
   ·rw [hn] at HN
    have E := Lib.hid (show aZ ⟨5, nm, by_, cr, bl, cl⟩ = false by simp [aZ, hN, hM, hn] <;> rfl)
    go_enter Tryz.func129, Tryz.ntmps129
    go_wp2_with fail
    refine (HN.out _).mono ?_
    rintro e w' ⟨rfl, rfl⟩
    go_wp2
    go_ret
    exact ⟨congrArg (fun b => Ending.returned (.bool b)) E.out.symm, hbA _⟩
   ·rw [hn] at HN
    have E := Lib.hid (show aZ ⟨5, nm, by_, cr, bl, cl⟩ = false by simp [aZ, hN, hM, hn] <;> rfl)
    go_enter Tryz.func129, Tryz.ntmps129
    go_wp2_with fail
    refine (HN.out _).mono ?_
    rintro e w' ⟨rfl, rfl⟩
    go_wp2
    go_ret
    exact ⟨congrArg (fun b => Ending.returned (.bool b)) E.out.symm, hbA _⟩
  have q5 : (op == 5) = false := by rw [beq_eq_false_iff_ne]; exact h5
  by_cases h6 : op = 6
  ·subst h6
   have HN := Lib.hid (fun W => cK nm W)
   cases hn : aP nm
   ·rw [hn] at HN
    have E := Lib.hid (show aZ ⟨6, nm, by_, cr, bl, cl⟩ = false by simp [aZ, hN, hM, hn] <;> rfl)
    go_enter Tryz.func129, Tryz.ntmps129
    go_wp2_with fail
    refine (HN.out _).mono ?_
    rintro e w' ⟨rfl, rfl⟩
    go_wp2
    go_ret
    exact ⟨congrArg (fun b => Ending.returned (.bool b)) E.out.symm, hbA _⟩
   ·rw [hn] at HN
    have E := Lib.hid (show aZ ⟨6, nm, by_, cr, bl, cl⟩ = false by simp [aZ, hN, hM, hn] <;> rfl)
    go_enter Tryz.func129, Tryz.ntmps129
    go_wp2_with fail
    refine (HN.out _).mono ?_
    rintro e w' ⟨rfl, rfl⟩
    go_wp2
    go_ret
    exact ⟨congrArg (fun b => Ending.returned (.bool b)) E.out.symm, hbA _⟩
  have q6 : (op == 6) = false := by rw [beq_eq_false_iff_ne]; exact h6
  have E := Lib.hid (show aZ ⟨op, nm, by_, cr, bl, cl⟩ = false by simp [aZ, h1, h2, h3, h4, h5, h6])
  go_enter Tryz.func129, Tryz.ntmps129
  go_wp2
  go_ret
  exact ⟨congrArg (fun b => Ending.returned (.bool b)) E.out.symm, hbA _⟩

set_option maxRecDepth 100000 in
set_option maxHeartbeats 20000000 in
theorem Ea (f : Ft) (v : Value) (w : World) (S : Nat → Prop) (hf : lK w S f v) (_hS : ∀ g, S g → g < w.heap.size) (hlim : f.aH.length + f.ax.length ≤ 1000000000000) (gnm : ¬ 0 < f.aH.length + f.ax.length) :
  Calls Tryz.prog 129 #[v] w fun e w' => e = .returned (.bool (aZ f)) ∧ Below w.heap.size w w' := by
 obtain ⟨op, nm, by_, cr, bl, cl⟩ := f
 obtain ⟨bA, bc, cA, cc, rfl, hsb, hlb, hsc, hlc⟩ := hf
 simp only at hsb hlb hsc hlc hlim gnm
 have hbA : ∀ o, Below w.heap.size w (w.alloc o) := fun o => (Below.refl _ _).alloc (Nat.le_refl _) o
 have znm : ¬ (0 : Int) < (bl.length : Int) + (cl.length : Int) := by omega
 by_cases gby : by_ = 0
 ·have zby : (by_ != 0) = false := by rw [gby]; rfl
  by_cases gcr : cr = 0
  ·have zcr : (cr != 0) = false := by rw [gcr]; rfl
   have hN : ∀ (o : Int) (n : ByteArray), gH ⟨o, n, by_, cr, bl, cl⟩ = false := fun _ _ => by unfold gH; exact decide_eq_false gnm
   have hM : ∀ (o : Int) (n : ByteArray), dB ⟨o, n, by_, cr, bl, cl⟩ = false := fun _ _ => by simp [dB, gby, gcr]
   clear gnm gby gcr
   by_cases h1 : op = 1
   ·subst h1
    by_cases hz : nm.size = 0
    ·obtain rfl := bD hz
     have E := Lib.hid (show aZ ⟨1, ⟨#[]⟩, by_, cr, bl, cl⟩ = true by simp [aZ, hN, hM, hz] <;> rfl)
     go_enter Tryz.func129, Tryz.ntmps129
     go_wp2
     go_ret
     exact ⟨congrArg (fun b => Ending.returned (.bool b)) E.out.symm, hbA _⟩
    ·have hp : 0 < nm.size := by omega
     have hne2 := bg hp
     have hne := av hp
     have E := Lib.hid (show aZ ⟨1, nm, by_, cr, bl, cl⟩ = false by simp [aZ, hN, hM, hz] <;> rfl)
     go_enter Tryz.func129, Tryz.ntmps129
     go_wp2
     go_ret
     exact ⟨congrArg (fun b => Ending.returned (.bool b)) E.out.symm, hbA _⟩
   have q1 : (op == 1) = false := by rw [beq_eq_false_iff_ne]; exact h1
   by_cases h2 : op = 2
   ·subst h2
    by_cases hz : nm.size = 0
    ·obtain rfl := bD hz
     have HS1 := Lib.hid (fun W => iw by_ W)
     have HS2 := Lib.hid (fun W => iw cr W)
     cases hs1 : small by_
     ·rw [hs1] at HS1
      have E := Lib.hid (show aZ ⟨2, ⟨#[]⟩, by_, cr, bl, cl⟩ = false by simp [aZ, hN, hs1] <;> rfl)
      go_enter Tryz.func129, Tryz.ntmps129
      go_wp2_with fail
      refine (HS1.out _).mono ?_
      rintro e w' ⟨rfl, rfl⟩
      go_wp2
      go_ret
      exact ⟨congrArg (fun b => Ending.returned (.bool b)) E.out.symm, hbA _⟩
     ·rw [hs1] at HS1
      cases hs2 : small cr
      ·rw [hs2] at HS2
       have E := Lib.hid (show aZ ⟨2, ⟨#[]⟩, by_, cr, bl, cl⟩ = false by simp [aZ, hN, hs1, hs2] <;> rfl)
       go_enter Tryz.func129, Tryz.ntmps129
       go_wp2_with fail
       refine (HS1.out _).mono ?_
       rintro e w' ⟨rfl, rfl⟩
       go_wp2_with fail
       refine (HS2.out _).mono ?_
       rintro e w' ⟨rfl, rfl⟩
       go_wp2
       go_ret
       exact ⟨congrArg (fun b => Ending.returned (.bool b)) E.out.symm, hbA _⟩
      ·rw [hs2] at HS2
       have E := Lib.hid (show aZ ⟨2, ⟨#[]⟩, by_, cr, bl, cl⟩ = true by simp [aZ, hN, hs1, hs2] <;> rfl)
       go_enter Tryz.func129, Tryz.ntmps129
       go_wp2_with fail
       refine (HS1.out _).mono ?_
       rintro e w' ⟨rfl, rfl⟩
       go_wp2_with fail
       refine (HS2.out _).mono ?_
       rintro e w' ⟨rfl, rfl⟩
       go_wp2
       go_ret
       exact ⟨congrArg (fun b => Ending.returned (.bool b)) E.out.symm, hbA _⟩
    ·have hp : 0 < nm.size := by omega
     have hne2 := bg hp
     have hne := av hp
     have E := Lib.hid (show aZ ⟨2, nm, by_, cr, bl, cl⟩ = false by simp [aZ, hN, hz] <;> rfl)
     go_enter Tryz.func129, Tryz.ntmps129
     go_wp2
     go_ret
     exact ⟨congrArg (fun b => Ending.returned (.bool b)) E.out.symm, hbA _⟩
   have q2 : (op == 2) = false := by rw [beq_eq_false_iff_ne]; exact h2
   by_cases h3 : op = 3
   ·subst h3
    by_cases hz : nm.size = 0
    ·obtain rfl := bD hz
     have E := Lib.hid (show aZ ⟨3, ⟨#[]⟩, by_, cr, bl, cl⟩ = false by simp [aZ, hN, hM, hz] <;> rfl)
     go_enter Tryz.func129, Tryz.ntmps129
     go_wp2
     go_ret
     exact ⟨congrArg (fun b => Ending.returned (.bool b)) E.out.symm, hbA _⟩
    ·have hp : 0 < nm.size := by omega
     have hne2 := bg hp
     have hne := av hp
     have E := Lib.hid (show aZ ⟨3, nm, by_, cr, bl, cl⟩ = false by simp [aZ, hN, hM, hz] <;> rfl)
     go_enter Tryz.func129, Tryz.ntmps129
     go_wp2
     go_ret
     exact ⟨congrArg (fun b => Ending.returned (.bool b)) E.out.symm, hbA _⟩
   have q3 : (op == 3) = false := by rw [beq_eq_false_iff_ne]; exact h3
   by_cases h4 : op = 4
   ·subst h4
    have HN := Lib.hid (fun W => cK nm W)
    cases hn : aP nm
    ·rw [hn] at HN
     have E := Lib.hid (show aZ ⟨4, nm, by_, cr, bl, cl⟩ = false by simp [aZ, hN, hM, hn] <;> rfl)
     go_enter Tryz.func129, Tryz.ntmps129
     go_wp2_with fail
     refine (HN.out _).mono ?_
     rintro e w' ⟨rfl, rfl⟩
     go_wp2
     go_ret
     exact ⟨congrArg (fun b => Ending.returned (.bool b)) E.out.symm, hbA _⟩
    ·rw [hn] at HN
     have E := Lib.hid (show aZ ⟨4, nm, by_, cr, bl, cl⟩ = true by simp [aZ, hN, hM, hn] <;> rfl)
     go_enter Tryz.func129, Tryz.ntmps129
     go_wp2_with fail
     refine (HN.out _).mono ?_
     rintro e w' ⟨rfl, rfl⟩
     go_wp2
     go_ret
     exact ⟨congrArg (fun b => Ending.returned (.bool b)) E.out.symm, hbA _⟩
   have q4 : (op == 4) = false := by rw [beq_eq_false_iff_ne]; exact h4
   by_cases h5 : op = 5
   ·subst h5
    have HN := Lib.hid (fun W => cK nm W)
    cases hn : aP nm
    ·rw [hn] at HN
     have E := Lib.hid (show aZ ⟨5, nm, by_, cr, bl, cl⟩ = false by simp [aZ, hN, hM, hn] <;> rfl)
     go_enter Tryz.func129, Tryz.ntmps129
     go_wp2_with fail
     refine (HN.out _).mono ?_
     rintro e w' ⟨rfl, rfl⟩
     go_wp2
     go_ret
     exact ⟨congrArg (fun b => Ending.returned (.bool b)) E.out.symm, hbA _⟩
    ·rw [hn] at HN
     have E := Lib.hid (show aZ ⟨5, nm, by_, cr, bl, cl⟩ = true by simp [aZ, hN, hM, hn] <;> rfl)
     go_enter Tryz.func129, Tryz.ntmps129
     go_wp2_with fail
     refine (HN.out _).mono ?_
     rintro e w' ⟨rfl, rfl⟩
     go_wp2
     go_ret
     exact ⟨congrArg (fun b => Ending.returned (.bool b)) E.out.symm, hbA _⟩
   have q5 : (op == 5) = false := by rw [beq_eq_false_iff_ne]; exact h5
   by_cases h6 : op = 6
   ·subst h6
    have HN := Lib.hid (fun W => cK nm W)
    cases hn : aP nm
    ·rw [hn] at HN
     have E := Lib.hid (show aZ ⟨6, nm, by_, cr, bl, cl⟩ = false by simp [aZ, hN, hM, hn] <;> rfl)
     go_enter Tryz.func129, Tryz.ntmps129
     go_wp2_with fail
     refine (HN.out _).mono ?_
     rintro e w' ⟨rfl, rfl⟩
     go_wp2
     go_ret
     exact ⟨congrArg (fun b => Ending.returned (.bool b)) E.out.symm, hbA _⟩
    ·rw [hn] at HN
     have E := Lib.hid (show aZ ⟨6, nm, by_, cr, bl, cl⟩ = true by simp [aZ, hN, hM, hn] <;> rfl)
     go_enter Tryz.func129, Tryz.ntmps129
     go_wp2_with fail
     refine (HN.out _).mono ?_
     rintro e w' ⟨rfl, rfl⟩
     go_wp2
     go_ret
     exact ⟨congrArg (fun b => Ending.returned (.bool b)) E.out.symm, hbA _⟩
   have q6 : (op == 6) = false := by rw [beq_eq_false_iff_ne]; exact h6
   have E := Lib.hid (show aZ ⟨op, nm, by_, cr, bl, cl⟩ = false by simp [aZ, h1, h2, h3, h4, h5, h6])
   go_enter Tryz.func129, Tryz.ntmps129
   go_wp2
   go_ret
   exact ⟨congrArg (fun b => Ending.returned (.bool b)) E.out.symm, hbA _⟩
  ·have zcr : (cr != 0) = true := by simpa using gcr
   have hN : ∀ (o : Int) (n : ByteArray), gH ⟨o, n, by_, cr, bl, cl⟩ = false := fun _ _ => by unfold gH; exact decide_eq_false gnm
   have hM : ∀ (o : Int) (n : ByteArray), dB ⟨o, n, by_, cr, bl, cl⟩ = true := fun _ _ => by simp [dB, gby, gcr]
   clear gnm gby gcr
   by_cases h1 : op = 1
   ·subst h1
    by_cases hz : nm.size = 0
    ·obtain rfl := bD hz
     have E := Lib.hid (show aZ ⟨1, ⟨#[]⟩, by_, cr, bl, cl⟩ = false by simp [aZ, hN, hM, hz] <;> rfl)
     go_enter Tryz.func129, Tryz.ntmps129
     go_wp2
     go_ret
     exact ⟨congrArg (fun b => Ending.returned (.bool b)) E.out.symm, hbA _⟩
    ·have hp : 0 < nm.size := by omega
     have hne2 := bg hp
     have hne := av hp
     have E := Lib.hid (show aZ ⟨1, nm, by_, cr, bl, cl⟩ = false by simp [aZ, hN, hM, hz] <;> rfl)
     go_enter Tryz.func129, Tryz.ntmps129
     go_wp2
     go_ret
     exact ⟨congrArg (fun b => Ending.returned (.bool b)) E.out.symm, hbA _⟩
   have q1 : (op == 1) = false := by rw [beq_eq_false_iff_ne]; exact h1
   by_cases h2 : op = 2
   ·subst h2
    by_cases hz : nm.size = 0
    ·obtain rfl := bD hz
     have HS1 := Lib.hid (fun W => iw by_ W)
     have HS2 := Lib.hid (fun W => iw cr W)
     cases hs1 : small by_
     ·rw [hs1] at HS1
      have E := Lib.hid (show aZ ⟨2, ⟨#[]⟩, by_, cr, bl, cl⟩ = false by simp [aZ, hN, hs1] <;> rfl)
      go_enter Tryz.func129, Tryz.ntmps129
      go_wp2_with fail
      refine (HS1.out _).mono ?_
      rintro e w' ⟨rfl, rfl⟩
      go_wp2
      go_ret
      exact ⟨congrArg (fun b => Ending.returned (.bool b)) E.out.symm, hbA _⟩
     ·rw [hs1] at HS1
      cases hs2 : small cr
      ·rw [hs2] at HS2
       have E := Lib.hid (show aZ ⟨2, ⟨#[]⟩, by_, cr, bl, cl⟩ = false by simp [aZ, hN, hs1, hs2] <;> rfl)
       go_enter Tryz.func129, Tryz.ntmps129
       go_wp2_with fail
       refine (HS1.out _).mono ?_
       rintro e w' ⟨rfl, rfl⟩
       go_wp2_with fail
       refine (HS2.out _).mono ?_
       rintro e w' ⟨rfl, rfl⟩
       go_wp2
       go_ret
       exact ⟨congrArg (fun b => Ending.returned (.bool b)) E.out.symm, hbA _⟩
      ·rw [hs2] at HS2
       have E := Lib.hid (show aZ ⟨2, ⟨#[]⟩, by_, cr, bl, cl⟩ = true by simp [aZ, hN, hs1, hs2] <;> rfl)
       go_enter Tryz.func129, Tryz.ntmps129
       go_wp2_with fail
       refine (HS1.out _).mono ?_
       rintro e w' ⟨rfl, rfl⟩
       go_wp2_with fail
       refine (HS2.out _).mono ?_
       rintro e w' ⟨rfl, rfl⟩
       go_wp2
       go_ret
       exact ⟨congrArg (fun b => Ending.returned (.bool b)) E.out.symm, hbA _⟩
    ·have hp : 0 < nm.size := by omega
     have hne2 := bg hp
     have hne := av hp
     have E := Lib.hid (show aZ ⟨2, nm, by_, cr, bl, cl⟩ = false by simp [aZ, hN, hz] <;> rfl)
     go_enter Tryz.func129, Tryz.ntmps129
     go_wp2
     go_ret
     exact ⟨congrArg (fun b => Ending.returned (.bool b)) E.out.symm, hbA _⟩
   have q2 : (op == 2) = false := by rw [beq_eq_false_iff_ne]; exact h2
   by_cases h3 : op = 3
   ·subst h3
    by_cases hz : nm.size = 0
    ·obtain rfl := bD hz
     have E := Lib.hid (show aZ ⟨3, ⟨#[]⟩, by_, cr, bl, cl⟩ = false by simp [aZ, hN, hM, hz] <;> rfl)
     go_enter Tryz.func129, Tryz.ntmps129
     go_wp2
     go_ret
     exact ⟨congrArg (fun b => Ending.returned (.bool b)) E.out.symm, hbA _⟩
    ·have hp : 0 < nm.size := by omega
     have hne2 := bg hp
     have hne := av hp
     have E := Lib.hid (show aZ ⟨3, nm, by_, cr, bl, cl⟩ = false by simp [aZ, hN, hM, hz] <;> rfl)
     go_enter Tryz.func129, Tryz.ntmps129
     go_wp2
     go_ret
     exact ⟨congrArg (fun b => Ending.returned (.bool b)) E.out.symm, hbA _⟩
   have q3 : (op == 3) = false := by rw [beq_eq_false_iff_ne]; exact h3
   by_cases h4 : op = 4
   ·subst h4
    have HN := Lib.hid (fun W => cK nm W)
    cases hn : aP nm
    ·rw [hn] at HN
     have E := Lib.hid (show aZ ⟨4, nm, by_, cr, bl, cl⟩ = false by simp [aZ, hN, hM, hn] <;> rfl)
     go_enter Tryz.func129, Tryz.ntmps129
     go_wp2_with fail
     refine (HN.out _).mono ?_
     rintro e w' ⟨rfl, rfl⟩
     go_wp2
     go_ret
     exact ⟨congrArg (fun b => Ending.returned (.bool b)) E.out.symm, hbA _⟩
    ·rw [hn] at HN
     have E := Lib.hid (show aZ ⟨4, nm, by_, cr, bl, cl⟩ = false by simp [aZ, hN, hM, hn] <;> rfl)
     go_enter Tryz.func129, Tryz.ntmps129
     go_wp2_with fail
     refine (HN.out _).mono ?_
     rintro e w' ⟨rfl, rfl⟩
     go_wp2
     go_ret
     exact ⟨congrArg (fun b => Ending.returned (.bool b)) E.out.symm, hbA _⟩
   have q4 : (op == 4) = false := by rw [beq_eq_false_iff_ne]; exact h4
   by_cases h5 : op = 5
   ·subst h5
    have HN := Lib.hid (fun W => cK nm W)
    cases hn : aP nm
    ·rw [hn] at HN
     have E := Lib.hid (show aZ ⟨5, nm, by_, cr, bl, cl⟩ = false by simp [aZ, hN, hM, hn] <;> rfl)
     go_enter Tryz.func129, Tryz.ntmps129
     go_wp2_with fail
     refine (HN.out _).mono ?_
     rintro e w' ⟨rfl, rfl⟩
     go_wp2
     go_ret
     exact ⟨congrArg (fun b => Ending.returned (.bool b)) E.out.symm, hbA _⟩
    ·rw [hn] at HN
     have E := Lib.hid (show aZ ⟨5, nm, by_, cr, bl, cl⟩ = false by simp [aZ, hN, hM, hn] <;> rfl)
     go_enter Tryz.func129, Tryz.ntmps129
     go_wp2_with fail
     refine (HN.out _).mono ?_
     rintro e w' ⟨rfl, rfl⟩
     go_wp2
     go_ret
     exact ⟨congrArg (fun b => Ending.returned (.bool b)) E.out.symm, hbA _⟩
   have q5 : (op == 5) = false := by rw [beq_eq_false_iff_ne]; exact h5
   by_cases h6 : op = 6
   ·subst h6
    have HN := Lib.hid (fun W => cK nm W)
    cases hn : aP nm
    ·rw [hn] at HN
     have E := Lib.hid (show aZ ⟨6, nm, by_, cr, bl, cl⟩ = false by simp [aZ, hN, hM, hn] <;> rfl)
     go_enter Tryz.func129, Tryz.ntmps129
     go_wp2_with fail
     refine (HN.out _).mono ?_
     rintro e w' ⟨rfl, rfl⟩
     go_wp2
     go_ret
     exact ⟨congrArg (fun b => Ending.returned (.bool b)) E.out.symm, hbA _⟩
    ·rw [hn] at HN
     have E := Lib.hid (show aZ ⟨6, nm, by_, cr, bl, cl⟩ = false by simp [aZ, hN, hM, hn] <;> rfl)
     go_enter Tryz.func129, Tryz.ntmps129
     go_wp2_with fail
     refine (HN.out _).mono ?_
     rintro e w' ⟨rfl, rfl⟩
     go_wp2
     go_ret
     exact ⟨congrArg (fun b => Ending.returned (.bool b)) E.out.symm, hbA _⟩
   have q6 : (op == 6) = false := by rw [beq_eq_false_iff_ne]; exact h6
   have E := Lib.hid (show aZ ⟨op, nm, by_, cr, bl, cl⟩ = false by simp [aZ, h1, h2, h3, h4, h5, h6])
   go_enter Tryz.func129, Tryz.ntmps129
   go_wp2
   go_ret
   exact ⟨congrArg (fun b => Ending.returned (.bool b)) E.out.symm, hbA _⟩
 ·have zby : (by_ != 0) = true := by simpa using gby
  have hN : ∀ (o : Int) (n : ByteArray), gH ⟨o, n, by_, cr, bl, cl⟩ = false := fun _ _ => by unfold gH; exact decide_eq_false gnm
  have hM : ∀ (o : Int) (n : ByteArray), dB ⟨o, n, by_, cr, bl, cl⟩ = true := fun _ _ => by simp [dB, gby]
  clear gnm gby
  by_cases h1 : op = 1
  ·subst h1
   by_cases hz : nm.size = 0
   ·obtain rfl := bD hz
    have E := Lib.hid (show aZ ⟨1, ⟨#[]⟩, by_, cr, bl, cl⟩ = false by simp [aZ, hN, hM, hz] <;> rfl)
    go_enter Tryz.func129, Tryz.ntmps129
    go_wp2
    go_ret
    exact ⟨congrArg (fun b => Ending.returned (.bool b)) E.out.symm, hbA _⟩
   ·have hp : 0 < nm.size := by omega
    have hne2 := bg hp
    have hne := av hp
    have E := Lib.hid (show aZ ⟨1, nm, by_, cr, bl, cl⟩ = false by simp [aZ, hN, hM, hz] <;> rfl)
    go_enter Tryz.func129, Tryz.ntmps129
    go_wp2
    go_ret
    exact ⟨congrArg (fun b => Ending.returned (.bool b)) E.out.symm, hbA _⟩
  have q1 : (op == 1) = false := by rw [beq_eq_false_iff_ne]; exact h1
  by_cases h2 : op = 2
  ·subst h2
   by_cases hz : nm.size = 0
   ·obtain rfl := bD hz
    have HS1 := Lib.hid (fun W => iw by_ W)
    have HS2 := Lib.hid (fun W => iw cr W)
    cases hs1 : small by_
    ·rw [hs1] at HS1
     have E := Lib.hid (show aZ ⟨2, ⟨#[]⟩, by_, cr, bl, cl⟩ = false by simp [aZ, hN, hs1] <;> rfl)
     go_enter Tryz.func129, Tryz.ntmps129
     go_wp2_with fail
     refine (HS1.out _).mono ?_
     rintro e w' ⟨rfl, rfl⟩
     go_wp2
     go_ret
     exact ⟨congrArg (fun b => Ending.returned (.bool b)) E.out.symm, hbA _⟩
    ·rw [hs1] at HS1
     cases hs2 : small cr
     ·rw [hs2] at HS2
      have E := Lib.hid (show aZ ⟨2, ⟨#[]⟩, by_, cr, bl, cl⟩ = false by simp [aZ, hN, hs1, hs2] <;> rfl)
      go_enter Tryz.func129, Tryz.ntmps129
      go_wp2_with fail
      refine (HS1.out _).mono ?_
      rintro e w' ⟨rfl, rfl⟩
      go_wp2_with fail
      refine (HS2.out _).mono ?_
      rintro e w' ⟨rfl, rfl⟩
      go_wp2
      go_ret
      exact ⟨congrArg (fun b => Ending.returned (.bool b)) E.out.symm, hbA _⟩
     ·rw [hs2] at HS2
      have E := Lib.hid (show aZ ⟨2, ⟨#[]⟩, by_, cr, bl, cl⟩ = true by simp [aZ, hN, hs1, hs2] <;> rfl)
      go_enter Tryz.func129, Tryz.ntmps129
      go_wp2_with fail
      refine (HS1.out _).mono ?_
      rintro e w' ⟨rfl, rfl⟩
      go_wp2_with fail
      refine (HS2.out _).mono ?_
      rintro e w' ⟨rfl, rfl⟩
      go_wp2
      go_ret
      exact ⟨congrArg (fun b => Ending.returned (.bool b)) E.out.symm, hbA _⟩
   ·have hp : 0 < nm.size := by omega
    have hne2 := bg hp
    have hne := av hp
    have E := Lib.hid (show aZ ⟨2, nm, by_, cr, bl, cl⟩ = false by simp [aZ, hN, hz] <;> rfl)
    go_enter Tryz.func129, Tryz.ntmps129
    go_wp2
    go_ret
    exact ⟨congrArg (fun b => Ending.returned (.bool b)) E.out.symm, hbA _⟩
  have q2 : (op == 2) = false := by rw [beq_eq_false_iff_ne]; exact h2
  by_cases h3 : op = 3
  ·subst h3
   by_cases hz : nm.size = 0
   ·obtain rfl := bD hz
    have E := Lib.hid (show aZ ⟨3, ⟨#[]⟩, by_, cr, bl, cl⟩ = false by simp [aZ, hN, hM, hz] <;> rfl)
    go_enter Tryz.func129, Tryz.ntmps129
    go_wp2
    go_ret
    exact ⟨congrArg (fun b => Ending.returned (.bool b)) E.out.symm, hbA _⟩
   ·have hp : 0 < nm.size := by omega
    have hne2 := bg hp
    have hne := av hp
    have E := Lib.hid (show aZ ⟨3, nm, by_, cr, bl, cl⟩ = false by simp [aZ, hN, hM, hz] <;> rfl)
    go_enter Tryz.func129, Tryz.ntmps129
    go_wp2
    go_ret
    exact ⟨congrArg (fun b => Ending.returned (.bool b)) E.out.symm, hbA _⟩
  have q3 : (op == 3) = false := by rw [beq_eq_false_iff_ne]; exact h3
  by_cases h4 : op = 4
  ·subst h4
   have HN := Lib.hid (fun W => cK nm W)
   cases hn : aP nm
   ·rw [hn] at HN
    have E := Lib.hid (show aZ ⟨4, nm, by_, cr, bl, cl⟩ = false by simp [aZ, hN, hM, hn] <;> rfl)
    go_enter Tryz.func129, Tryz.ntmps129
    go_wp2_with fail
    refine (HN.out _).mono ?_
    rintro e w' ⟨rfl, rfl⟩
    go_wp2
    go_ret
    exact ⟨congrArg (fun b => Ending.returned (.bool b)) E.out.symm, hbA _⟩
   ·rw [hn] at HN
    have E := Lib.hid (show aZ ⟨4, nm, by_, cr, bl, cl⟩ = false by simp [aZ, hN, hM, hn] <;> rfl)
    go_enter Tryz.func129, Tryz.ntmps129
    go_wp2_with fail
    refine (HN.out _).mono ?_
    rintro e w' ⟨rfl, rfl⟩
    go_wp2
    go_ret
    exact ⟨congrArg (fun b => Ending.returned (.bool b)) E.out.symm, hbA _⟩
  have q4 : (op == 4) = false := by rw [beq_eq_false_iff_ne]; exact h4
  by_cases h5 : op = 5
  ·subst h5
   have HN := Lib.hid (fun W => cK nm W)
   cases hn : aP nm
   ·rw [hn] at HN
    have E := Lib.hid (show aZ ⟨5, nm, by_, cr, bl, cl⟩ = false by simp [aZ, hN, hM, hn] <;> rfl)
    go_enter Tryz.func129, Tryz.ntmps129
    go_wp2_with fail
    refine (HN.out _).mono ?_
    rintro e w' ⟨rfl, rfl⟩
    go_wp2
    go_ret
    exact ⟨congrArg (fun b => Ending.returned (.bool b)) E.out.symm, hbA _⟩
   ·rw [hn] at HN
    have E := Lib.hid (show aZ ⟨5, nm, by_, cr, bl, cl⟩ = false by simp [aZ, hN, hM, hn] <;> rfl)
    go_enter Tryz.func129, Tryz.ntmps129
    go_wp2_with fail
    refine (HN.out _).mono ?_
    rintro e w' ⟨rfl, rfl⟩
    go_wp2
    go_ret
    exact ⟨congrArg (fun b => Ending.returned (.bool b)) E.out.symm, hbA _⟩
  have q5 : (op == 5) = false := by rw [beq_eq_false_iff_ne]; exact h5
  by_cases h6 : op = 6
  ·subst h6
   have HN := Lib.hid (fun W => cK nm W)
   cases hn : aP nm
   ·rw [hn] at HN
    have E := Lib.hid (show aZ ⟨6, nm, by_, cr, bl, cl⟩ = false by simp [aZ, hN, hM, hn] <;> rfl)
    go_enter Tryz.func129, Tryz.ntmps129
    go_wp2_with fail
    refine (HN.out _).mono ?_
    rintro e w' ⟨rfl, rfl⟩
    go_wp2
    go_ret
    exact ⟨congrArg (fun b => Ending.returned (.bool b)) E.out.symm, hbA _⟩
   ·rw [hn] at HN
    have E := Lib.hid (show aZ ⟨6, nm, by_, cr, bl, cl⟩ = false by simp [aZ, hN, hM, hn] <;> rfl)
    go_enter Tryz.func129, Tryz.ntmps129
    go_wp2_with fail
    refine (HN.out _).mono ?_
    rintro e w' ⟨rfl, rfl⟩
    go_wp2
    go_ret
    exact ⟨congrArg (fun b => Ending.returned (.bool b)) E.out.symm, hbA _⟩
  have q6 : (op == 6) = false := by rw [beq_eq_false_iff_ne]; exact h6
  have E := Lib.hid (show aZ ⟨op, nm, by_, cr, bl, cl⟩ = false by simp [aZ, h1, h2, h3, h4, h5, h6])
  go_enter Tryz.func129, Tryz.ntmps129
  go_wp2
  go_ret
  exact ⟨congrArg (fun b => Ending.returned (.bool b)) E.out.symm, hbA _⟩
theorem Aq (f : Ft) (v : Value) (w : World) (S : Nat → Prop) (hf : lK w S f v) (hS : ∀ g, S g → g < w.heap.size) (hlim : f.aH.length + f.ax.length ≤ 1000000000000) :
  Calls Tryz.prog 129 #[v] w fun e w' => e = .returned (.bool (aZ f)) ∧ Below w.heap.size w w' := by
 by_cases h : 0 < f.aH.length + f.ax.length
 ·exact Eb f v w S hf hS hlim h
 ·exact Ea f v w S hf hS hlim h
end Go.Proofs.YtbmglebipepdmaaGreatDoor
