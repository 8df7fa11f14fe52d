/- The contracts of the program's tests of names, faults and zero terms. -/
import Derived.Test.YtipicaoinnblpaaGreatDoorPkVala
namespace Go.Proofs.YtipicaoinnblpaaGreatDoor
open Go.RowKit

theorem size_zero {s : ByteArray} (h : s.size = 0) : s = ⟨#[]⟩ := by
 have : s.data.toList = [] := List.length_eq_zero_iff.1 (by simpa using h)
 rw [← bs_of s, this]; rfl
set_option maxHeartbeats 1000000 in
theorem name_test (w : World) (l : List ByteArray) : Tests (fun _ x v => v = .string x) w 139 l (fun n => !okName n) := by
 rintro x - v W rfl -
 have HS := Lib.hid (isName_any x W)
 go_enter Tryz.func139, Tryz.ntmps139
 go_wp2_with fail
 refine HS.out.mono ?_
 rintro e w' ⟨rfl, rfl⟩
 go_wp2
 go_ret
 exact ⟨rfl, Below.refl _ _⟩
set_option maxHeartbeats 1000000 in
theorem validNames_any (l : List ByteArray) (S : Nat → Prop) (A : Option Addr) (c : Nat) (w : World) (hl : SeesIn w S 1 A l.length (l.map Value.string)) (hS : ∀ g, S g → g < w.heap.size) (hlim : l.length ≤ 1000000000000) :
  Calls Tryz.prog 96 #[.slice A l.length c] w fun e w' => e = .returned (.bool (okNames l)) ∧ Below w.heap.size w w' := by
 have HC := Lib.hid (contains_str l S A c w hl hS hlim 139 (enters_of Tryz.func139 (by kernel_rfl) rfl) _ (name_test w l))
 have E := Lib.hid (show okNames l = !l.any (fun n => !okName n) by unfold okNames; rw [List.not_any_eq_all_not]; simp)
 clear hl
 go_enter Tryz.func96, Tryz.ntmps96
 go_wp2_with fail
 refine HC.out.mono ?_
 rintro e w' ⟨rfl, hb⟩
 go_wp2
 go_ret
 exact ⟨congrArg (fun b => Ending.returned (.bool b)) E.out.symm, hb⟩

set_option maxHeartbeats 1000000 in
theorem fields_any (k : Int) (w : World) : Calls Tryz.prog 95 #[.int .i64 k] w fun e w' => e = .returned (.int .i64 (kindFields k)) ∧ w = w' := by
 by_cases h1 : k = 1
 ·subst h1
  go_enter Tryz.func95, Tryz.ntmps95
  go_wp2
  go_ret
  exact ⟨rfl, rfl⟩
 have q1 : (k == 1) = false := by rw [beq_eq_false_iff_ne]; exact h1
 by_cases h2 : k = 2
 ·subst h2
  go_enter Tryz.func95, Tryz.ntmps95
  go_wp2
  go_ret
  exact ⟨rfl, rfl⟩
 have q2 : (k == 2) = false := by rw [beq_eq_false_iff_ne]; exact h2
 by_cases h3 : k = 3
 ·subst h3
  go_enter Tryz.func95, Tryz.ntmps95
  go_wp2
  go_ret
  exact ⟨rfl, rfl⟩
 have q3 : (k == 3) = false := by rw [beq_eq_false_iff_ne]; exact h3
 by_cases h4 : k = 4
 ·subst h4
  go_enter Tryz.func95, Tryz.ntmps95
  go_wp2
  go_ret
  exact ⟨rfl, rfl⟩
 have q4 : (k == 4) = false := by rw [beq_eq_false_iff_ne]; exact h4
 by_cases h5 : k = 5
 ·subst h5
  go_enter Tryz.func95, Tryz.ntmps95
  go_wp2
  go_ret
  exact ⟨rfl, rfl⟩
 have q5 : (k == 5) = false := by rw [beq_eq_false_iff_ne]; exact h5
 by_cases h7 : k = 7
 ·subst h7
  go_enter Tryz.func95, Tryz.ntmps95
  go_wp2
  go_ret
  exact ⟨rfl, rfl⟩
 have q7 : (k == 7) = false := by rw [beq_eq_false_iff_ne]; exact h7
 by_cases h6 : k = 6
 ·subst h6
  go_enter Tryz.func95, Tryz.ntmps95
  go_wp2
  go_ret
  exact ⟨rfl, rfl⟩
 have q6 : (k == 6) = false := by rw [beq_eq_false_iff_ne]; exact h6
 have E := Lib.hid (show kindFields k = 0 by simp [kindFields, h1, h2, h3, h4, h5, h6, h7])
 go_enter Tryz.func95, Tryz.ntmps95
 go_wp2
 go_ret
 exact ⟨by rw [E.out]; rfl, rfl⟩

set_option maxHeartbeats 1000000 in
theorem zero_any (t : Tm) (v : Value) (w : World) (S : Nat → Prop) (ht : TmAt w S t v) (hsz : tmSize t ≤ 1000000000000) :
  Calls Tryz.prog 100 #[v] w fun e w' => e = .returned (.bool (blank t)) ∧ Below w.heap.size w w' := by
 have hkl := tm_kids_length t
 cases ht with
 | mk op nm need ws kids wA kA cw kc vs hw hwc hk hkc hl h =>
  have hkl : kids.length + ws.length < tmSize (.mk op nm need ws kids) := hkl
  have hbA : ∀ o, Below w.heap.size w (w.alloc o) := fun o => (Below.refl _ _).alloc (Nat.le_refl _) o
  have HB := Lib.hid (fun W => bare_any op need nm wA kA ws.length cw kids.length kc W (by omega) (by omega))
  have e : blank (.mk op nm need ws kids) = (decide (op = 0) && decide (nm.size = 0) && (decide (need = 0) && decide (ws.length + kids.length = 0))) := rfl
  have E := Lib.hid e
  clear e
  generalize (decide (need = 0) && decide (ws.length + kids.length = 0)) = bq at HB E
  clear hw hk hl h
  by_cases h0 : op = 0
  ·subst h0
   by_cases hz : nm.size = 0
   ·obtain rfl := size_zero hz
    go_enter Tryz.func100, Tryz.ntmps100
    go_wp2_with fail
    refine (HB.out _).mono ?_
    rintro e w' ⟨rfl, hb2⟩
    go_wp2
    go_ret
    exact ⟨congrArg (fun b => Ending.returned (.bool b)) (by rw [E.out]; rfl), (hbA _).trans (hb2.mono (by simp))⟩
   ·have hp : 0 < nm.size := by omega
    have hne2 := toList_ne hp
    have hne := toList_isEmpty hp
    go_enter Tryz.func100, Tryz.ntmps100
    go_wp2
    go_ret
    exact ⟨congrArg (fun b => Ending.returned (.bool b)) (by rw [E.out]; simp [hz]), hbA _⟩
  ·have q0 : (op == 0) = false := by rw [beq_eq_false_iff_ne]; exact h0
   have E2 := Lib.hid (show (decide (op = 0) && decide (nm.size = 0) && bq) = false by simp [h0])
   clear h0
   go_enter Tryz.func100, Tryz.ntmps100
   go_wp2
   go_ret
   exact ⟨congrArg (fun b => Ending.returned (.bool b)) (by rw [E.out, E2.out]), hbA _⟩

set_option maxRecDepth 100000 in
set_option maxHeartbeats 20000000 in
theorem validFault_a (f : Ft) (v : Value) (w : World) (S : Nat → Prop) (hf : FtAt w S f v) (hS : ∀ g, S g → g < w.heap.size) (hlim : f.byzNames.length + f.crashNames.length ≤ 1000000000000) (gnm : 0 < f.byzNames.length + f.crashNames.length) :
  Calls Tryz.prog 99 #[v] w fun e w' => e = .returned (.bool (okFt f)) ∧ Below w.heap.size w w' := by
 obtain ⟨op, nm, by_, cr, bl, cl⟩ := f
 obtain ⟨bA, bc, cA, cc, rfl, hsb, hlb, hsc, hlc⟩ := hf
 simp only at hsb hlb hsc hlc hlim gnm
 have hbA : ∀ o, Below w.heap.size w (w.alloc o) := fun o => (Below.refl _ _).alloc (Nat.le_refl _) o
 have znm : (0 : Int) < (bl.length : Int) + (cl.length : Int) := by omega
 by_cases gby : by_ = 0
 ·have zby : (by_ != 0) = false := by rw [gby]; rfl
  by_cases gcr : cr = 0
  ·have zcr : (cr != 0) = false := by rw [gcr]; rfl
   have hN : ∀ (o : Int) (n : ByteArray), ftNamed ⟨o, n, by_, cr, bl, cl⟩ = true := fun _ _ => by unfold ftNamed; exact decide_eq_true gnm
   have hM : ∀ (o : Int) (n : ByteArray), ftNumbered ⟨o, n, by_, cr, bl, cl⟩ = false := fun _ _ => by simp [ftNumbered, gby, gcr]
   clear gnm gby gcr
   by_cases h1 : op = 1
   ·subst h1
    by_cases hz : nm.size = 0
    ·obtain rfl := size_zero hz
     have E := Lib.hid (show okFt ⟨1, ⟨#[]⟩, by_, cr, bl, cl⟩ = false by simp [okFt, hN, hM, hz] <;> rfl)
     go_enter Tryz.func99, Tryz.ntmps99
     go_wp2
     go_ret
     exact ⟨congrArg (fun b => Ending.returned (.bool b)) E.out.symm, hbA _⟩
    ·have hp : 0 < nm.size := by omega
     have hne2 := toList_ne hp
     have hne := toList_isEmpty hp
     have E := Lib.hid (show okFt ⟨1, nm, by_, cr, bl, cl⟩ = false by simp [okFt, hN, hM, hz] <;> rfl)
     go_enter Tryz.func99, Tryz.ntmps99
     go_wp2
     go_ret
     exact ⟨congrArg (fun b => Ending.returned (.bool b)) E.out.symm, hbA _⟩
   have q1 : (op == 1) = false := by rw [beq_eq_false_iff_ne]; exact h1
   by_cases h2 : op = 2
   ·subst h2
    by_cases hz : nm.size = 0
    ·obtain rfl := size_zero hz
     have HS1 := Lib.hid (fun W => small_any by_ W)
     have HS2 := Lib.hid (fun W => small_any cr W)
     cases hs1 : small by_
     ·rw [hs1] at HS1
      have E := Lib.hid (show okFt ⟨2, ⟨#[]⟩, by_, cr, bl, cl⟩ = false by simp [okFt, hN, hs1] <;> rfl)
      go_enter Tryz.func99, Tryz.ntmps99
      go_wp2_with fail
      refine (HS1.out _).mono ?_
      rintro e w' ⟨rfl, rfl⟩
      go_wp2
      go_ret
      exact ⟨congrArg (fun b => Ending.returned (.bool b)) E.out.symm, hbA _⟩
     ·rw [hs1] at HS1
      cases hs2 : small cr
      ·rw [hs2] at HS2
       have E := Lib.hid (show okFt ⟨2, ⟨#[]⟩, by_, cr, bl, cl⟩ = false by simp [okFt, hN, hs1, hs2] <;> rfl)
       go_enter Tryz.func99, Tryz.ntmps99
       go_wp2_with fail
       refine (HS1.out _).mono ?_
       rintro e w' ⟨rfl, rfl⟩
       go_wp2_with fail
       refine (HS2.out _).mono ?_
       rintro e w' ⟨rfl, rfl⟩
       go_wp2
       go_ret
       exact ⟨congrArg (fun b => Ending.returned (.bool b)) E.out.symm, hbA _⟩
      ·rw [hs2] at HS2
       have E := Lib.hid (show okFt ⟨2, ⟨#[]⟩, by_, cr, bl, cl⟩ = false by simp [okFt, hN, hs1, hs2] <;> rfl)
       go_enter Tryz.func99, Tryz.ntmps99
       go_wp2_with fail
       refine (HS1.out _).mono ?_
       rintro e w' ⟨rfl, rfl⟩
       go_wp2_with fail
       refine (HS2.out _).mono ?_
       rintro e w' ⟨rfl, rfl⟩
       go_wp2
       go_ret
       exact ⟨congrArg (fun b => Ending.returned (.bool b)) E.out.symm, hbA _⟩
    ·have hp : 0 < nm.size := by omega
     have hne2 := toList_ne hp
     have hne := toList_isEmpty hp
     have E := Lib.hid (show okFt ⟨2, nm, by_, cr, bl, cl⟩ = false by simp [okFt, hN, hz] <;> rfl)
     go_enter Tryz.func99, Tryz.ntmps99
     go_wp2
     go_ret
     exact ⟨congrArg (fun b => Ending.returned (.bool b)) E.out.symm, hbA _⟩
   have q2 : (op == 2) = false := by rw [beq_eq_false_iff_ne]; exact h2
   by_cases h3 : op = 3
   ·subst h3
    by_cases hz : nm.size = 0
    ·obtain rfl := size_zero hz
     have HV1 := Lib.hid (fun o => validNames_any bl S bA bc (w.alloc o) (hsb.keep (kept_all (hbA o))) (fun g hg => by have := hS g hg; simp; omega) (by omega))
     have HV2 := Lib.hid (fun (W1 : World) (hb1 : Below (w.heap.size + 1) (w.alloc (.cells #[.int .i64 3, .string ⟨#[]⟩, .int .i64 by_, .int .i64 cr, .slice bA bl.length bc, .slice cA cl.length cc] 97)) W1) => validNames_any cl S cA cc W1 ((hsc.keep (kept_all (hbA _))).keep (kept_of (w := w.alloc _) (by simpa using hb1) (fun g hg => by have := hS g hg; simp; omega))) (fun g hg => by have := hS g hg; have := hb1.size; simp at this; omega) (by omega))
     have BOX := Lib.hid (fun (W1 : World) (hb1 : Below (w.heap.size + 1) (w.alloc (.cells #[.int .i64 3, .string ⟨#[]⟩, .int .i64 by_, .int .i64 cr, .slice bA bl.length bc, .slice cA cl.length cc] 97)) W1) => show W1.cell? ⟨w.heap.size, 5, none⟩ = some (.slice cA cl.length cc) from (cell_of_row W1 _ 5 _ _ _ ((hb1.block _ (by omega)).trans (heap_alloc_new w _))).trans rfl)
     cases hv1 : okNames bl
     ·rw [hv1] at HV1
      have E := Lib.hid (show okFt ⟨3, ⟨#[]⟩, by_, cr, bl, cl⟩ = false by simp [okFt, hN, hM, hv1] <;> rfl)
      go_enter Tryz.func99, Tryz.ntmps99
      go_wp2_with fail
      refine (HV1.out _).mono ?_
      rintro e W1 ⟨rfl, hb1⟩
      go_wp2
      go_ret
      exact ⟨congrArg (fun b => Ending.returned (.bool b)) E.out.symm, (hbA _).trans (hb1.mono (by simp))⟩
     ·rw [hv1] at HV1
      cases hv2 : okNames cl
      ·rw [hv2] at HV2
       have E := Lib.hid (show okFt ⟨3, ⟨#[]⟩, by_, cr, bl, cl⟩ = false by simp [okFt, hN, hM, hv1, hv2] <;> rfl)
       go_enter Tryz.func99, Tryz.ntmps99
       go_wp2_with fail
       refine (HV1.out _).mono ?_
       rintro e W1 ⟨rfl, hb1⟩
       have c5 := BOX.out W1 (by simpa using hb1)
       go_wp2_with fail
       refine (HV2.out W1 (by simpa using hb1)).mono ?_
       rintro e W2 ⟨rfl, hb2⟩
       go_wp2
       go_ret
       exact ⟨congrArg (fun b => Ending.returned (.bool b)) E.out.symm, ((hbA _).trans (hb1.mono (by simp))).trans (hb2.mono (by have := hb1.size; simp at this; omega))⟩
      ·rw [hv2] at HV2
       have E := Lib.hid (show okFt ⟨3, ⟨#[]⟩, by_, cr, bl, cl⟩ = true by simp [okFt, hN, hM, hv1, hv2] <;> rfl)
       go_enter Tryz.func99, Tryz.ntmps99
       go_wp2_with fail
       refine (HV1.out _).mono ?_
       rintro e W1 ⟨rfl, hb1⟩
       have c5 := BOX.out W1 (by simpa using hb1)
       go_wp2_with fail
       refine (HV2.out W1 (by simpa using hb1)).mono ?_
       rintro e W2 ⟨rfl, hb2⟩
       go_wp2
       go_ret
       exact ⟨congrArg (fun b => Ending.returned (.bool b)) E.out.symm, ((hbA _).trans (hb1.mono (by simp))).trans (hb2.mono (by have := hb1.size; simp at this; omega))⟩
    ·have hp : 0 < nm.size := by omega
     have hne2 := toList_ne hp
     have hne := toList_isEmpty hp
     have E := Lib.hid (show okFt ⟨3, nm, by_, cr, bl, cl⟩ = false by simp [okFt, hN, hM, hz] <;> rfl)
     go_enter Tryz.func99, Tryz.ntmps99
     go_wp2
     go_ret
     exact ⟨congrArg (fun b => Ending.returned (.bool b)) E.out.symm, hbA _⟩
   have q3 : (op == 3) = false := by rw [beq_eq_false_iff_ne]; exact h3
   by_cases h4 : op = 4
   ·subst h4
    have HN := Lib.hid (fun W => isName_any nm W)
    cases hn : okName nm
    ·rw [hn] at HN
     have E := Lib.hid (show okFt ⟨4, nm, by_, cr, bl, cl⟩ = false by simp [okFt, hN, hM, hn] <;> rfl)
     go_enter Tryz.func99, Tryz.ntmps99
     go_wp2_with fail
     refine (HN.out _).mono ?_
     rintro e w' ⟨rfl, rfl⟩
     go_wp2
     go_ret
     exact ⟨congrArg (fun b => Ending.returned (.bool b)) E.out.symm, hbA _⟩
    ·rw [hn] at HN
     have E := Lib.hid (show okFt ⟨4, nm, by_, cr, bl, cl⟩ = false by simp [okFt, hN, hM, hn] <;> rfl)
     go_enter Tryz.func99, Tryz.ntmps99
     go_wp2_with fail
     refine (HN.out _).mono ?_
     rintro e w' ⟨rfl, rfl⟩
     go_wp2
     go_ret
     exact ⟨congrArg (fun b => Ending.returned (.bool b)) E.out.symm, hbA _⟩
   have q4 : (op == 4) = false := by rw [beq_eq_false_iff_ne]; exact h4
   by_cases h5 : op = 5
   ·subst h5
    have HN := Lib.hid (fun W => isName_any nm W)
    cases hn : okName nm
    ·rw [hn] at HN
     have E := Lib.hid (show okFt ⟨5, nm, by_, cr, bl, cl⟩ = false by simp [okFt, hN, hM, hn] <;> rfl)
     go_enter Tryz.func99, Tryz.ntmps99
     go_wp2_with fail
     refine (HN.out _).mono ?_
     rintro e w' ⟨rfl, rfl⟩
     go_wp2
     go_ret
     exact ⟨congrArg (fun b => Ending.returned (.bool b)) E.out.symm, hbA _⟩
    ·rw [hn] at HN
     have E := Lib.hid (show okFt ⟨5, nm, by_, cr, bl, cl⟩ = false by simp [okFt, hN, hM, hn] <;> rfl)
     go_enter Tryz.func99, Tryz.ntmps99
     go_wp2_with fail
     refine (HN.out _).mono ?_
     rintro e w' ⟨rfl, rfl⟩
     go_wp2
     go_ret
     exact ⟨congrArg (fun b => Ending.returned (.bool b)) E.out.symm, hbA _⟩
   have q5 : (op == 5) = false := by rw [beq_eq_false_iff_ne]; exact h5
   by_cases h6 : op = 6
   ·subst h6
    have HN := Lib.hid (fun W => isName_any nm W)
    cases hn : okName nm
    ·rw [hn] at HN
     have E := Lib.hid (show okFt ⟨6, nm, by_, cr, bl, cl⟩ = false by simp [okFt, hN, hM, hn] <;> rfl)
     go_enter Tryz.func99, Tryz.ntmps99
     go_wp2_with fail
     refine (HN.out _).mono ?_
     rintro e w' ⟨rfl, rfl⟩
     go_wp2
     go_ret
     exact ⟨congrArg (fun b => Ending.returned (.bool b)) E.out.symm, hbA _⟩
    ·rw [hn] at HN
     have E := Lib.hid (show okFt ⟨6, nm, by_, cr, bl, cl⟩ = false by simp [okFt, hN, hM, hn] <;> rfl)
     go_enter Tryz.func99, Tryz.ntmps99
     go_wp2_with fail
     refine (HN.out _).mono ?_
     rintro e w' ⟨rfl, rfl⟩
     go_wp2
     go_ret
     exact ⟨congrArg (fun b => Ending.returned (.bool b)) E.out.symm, hbA _⟩
   have q6 : (op == 6) = false := by rw [beq_eq_false_iff_ne]; exact h6
   have E := Lib.hid (show okFt ⟨op, nm, by_, cr, bl, cl⟩ = false by simp [okFt, h1, h2, h3, h4, h5, h6])
   go_enter Tryz.func99, Tryz.ntmps99
   go_wp2
   go_ret
   exact ⟨congrArg (fun b => Ending.returned (.bool b)) E.out.symm, hbA _⟩
  ·have zcr : (cr != 0) = true := by simpa using gcr
   have hN : ∀ (o : Int) (n : ByteArray), ftNamed ⟨o, n, by_, cr, bl, cl⟩ = true := fun _ _ => by unfold ftNamed; exact decide_eq_true gnm
   have hM : ∀ (o : Int) (n : ByteArray), ftNumbered ⟨o, n, by_, cr, bl, cl⟩ = true := fun _ _ => by simp [ftNumbered, gby, gcr]
   clear gnm gby gcr
   by_cases h1 : op = 1
   ·subst h1
    by_cases hz : nm.size = 0
    ·obtain rfl := size_zero hz
     have E := Lib.hid (show okFt ⟨1, ⟨#[]⟩, by_, cr, bl, cl⟩ = false by simp [okFt, hN, hM, hz] <;> rfl)
     go_enter Tryz.func99, Tryz.ntmps99
     go_wp2
     go_ret
     exact ⟨congrArg (fun b => Ending.returned (.bool b)) E.out.symm, hbA _⟩
    ·have hp : 0 < nm.size := by omega
     have hne2 := toList_ne hp
     have hne := toList_isEmpty hp
     have E := Lib.hid (show okFt ⟨1, nm, by_, cr, bl, cl⟩ = false by simp [okFt, hN, hM, hz] <;> rfl)
     go_enter Tryz.func99, Tryz.ntmps99
     go_wp2
     go_ret
     exact ⟨congrArg (fun b => Ending.returned (.bool b)) E.out.symm, hbA _⟩
   have q1 : (op == 1) = false := by rw [beq_eq_false_iff_ne]; exact h1
   by_cases h2 : op = 2
   ·subst h2
    by_cases hz : nm.size = 0
    ·obtain rfl := size_zero hz
     have HS1 := Lib.hid (fun W => small_any by_ W)
     have HS2 := Lib.hid (fun W => small_any cr W)
     cases hs1 : small by_
     ·rw [hs1] at HS1
      have E := Lib.hid (show okFt ⟨2, ⟨#[]⟩, by_, cr, bl, cl⟩ = false by simp [okFt, hN, hs1] <;> rfl)
      go_enter Tryz.func99, Tryz.ntmps99
      go_wp2_with fail
      refine (HS1.out _).mono ?_
      rintro e w' ⟨rfl, rfl⟩
      go_wp2
      go_ret
      exact ⟨congrArg (fun b => Ending.returned (.bool b)) E.out.symm, hbA _⟩
     ·rw [hs1] at HS1
      cases hs2 : small cr
      ·rw [hs2] at HS2
       have E := Lib.hid (show okFt ⟨2, ⟨#[]⟩, by_, cr, bl, cl⟩ = false by simp [okFt, hN, hs1, hs2] <;> rfl)
       go_enter Tryz.func99, Tryz.ntmps99
       go_wp2_with fail
       refine (HS1.out _).mono ?_
       rintro e w' ⟨rfl, rfl⟩
       go_wp2_with fail
       refine (HS2.out _).mono ?_
       rintro e w' ⟨rfl, rfl⟩
       go_wp2
       go_ret
       exact ⟨congrArg (fun b => Ending.returned (.bool b)) E.out.symm, hbA _⟩
      ·rw [hs2] at HS2
       have E := Lib.hid (show okFt ⟨2, ⟨#[]⟩, by_, cr, bl, cl⟩ = false by simp [okFt, hN, hs1, hs2] <;> rfl)
       go_enter Tryz.func99, Tryz.ntmps99
       go_wp2_with fail
       refine (HS1.out _).mono ?_
       rintro e w' ⟨rfl, rfl⟩
       go_wp2_with fail
       refine (HS2.out _).mono ?_
       rintro e w' ⟨rfl, rfl⟩
       go_wp2
       go_ret
       exact ⟨congrArg (fun b => Ending.returned (.bool b)) E.out.symm, hbA _⟩
    ·have hp : 0 < nm.size := by omega
     have hne2 := toList_ne hp
     have hne := toList_isEmpty hp
     have E := Lib.hid (show okFt ⟨2, nm, by_, cr, bl, cl⟩ = false by simp [okFt, hN, hz] <;> rfl)
     go_enter Tryz.func99, Tryz.ntmps99
     go_wp2
     go_ret
     exact ⟨congrArg (fun b => Ending.returned (.bool b)) E.out.symm, hbA _⟩
   have q2 : (op == 2) = false := by rw [beq_eq_false_iff_ne]; exact h2
   by_cases h3 : op = 3
   ·subst h3
    by_cases hz : nm.size = 0
    ·obtain rfl := size_zero hz
     have E := Lib.hid (show okFt ⟨3, ⟨#[]⟩, by_, cr, bl, cl⟩ = false by simp [okFt, hN, hM, hz] <;> rfl)
     go_enter Tryz.func99, Tryz.ntmps99
     go_wp2
     go_ret
     exact ⟨congrArg (fun b => Ending.returned (.bool b)) E.out.symm, hbA _⟩
    ·have hp : 0 < nm.size := by omega
     have hne2 := toList_ne hp
     have hne := toList_isEmpty hp
     have E := Lib.hid (show okFt ⟨3, nm, by_, cr, bl, cl⟩ = false by simp [okFt, hN, hM, hz] <;> rfl)
     go_enter Tryz.func99, Tryz.ntmps99
     go_wp2
     go_ret
     exact ⟨congrArg (fun b => Ending.returned (.bool b)) E.out.symm, hbA _⟩
   have q3 : (op == 3) = false := by rw [beq_eq_false_iff_ne]; exact h3
   by_cases h4 : op = 4
   ·subst h4
    have HN := Lib.hid (fun W => isName_any nm W)
    cases hn : okName nm
    ·rw [hn] at HN
     have E := Lib.hid (show okFt ⟨4, nm, by_, cr, bl, cl⟩ = false by simp [okFt, hN, hM, hn] <;> rfl)
     go_enter Tryz.func99, Tryz.ntmps99
     go_wp2_with fail
     refine (HN.out _).mono ?_
     rintro e w' ⟨rfl, rfl⟩
     go_wp2
     go_ret
     exact ⟨congrArg (fun b => Ending.returned (.bool b)) E.out.symm, hbA _⟩
    ·rw [hn] at HN
     have E := Lib.hid (show okFt ⟨4, nm, by_, cr, bl, cl⟩ = false by simp [okFt, hN, hM, hn] <;> rfl)
     go_enter Tryz.func99, Tryz.ntmps99
     go_wp2_with fail
     refine (HN.out _).mono ?_
     rintro e w' ⟨rfl, rfl⟩
     go_wp2
     go_ret
     exact ⟨congrArg (fun b => Ending.returned (.bool b)) E.out.symm, hbA _⟩
   have q4 : (op == 4) = false := by rw [beq_eq_false_iff_ne]; exact h4
   by_cases h5 : op = 5
   ·subst h5
    have HN := Lib.hid (fun W => isName_any nm W)
    cases hn : okName nm
    ·rw [hn] at HN
     have E := Lib.hid (show okFt ⟨5, nm, by_, cr, bl, cl⟩ = false by simp [okFt, hN, hM, hn] <;> rfl)
     go_enter Tryz.func99, Tryz.ntmps99
     go_wp2_with fail
     refine (HN.out _).mono ?_
     rintro e w' ⟨rfl, rfl⟩
     go_wp2
     go_ret
     exact ⟨congrArg (fun b => Ending.returned (.bool b)) E.out.symm, hbA _⟩
    ·rw [hn] at HN
     have E := Lib.hid (show okFt ⟨5, nm, by_, cr, bl, cl⟩ = false by simp [okFt, hN, hM, hn] <;> rfl)
     go_enter Tryz.func99, Tryz.ntmps99
     go_wp2_with fail
     refine (HN.out _).mono ?_
     rintro e w' ⟨rfl, rfl⟩
     go_wp2
     go_ret
     exact ⟨congrArg (fun b => Ending.returned (.bool b)) E.out.symm, hbA _⟩
   have q5 : (op == 5) = false := by rw [beq_eq_false_iff_ne]; exact h5
   by_cases h6 : op = 6
   ·subst h6
    have HN := Lib.hid (fun W => isName_any nm W)
    cases hn : okName nm
    ·rw [hn] at HN
     have E := Lib.hid (show okFt ⟨6, nm, by_, cr, bl, cl⟩ = false by simp [okFt, hN, hM, hn] <;> rfl)
     go_enter Tryz.func99, Tryz.ntmps99
     go_wp2_with fail
     refine (HN.out _).mono ?_
     rintro e w' ⟨rfl, rfl⟩
     go_wp2
     go_ret
     exact ⟨congrArg (fun b => Ending.returned (.bool b)) E.out.symm, hbA _⟩
    ·rw [hn] at HN
     have E := Lib.hid (show okFt ⟨6, nm, by_, cr, bl, cl⟩ = false by simp [okFt, hN, hM, hn] <;> rfl)
     go_enter Tryz.func99, Tryz.ntmps99
     go_wp2_with fail
     refine (HN.out _).mono ?_
     rintro e w' ⟨rfl, rfl⟩
     go_wp2
     go_ret
     exact ⟨congrArg (fun b => Ending.returned (.bool b)) E.out.symm, hbA _⟩
   have q6 : (op == 6) = false := by rw [beq_eq_false_iff_ne]; exact h6
   have E := Lib.hid (show okFt ⟨op, nm, by_, cr, bl, cl⟩ = false by simp [okFt, h1, h2, h3, h4, h5, h6])
   go_enter Tryz.func99, Tryz.ntmps99
   go_wp2
   go_ret
   exact ⟨congrArg (fun b => Ending.returned (.bool b)) E.out.symm, hbA _⟩
 ·have zby : (by_ != 0) = true := by simpa using gby
  have hN : ∀ (o : Int) (n : ByteArray), ftNamed ⟨o, n, by_, cr, bl, cl⟩ = true := fun _ _ => by unfold ftNamed; exact decide_eq_true gnm
  have hM : ∀ (o : Int) (n : ByteArray), ftNumbered ⟨o, n, by_, cr, bl, cl⟩ = true := fun _ _ => by simp [ftNumbered, gby]
  clear gnm gby
  by_cases h1 : op = 1
  ·subst h1
   by_cases hz : nm.size = 0
   ·obtain rfl := size_zero hz
    have E := Lib.hid (show okFt ⟨1, ⟨#[]⟩, by_, cr, bl, cl⟩ = false by simp [okFt, hN, hM, hz] <;> rfl)
    go_enter Tryz.func99, Tryz.ntmps99
    go_wp2
    go_ret
    exact ⟨congrArg (fun b => Ending.returned (.bool b)) E.out.symm, hbA _⟩
   ·have hp : 0 < nm.size := by omega
    have hne2 := toList_ne hp
    have hne := toList_isEmpty hp
    have E := Lib.hid (show okFt ⟨1, nm, by_, cr, bl, cl⟩ = false by simp [okFt, hN, hM, hz] <;> rfl)
    go_enter Tryz.func99, Tryz.ntmps99
    go_wp2
    go_ret
    exact ⟨congrArg (fun b => Ending.returned (.bool b)) E.out.symm, hbA _⟩
  have q1 : (op == 1) = false := by rw [beq_eq_false_iff_ne]; exact h1
  by_cases h2 : op = 2
  ·subst h2
   by_cases hz : nm.size = 0
   ·obtain rfl := size_zero hz
    have HS1 := Lib.hid (fun W => small_any by_ W)
    have HS2 := Lib.hid (fun W => small_any cr W)
    cases hs1 : small by_
    ·rw [hs1] at HS1
     have E := Lib.hid (show okFt ⟨2, ⟨#[]⟩, by_, cr, bl, cl⟩ = false by simp [okFt, hN, hs1] <;> rfl)
     go_enter Tryz.func99, Tryz.ntmps99
     go_wp2_with fail
     refine (HS1.out _).mono ?_
     rintro e w' ⟨rfl, rfl⟩
     go_wp2
     go_ret
     exact ⟨congrArg (fun b => Ending.returned (.bool b)) E.out.symm, hbA _⟩
    ·rw [hs1] at HS1
     cases hs2 : small cr
     ·rw [hs2] at HS2
      have E := Lib.hid (show okFt ⟨2, ⟨#[]⟩, by_, cr, bl, cl⟩ = false by simp [okFt, hN, hs1, hs2] <;> rfl)
      go_enter Tryz.func99, Tryz.ntmps99
      go_wp2_with fail
      refine (HS1.out _).mono ?_
      rintro e w' ⟨rfl, rfl⟩
      go_wp2_with fail
      refine (HS2.out _).mono ?_
      rintro e w' ⟨rfl, rfl⟩
      go_wp2
      go_ret
      exact ⟨congrArg (fun b => Ending.returned (.bool b)) E.out.symm, hbA _⟩
     ·rw [hs2] at HS2
      have E := Lib.hid (show okFt ⟨2, ⟨#[]⟩, by_, cr, bl, cl⟩ = false by simp [okFt, hN, hs1, hs2] <;> rfl)
      go_enter Tryz.func99, Tryz.ntmps99
      go_wp2_with fail
      refine (HS1.out _).mono ?_
      rintro e w' ⟨rfl, rfl⟩
      go_wp2_with fail
      refine (HS2.out _).mono ?_
      rintro e w' ⟨rfl, rfl⟩
      go_wp2
      go_ret
      exact ⟨congrArg (fun b => Ending.returned (.bool b)) E.out.symm, hbA _⟩
   ·have hp : 0 < nm.size := by omega
    have hne2 := toList_ne hp
    have hne := toList_isEmpty hp
    have E := Lib.hid (show okFt ⟨2, nm, by_, cr, bl, cl⟩ = false by simp [okFt, hN, hz] <;> rfl)
    go_enter Tryz.func99, Tryz.ntmps99
    go_wp2
    go_ret
    exact ⟨congrArg (fun b => Ending.returned (.bool b)) E.out.symm, hbA _⟩
  have q2 : (op == 2) = false := by rw [beq_eq_false_iff_ne]; exact h2
  by_cases h3 : op = 3
  ·subst h3
   by_cases hz : nm.size = 0
   ·obtain rfl := size_zero hz
    have E := Lib.hid (show okFt ⟨3, ⟨#[]⟩, by_, cr, bl, cl⟩ = false by simp [okFt, hN, hM, hz] <;> rfl)
    go_enter Tryz.func99, Tryz.ntmps99
    go_wp2
    go_ret
    exact ⟨congrArg (fun b => Ending.returned (.bool b)) E.out.symm, hbA _⟩
   ·have hp : 0 < nm.size := by omega
    have hne2 := toList_ne hp
    have hne := toList_isEmpty hp
    have E := Lib.hid (show okFt ⟨3, nm, by_, cr, bl, cl⟩ = false by simp [okFt, hN, hM, hz] <;> rfl)
    go_enter Tryz.func99, Tryz.ntmps99
    go_wp2
    go_ret
    exact ⟨congrArg (fun b => Ending.returned (.bool b)) E.out.symm, hbA _⟩
  have q3 : (op == 3) = false := by rw [beq_eq_false_iff_ne]; exact h3
  by_cases h4 : op = 4
  ·subst h4
   have HN := Lib.hid (fun W => isName_any nm W)
   cases hn : okName nm
   ·rw [hn] at HN
    have E := Lib.hid (show okFt ⟨4, nm, by_, cr, bl, cl⟩ = false by simp [okFt, hN, hM, hn] <;> rfl)
    go_enter Tryz.func99, Tryz.ntmps99
    go_wp2_with fail
    refine (HN.out _).mono ?_
    rintro e w' ⟨rfl, rfl⟩
    go_wp2
    go_ret
    exact ⟨congrArg (fun b => Ending.returned (.bool b)) E.out.symm, hbA _⟩
   ·rw [hn] at HN
    have E := Lib.hid (show okFt ⟨4, nm, by_, cr, bl, cl⟩ = false by simp [okFt, hN, hM, hn] <;> rfl)
    go_enter Tryz.func99, Tryz.ntmps99
    go_wp2_with fail
    refine (HN.out _).mono ?_
    rintro e w' ⟨rfl, rfl⟩
    go_wp2
    go_ret
    exact ⟨congrArg (fun b => Ending.returned (.bool b)) E.out.symm, hbA _⟩
  have q4 : (op == 4) = false := by rw [beq_eq_false_iff_ne]; exact h4
  by_cases h5 : op = 5
  ·subst h5
   have HN := Lib.hid (fun W => isName_any nm W)
   cases hn : okName nm
   ·rw [hn] at HN
    have E := Lib.hid (show okFt ⟨5, nm, by_, cr, bl, cl⟩ = false by simp [okFt, hN, hM, hn] <;> rfl)
    go_enter Tryz.func99, Tryz.ntmps99
    go_wp2_with fail
    refine (HN.out _).mono ?_
    rintro e w' ⟨rfl, rfl⟩
    go_wp2
    go_ret
    exact ⟨congrArg (fun b => Ending.returned (.bool b)) E.out.symm, hbA _⟩
   ·rw [hn] at HN
    have E := Lib.hid (show okFt ⟨5, nm, by_, cr, bl, cl⟩ = false by simp [okFt, hN, hM, hn] <;> rfl)
    go_enter Tryz.func99, Tryz.ntmps99
    go_wp2_with fail
    refine (HN.out _).mono ?_
    rintro e w' ⟨rfl, rfl⟩
    go_wp2
    go_ret
    exact ⟨congrArg (fun b => Ending.returned (.bool b)) E.out.symm, hbA _⟩
  have q5 : (op == 5) = false := by rw [beq_eq_false_iff_ne]; exact h5
  by_cases h6 : op = 6
  ·subst h6
   have HN := Lib.hid (fun W => isName_any nm W)
   cases hn : okName nm
   ·rw [hn] at HN
    have E := Lib.hid (show okFt ⟨6, nm, by_, cr, bl, cl⟩ = false by simp [okFt, hN, hM, hn] <;> rfl)
    go_enter Tryz.func99, Tryz.ntmps99
    go_wp2_with fail
    refine (HN.out _).mono ?_
    rintro e w' ⟨rfl, rfl⟩
    go_wp2
    go_ret
    exact ⟨congrArg (fun b => Ending.returned (.bool b)) E.out.symm, hbA _⟩
   ·rw [hn] at HN
    have E := Lib.hid (show okFt ⟨6, nm, by_, cr, bl, cl⟩ = false by simp [okFt, hN, hM, hn] <;> rfl)
    go_enter Tryz.func99, Tryz.ntmps99
    go_wp2_with fail
    refine (HN.out _).mono ?_
    rintro e w' ⟨rfl, rfl⟩
    go_wp2
    go_ret
    exact ⟨congrArg (fun b => Ending.returned (.bool b)) E.out.symm, hbA _⟩
  have q6 : (op == 6) = false := by rw [beq_eq_false_iff_ne]; exact h6
  have E := Lib.hid (show okFt ⟨op, nm, by_, cr, bl, cl⟩ = false by simp [okFt, h1, h2, h3, h4, h5, h6])
  go_enter Tryz.func99, Tryz.ntmps99
  go_wp2
  go_ret
  exact ⟨congrArg (fun b => Ending.returned (.bool b)) E.out.symm, hbA _⟩

set_option maxRecDepth 100000 in
set_option maxHeartbeats 20000000 in
theorem validFault_b (f : Ft) (v : Value) (w : World) (S : Nat → Prop) (hf : FtAt w S f v) (_hS : ∀ g, S g → g < w.heap.size) (hlim : f.byzNames.length + f.crashNames.length ≤ 1000000000000) (gnm : ¬ 0 < f.byzNames.length + f.crashNames.length) :
  Calls Tryz.prog 99 #[v] w fun e w' => e = .returned (.bool (okFt f)) ∧ Below w.heap.size w w' := by
 obtain ⟨op, nm, by_, cr, bl, cl⟩ := f
 obtain ⟨bA, bc, cA, cc, rfl, hsb, hlb, hsc, hlc⟩ := hf
 simp only at hsb hlb hsc hlc hlim gnm
 have hbA : ∀ o, Below w.heap.size w (w.alloc o) := fun o => (Below.refl _ _).alloc (Nat.le_refl _) o
 have znm : ¬ (0 : Int) < (bl.length : Int) + (cl.length : Int) := by omega
 by_cases gby : by_ = 0
 ·have zby : (by_ != 0) = false := by rw [gby]; rfl
  by_cases gcr : cr = 0
  ·have zcr : (cr != 0) = false := by rw [gcr]; rfl
   have hN : ∀ (o : Int) (n : ByteArray), ftNamed ⟨o, n, by_, cr, bl, cl⟩ = false := fun _ _ => by unfold ftNamed; exact decide_eq_false gnm
   have hM : ∀ (o : Int) (n : ByteArray), ftNumbered ⟨o, n, by_, cr, bl, cl⟩ = false := fun _ _ => by simp [ftNumbered, gby, gcr]
   clear gnm gby gcr
   by_cases h1 : op = 1
   ·subst h1
    by_cases hz : nm.size = 0
    ·obtain rfl := size_zero hz
     have E := Lib.hid (show okFt ⟨1, ⟨#[]⟩, by_, cr, bl, cl⟩ = true by simp [okFt, hN, hM, hz] <;> rfl)
     go_enter Tryz.func99, Tryz.ntmps99
     go_wp2
     go_ret
     exact ⟨congrArg (fun b => Ending.returned (.bool b)) E.out.symm, hbA _⟩
    ·have hp : 0 < nm.size := by omega
     have hne2 := toList_ne hp
     have hne := toList_isEmpty hp
     have E := Lib.hid (show okFt ⟨1, nm, by_, cr, bl, cl⟩ = false by simp [okFt, hN, hM, hz] <;> rfl)
     go_enter Tryz.func99, Tryz.ntmps99
     go_wp2
     go_ret
     exact ⟨congrArg (fun b => Ending.returned (.bool b)) E.out.symm, hbA _⟩
   have q1 : (op == 1) = false := by rw [beq_eq_false_iff_ne]; exact h1
   by_cases h2 : op = 2
   ·subst h2
    by_cases hz : nm.size = 0
    ·obtain rfl := size_zero hz
     have HS1 := Lib.hid (fun W => small_any by_ W)
     have HS2 := Lib.hid (fun W => small_any cr W)
     cases hs1 : small by_
     ·rw [hs1] at HS1
      have E := Lib.hid (show okFt ⟨2, ⟨#[]⟩, by_, cr, bl, cl⟩ = false by simp [okFt, hN, hs1] <;> rfl)
      go_enter Tryz.func99, Tryz.ntmps99
      go_wp2_with fail
      refine (HS1.out _).mono ?_
      rintro e w' ⟨rfl, rfl⟩
      go_wp2
      go_ret
      exact ⟨congrArg (fun b => Ending.returned (.bool b)) E.out.symm, hbA _⟩
     ·rw [hs1] at HS1
      cases hs2 : small cr
      ·rw [hs2] at HS2
       have E := Lib.hid (show okFt ⟨2, ⟨#[]⟩, by_, cr, bl, cl⟩ = false by simp [okFt, hN, hs1, hs2] <;> rfl)
       go_enter Tryz.func99, Tryz.ntmps99
       go_wp2_with fail
       refine (HS1.out _).mono ?_
       rintro e w' ⟨rfl, rfl⟩
       go_wp2_with fail
       refine (HS2.out _).mono ?_
       rintro e w' ⟨rfl, rfl⟩
       go_wp2
       go_ret
       exact ⟨congrArg (fun b => Ending.returned (.bool b)) E.out.symm, hbA _⟩
      ·rw [hs2] at HS2
       have E := Lib.hid (show okFt ⟨2, ⟨#[]⟩, by_, cr, bl, cl⟩ = true by simp [okFt, hN, hs1, hs2] <;> rfl)
       go_enter Tryz.func99, Tryz.ntmps99
       go_wp2_with fail
       refine (HS1.out _).mono ?_
       rintro e w' ⟨rfl, rfl⟩
       go_wp2_with fail
       refine (HS2.out _).mono ?_
       rintro e w' ⟨rfl, rfl⟩
       go_wp2
       go_ret
       exact ⟨congrArg (fun b => Ending.returned (.bool b)) E.out.symm, hbA _⟩
    ·have hp : 0 < nm.size := by omega
     have hne2 := toList_ne hp
     have hne := toList_isEmpty hp
     have E := Lib.hid (show okFt ⟨2, nm, by_, cr, bl, cl⟩ = false by simp [okFt, hN, hz] <;> rfl)
     go_enter Tryz.func99, Tryz.ntmps99
     go_wp2
     go_ret
     exact ⟨congrArg (fun b => Ending.returned (.bool b)) E.out.symm, hbA _⟩
   have q2 : (op == 2) = false := by rw [beq_eq_false_iff_ne]; exact h2
   by_cases h3 : op = 3
   ·subst h3
    by_cases hz : nm.size = 0
    ·obtain rfl := size_zero hz
     have E := Lib.hid (show okFt ⟨3, ⟨#[]⟩, by_, cr, bl, cl⟩ = false by simp [okFt, hN, hM, hz] <;> rfl)
     go_enter Tryz.func99, Tryz.ntmps99
     go_wp2
     go_ret
     exact ⟨congrArg (fun b => Ending.returned (.bool b)) E.out.symm, hbA _⟩
    ·have hp : 0 < nm.size := by omega
     have hne2 := toList_ne hp
     have hne := toList_isEmpty hp
     have E := Lib.hid (show okFt ⟨3, nm, by_, cr, bl, cl⟩ = false by simp [okFt, hN, hM, hz] <;> rfl)
     go_enter Tryz.func99, Tryz.ntmps99
     go_wp2
     go_ret
     exact ⟨congrArg (fun b => Ending.returned (.bool b)) E.out.symm, hbA _⟩
   have q3 : (op == 3) = false := by rw [beq_eq_false_iff_ne]; exact h3
   by_cases h4 : op = 4
   ·subst h4
    have HN := Lib.hid (fun W => isName_any nm W)
    cases hn : okName nm
    ·rw [hn] at HN
     have E := Lib.hid (show okFt ⟨4, nm, by_, cr, bl, cl⟩ = false by simp [okFt, hN, hM, hn] <;> rfl)
     go_enter Tryz.func99, Tryz.ntmps99
     go_wp2_with fail
     refine (HN.out _).mono ?_
     rintro e w' ⟨rfl, rfl⟩
     go_wp2
     go_ret
     exact ⟨congrArg (fun b => Ending.returned (.bool b)) E.out.symm, hbA _⟩
    ·rw [hn] at HN
     have E := Lib.hid (show okFt ⟨4, nm, by_, cr, bl, cl⟩ = true by simp [okFt, hN, hM, hn] <;> rfl)
     go_enter Tryz.func99, Tryz.ntmps99
     go_wp2_with fail
     refine (HN.out _).mono ?_
     rintro e w' ⟨rfl, rfl⟩
     go_wp2
     go_ret
     exact ⟨congrArg (fun b => Ending.returned (.bool b)) E.out.symm, hbA _⟩
   have q4 : (op == 4) = false := by rw [beq_eq_false_iff_ne]; exact h4
   by_cases h5 : op = 5
   ·subst h5
    have HN := Lib.hid (fun W => isName_any nm W)
    cases hn : okName nm
    ·rw [hn] at HN
     have E := Lib.hid (show okFt ⟨5, nm, by_, cr, bl, cl⟩ = false by simp [okFt, hN, hM, hn] <;> rfl)
     go_enter Tryz.func99, Tryz.ntmps99
     go_wp2_with fail
     refine (HN.out _).mono ?_
     rintro e w' ⟨rfl, rfl⟩
     go_wp2
     go_ret
     exact ⟨congrArg (fun b => Ending.returned (.bool b)) E.out.symm, hbA _⟩
    ·rw [hn] at HN
     have E := Lib.hid (show okFt ⟨5, nm, by_, cr, bl, cl⟩ = true by simp [okFt, hN, hM, hn] <;> rfl)
     go_enter Tryz.func99, Tryz.ntmps99
     go_wp2_with fail
     refine (HN.out _).mono ?_
     rintro e w' ⟨rfl, rfl⟩
     go_wp2
     go_ret
     exact ⟨congrArg (fun b => Ending.returned (.bool b)) E.out.symm, hbA _⟩
   have q5 : (op == 5) = false := by rw [beq_eq_false_iff_ne]; exact h5
   by_cases h6 : op = 6
   ·subst h6
    have HN := Lib.hid (fun W => isName_any nm W)
    cases hn : okName nm
    ·rw [hn] at HN
     have E := Lib.hid (show okFt ⟨6, nm, by_, cr, bl, cl⟩ = false by simp [okFt, hN, hM, hn] <;> rfl)
     go_enter Tryz.func99, Tryz.ntmps99
     go_wp2_with fail
     refine (HN.out _).mono ?_
     rintro e w' ⟨rfl, rfl⟩
     go_wp2
     go_ret
     exact ⟨congrArg (fun b => Ending.returned (.bool b)) E.out.symm, hbA _⟩
    ·rw [hn] at HN
     have E := Lib.hid (show okFt ⟨6, nm, by_, cr, bl, cl⟩ = true by simp [okFt, hN, hM, hn] <;> rfl)
     go_enter Tryz.func99, Tryz.ntmps99
     go_wp2_with fail
     refine (HN.out _).mono ?_
     rintro e w' ⟨rfl, rfl⟩
     go_wp2
     go_ret
     exact ⟨congrArg (fun b => Ending.returned (.bool b)) E.out.symm, hbA _⟩
   have q6 : (op == 6) = false := by rw [beq_eq_false_iff_ne]; exact h6
   have E := Lib.hid (show okFt ⟨op, nm, by_, cr, bl, cl⟩ = false by simp [okFt, h1, h2, h3, h4, h5, h6])
   go_enter Tryz.func99, Tryz.ntmps99
   go_wp2
   go_ret
   exact ⟨congrArg (fun b => Ending.returned (.bool b)) E.out.symm, hbA _⟩
  ·have zcr : (cr != 0) = true := by simpa using gcr
   have hN : ∀ (o : Int) (n : ByteArray), ftNamed ⟨o, n, by_, cr, bl, cl⟩ = false := fun _ _ => by unfold ftNamed; exact decide_eq_false gnm
   have hM : ∀ (o : Int) (n : ByteArray), ftNumbered ⟨o, n, by_, cr, bl, cl⟩ = true := fun _ _ => by simp [ftNumbered, gby, gcr]
   clear gnm gby gcr
   by_cases h1 : op = 1
   ·subst h1
    by_cases hz : nm.size = 0
    ·obtain rfl := size_zero hz
     have E := Lib.hid (show okFt ⟨1, ⟨#[]⟩, by_, cr, bl, cl⟩ = false by simp [okFt, hN, hM, hz] <;> rfl)
     go_enter Tryz.func99, Tryz.ntmps99
     go_wp2
     go_ret
     exact ⟨congrArg (fun b => Ending.returned (.bool b)) E.out.symm, hbA _⟩
    ·have hp : 0 < nm.size := by omega
     have hne2 := toList_ne hp
     have hne := toList_isEmpty hp
     have E := Lib.hid (show okFt ⟨1, nm, by_, cr, bl, cl⟩ = false by simp [okFt, hN, hM, hz] <;> rfl)
     go_enter Tryz.func99, Tryz.ntmps99
     go_wp2
     go_ret
     exact ⟨congrArg (fun b => Ending.returned (.bool b)) E.out.symm, hbA _⟩
   have q1 : (op == 1) = false := by rw [beq_eq_false_iff_ne]; exact h1
   by_cases h2 : op = 2
   ·subst h2
    by_cases hz : nm.size = 0
    ·obtain rfl := size_zero hz
     have HS1 := Lib.hid (fun W => small_any by_ W)
     have HS2 := Lib.hid (fun W => small_any cr W)
     cases hs1 : small by_
     ·rw [hs1] at HS1
      have E := Lib.hid (show okFt ⟨2, ⟨#[]⟩, by_, cr, bl, cl⟩ = false by simp [okFt, hN, hs1] <;> rfl)
      go_enter Tryz.func99, Tryz.ntmps99
      go_wp2_with fail
      refine (HS1.out _).mono ?_
      rintro e w' ⟨rfl, rfl⟩
      go_wp2
      go_ret
      exact ⟨congrArg (fun b => Ending.returned (.bool b)) E.out.symm, hbA _⟩
     ·rw [hs1] at HS1
      cases hs2 : small cr
      ·rw [hs2] at HS2
       have E := Lib.hid (show okFt ⟨2, ⟨#[]⟩, by_, cr, bl, cl⟩ = false by simp [okFt, hN, hs1, hs2] <;> rfl)
       go_enter Tryz.func99, Tryz.ntmps99
       go_wp2_with fail
       refine (HS1.out _).mono ?_
       rintro e w' ⟨rfl, rfl⟩
       go_wp2_with fail
       refine (HS2.out _).mono ?_
       rintro e w' ⟨rfl, rfl⟩
       go_wp2
       go_ret
       exact ⟨congrArg (fun b => Ending.returned (.bool b)) E.out.symm, hbA _⟩
      ·rw [hs2] at HS2
       have E := Lib.hid (show okFt ⟨2, ⟨#[]⟩, by_, cr, bl, cl⟩ = true by simp [okFt, hN, hs1, hs2] <;> rfl)
       go_enter Tryz.func99, Tryz.ntmps99
       go_wp2_with fail
       refine (HS1.out _).mono ?_
       rintro e w' ⟨rfl, rfl⟩
       go_wp2_with fail
       refine (HS2.out _).mono ?_
       rintro e w' ⟨rfl, rfl⟩
       go_wp2
       go_ret
       exact ⟨congrArg (fun b => Ending.returned (.bool b)) E.out.symm, hbA _⟩
    ·have hp : 0 < nm.size := by omega
     have hne2 := toList_ne hp
     have hne := toList_isEmpty hp
     have E := Lib.hid (show okFt ⟨2, nm, by_, cr, bl, cl⟩ = false by simp [okFt, hN, hz] <;> rfl)
     go_enter Tryz.func99, Tryz.ntmps99
     go_wp2
     go_ret
     exact ⟨congrArg (fun b => Ending.returned (.bool b)) E.out.symm, hbA _⟩
   have q2 : (op == 2) = false := by rw [beq_eq_false_iff_ne]; exact h2
   by_cases h3 : op = 3
   ·subst h3
    by_cases hz : nm.size = 0
    ·obtain rfl := size_zero hz
     have E := Lib.hid (show okFt ⟨3, ⟨#[]⟩, by_, cr, bl, cl⟩ = false by simp [okFt, hN, hM, hz] <;> rfl)
     go_enter Tryz.func99, Tryz.ntmps99
     go_wp2
     go_ret
     exact ⟨congrArg (fun b => Ending.returned (.bool b)) E.out.symm, hbA _⟩
    ·have hp : 0 < nm.size := by omega
     have hne2 := toList_ne hp
     have hne := toList_isEmpty hp
     have E := Lib.hid (show okFt ⟨3, nm, by_, cr, bl, cl⟩ = false by simp [okFt, hN, hM, hz] <;> rfl)
     go_enter Tryz.func99, Tryz.ntmps99
     go_wp2
     go_ret
     exact ⟨congrArg (fun b => Ending.returned (.bool b)) E.out.symm, hbA _⟩
   have q3 : (op == 3) = false := by rw [beq_eq_false_iff_ne]; exact h3
   by_cases h4 : op = 4
   ·subst h4
    have HN := Lib.hid (fun W => isName_any nm W)
    cases hn : okName nm
    ·rw [hn] at HN
     have E := Lib.hid (show okFt ⟨4, nm, by_, cr, bl, cl⟩ = false by simp [okFt, hN, hM, hn] <;> rfl)
     go_enter Tryz.func99, Tryz.ntmps99
     go_wp2_with fail
     refine (HN.out _).mono ?_
     rintro e w' ⟨rfl, rfl⟩
     go_wp2
     go_ret
     exact ⟨congrArg (fun b => Ending.returned (.bool b)) E.out.symm, hbA _⟩
    ·rw [hn] at HN
     have E := Lib.hid (show okFt ⟨4, nm, by_, cr, bl, cl⟩ = false by simp [okFt, hN, hM, hn] <;> rfl)
     go_enter Tryz.func99, Tryz.ntmps99
     go_wp2_with fail
     refine (HN.out _).mono ?_
     rintro e w' ⟨rfl, rfl⟩
     go_wp2
     go_ret
     exact ⟨congrArg (fun b => Ending.returned (.bool b)) E.out.symm, hbA _⟩
   have q4 : (op == 4) = false := by rw [beq_eq_false_iff_ne]; exact h4
   by_cases h5 : op = 5
   ·subst h5
    have HN := Lib.hid (fun W => isName_any nm W)
    cases hn : okName nm
    ·rw [hn] at HN
     have E := Lib.hid (show okFt ⟨5, nm, by_, cr, bl, cl⟩ = false by simp [okFt, hN, hM, hn] <;> rfl)
     go_enter Tryz.func99, Tryz.ntmps99
     go_wp2_with fail
     refine (HN.out _).mono ?_
     rintro e w' ⟨rfl, rfl⟩
     go_wp2
     go_ret
     exact ⟨congrArg (fun b => Ending.returned (.bool b)) E.out.symm, hbA _⟩
    ·rw [hn] at HN
     have E := Lib.hid (show okFt ⟨5, nm, by_, cr, bl, cl⟩ = false by simp [okFt, hN, hM, hn] <;> rfl)
     go_enter Tryz.func99, Tryz.ntmps99
     go_wp2_with fail
     refine (HN.out _).mono ?_
     rintro e w' ⟨rfl, rfl⟩
     go_wp2
     go_ret
     exact ⟨congrArg (fun b => Ending.returned (.bool b)) E.out.symm, hbA _⟩
   have q5 : (op == 5) = false := by rw [beq_eq_false_iff_ne]; exact h5
   by_cases h6 : op = 6
   ·subst h6
    have HN := Lib.hid (fun W => isName_any nm W)
    cases hn : okName nm
    ·rw [hn] at HN
     have E := Lib.hid (show okFt ⟨6, nm, by_, cr, bl, cl⟩ = false by simp [okFt, hN, hM, hn] <;> rfl)
     go_enter Tryz.func99, Tryz.ntmps99
     go_wp2_with fail
     refine (HN.out _).mono ?_
     rintro e w' ⟨rfl, rfl⟩
     go_wp2
     go_ret
     exact ⟨congrArg (fun b => Ending.returned (.bool b)) E.out.symm, hbA _⟩
    ·rw [hn] at HN
     have E := Lib.hid (show okFt ⟨6, nm, by_, cr, bl, cl⟩ = false by simp [okFt, hN, hM, hn] <;> rfl)
     go_enter Tryz.func99, Tryz.ntmps99
     go_wp2_with fail
     refine (HN.out _).mono ?_
     rintro e w' ⟨rfl, rfl⟩
     go_wp2
     go_ret
     exact ⟨congrArg (fun b => Ending.returned (.bool b)) E.out.symm, hbA _⟩
   have q6 : (op == 6) = false := by rw [beq_eq_false_iff_ne]; exact h6
   have E := Lib.hid (show okFt ⟨op, nm, by_, cr, bl, cl⟩ = false by simp [okFt, h1, h2, h3, h4, h5, h6])
   go_enter Tryz.func99, Tryz.ntmps99
   go_wp2
   go_ret
   exact ⟨congrArg (fun b => Ending.returned (.bool b)) E.out.symm, hbA _⟩
 ·have zby : (by_ != 0) = true := by simpa using gby
  have hN : ∀ (o : Int) (n : ByteArray), ftNamed ⟨o, n, by_, cr, bl, cl⟩ = false := fun _ _ => by unfold ftNamed; exact decide_eq_false gnm
  have hM : ∀ (o : Int) (n : ByteArray), ftNumbered ⟨o, n, by_, cr, bl, cl⟩ = true := fun _ _ => by simp [ftNumbered, gby]
  clear gnm gby
  by_cases h1 : op = 1
  ·subst h1
   by_cases hz : nm.size = 0
   ·obtain rfl := size_zero hz
    have E := Lib.hid (show okFt ⟨1, ⟨#[]⟩, by_, cr, bl, cl⟩ = false by simp [okFt, hN, hM, hz] <;> rfl)
    go_enter Tryz.func99, Tryz.ntmps99
    go_wp2
    go_ret
    exact ⟨congrArg (fun b => Ending.returned (.bool b)) E.out.symm, hbA _⟩
   ·have hp : 0 < nm.size := by omega
    have hne2 := toList_ne hp
    have hne := toList_isEmpty hp
    have E := Lib.hid (show okFt ⟨1, nm, by_, cr, bl, cl⟩ = false by simp [okFt, hN, hM, hz] <;> rfl)
    go_enter Tryz.func99, Tryz.ntmps99
    go_wp2
    go_ret
    exact ⟨congrArg (fun b => Ending.returned (.bool b)) E.out.symm, hbA _⟩
  have q1 : (op == 1) = false := by rw [beq_eq_false_iff_ne]; exact h1
  by_cases h2 : op = 2
  ·subst h2
   by_cases hz : nm.size = 0
   ·obtain rfl := size_zero hz
    have HS1 := Lib.hid (fun W => small_any by_ W)
    have HS2 := Lib.hid (fun W => small_any cr W)
    cases hs1 : small by_
    ·rw [hs1] at HS1
     have E := Lib.hid (show okFt ⟨2, ⟨#[]⟩, by_, cr, bl, cl⟩ = false by simp [okFt, hN, hs1] <;> rfl)
     go_enter Tryz.func99, Tryz.ntmps99
     go_wp2_with fail
     refine (HS1.out _).mono ?_
     rintro e w' ⟨rfl, rfl⟩
     go_wp2
     go_ret
     exact ⟨congrArg (fun b => Ending.returned (.bool b)) E.out.symm, hbA _⟩
    ·rw [hs1] at HS1
     cases hs2 : small cr
     ·rw [hs2] at HS2
      have E := Lib.hid (show okFt ⟨2, ⟨#[]⟩, by_, cr, bl, cl⟩ = false by simp [okFt, hN, hs1, hs2] <;> rfl)
      go_enter Tryz.func99, Tryz.ntmps99
      go_wp2_with fail
      refine (HS1.out _).mono ?_
      rintro e w' ⟨rfl, rfl⟩
      go_wp2_with fail
      refine (HS2.out _).mono ?_
      rintro e w' ⟨rfl, rfl⟩
      go_wp2
      go_ret
      exact ⟨congrArg (fun b => Ending.returned (.bool b)) E.out.symm, hbA _⟩
     ·rw [hs2] at HS2
      have E := Lib.hid (show okFt ⟨2, ⟨#[]⟩, by_, cr, bl, cl⟩ = true by simp [okFt, hN, hs1, hs2] <;> rfl)
      go_enter Tryz.func99, Tryz.ntmps99
      go_wp2_with fail
      refine (HS1.out _).mono ?_
      rintro e w' ⟨rfl, rfl⟩
      go_wp2_with fail
      refine (HS2.out _).mono ?_
      rintro e w' ⟨rfl, rfl⟩
      go_wp2
      go_ret
      exact ⟨congrArg (fun b => Ending.returned (.bool b)) E.out.symm, hbA _⟩
   ·have hp : 0 < nm.size := by omega
    have hne2 := toList_ne hp
    have hne := toList_isEmpty hp
    have E := Lib.hid (show okFt ⟨2, nm, by_, cr, bl, cl⟩ = false by simp [okFt, hN, hz] <;> rfl)
    go_enter Tryz.func99, Tryz.ntmps99
    go_wp2
    go_ret
    exact ⟨congrArg (fun b => Ending.returned (.bool b)) E.out.symm, hbA _⟩
  have q2 : (op == 2) = false := by rw [beq_eq_false_iff_ne]; exact h2
  by_cases h3 : op = 3
  ·subst h3
   by_cases hz : nm.size = 0
   ·obtain rfl := size_zero hz
    have E := Lib.hid (show okFt ⟨3, ⟨#[]⟩, by_, cr, bl, cl⟩ = false by simp [okFt, hN, hM, hz] <;> rfl)
    go_enter Tryz.func99, Tryz.ntmps99
    go_wp2
    go_ret
    exact ⟨congrArg (fun b => Ending.returned (.bool b)) E.out.symm, hbA _⟩
   ·have hp : 0 < nm.size := by omega
    have hne2 := toList_ne hp
    have hne := toList_isEmpty hp
    have E := Lib.hid (show okFt ⟨3, nm, by_, cr, bl, cl⟩ = false by simp [okFt, hN, hM, hz] <;> rfl)
    go_enter Tryz.func99, Tryz.ntmps99
    go_wp2
    go_ret
    exact ⟨congrArg (fun b => Ending.returned (.bool b)) E.out.symm, hbA _⟩
  have q3 : (op == 3) = false := by rw [beq_eq_false_iff_ne]; exact h3
  by_cases h4 : op = 4
  ·subst h4
   have HN := Lib.hid (fun W => isName_any nm W)
   cases hn : okName nm
   ·rw [hn] at HN
    have E := Lib.hid (show okFt ⟨4, nm, by_, cr, bl, cl⟩ = false by simp [okFt, hN, hM, hn] <;> rfl)
    go_enter Tryz.func99, Tryz.ntmps99
    go_wp2_with fail
    refine (HN.out _).mono ?_
    rintro e w' ⟨rfl, rfl⟩
    go_wp2
    go_ret
    exact ⟨congrArg (fun b => Ending.returned (.bool b)) E.out.symm, hbA _⟩
   ·rw [hn] at HN
    have E := Lib.hid (show okFt ⟨4, nm, by_, cr, bl, cl⟩ = false by simp [okFt, hN, hM, hn] <;> rfl)
    go_enter Tryz.func99, Tryz.ntmps99
    go_wp2_with fail
    refine (HN.out _).mono ?_
    rintro e w' ⟨rfl, rfl⟩
    go_wp2
    go_ret
    exact ⟨congrArg (fun b => Ending.returned (.bool b)) E.out.symm, hbA _⟩
  have q4 : (op == 4) = false := by rw [beq_eq_false_iff_ne]; exact h4
  by_cases h5 : op = 5
  ·subst h5
   have HN := Lib.hid (fun W => isName_any nm W)
   cases hn : okName nm
   ·rw [hn] at HN
    have E := Lib.hid (show okFt ⟨5, nm, by_, cr, bl, cl⟩ = false by simp [okFt, hN, hM, hn] <;> rfl)
    go_enter Tryz.func99, Tryz.ntmps99
    go_wp2_with fail
    refine (HN.out _).mono ?_
    rintro e w' ⟨rfl, rfl⟩
    go_wp2
    go_ret
    exact ⟨congrArg (fun b => Ending.returned (.bool b)) E.out.symm, hbA _⟩
   ·rw [hn] at HN
    have E := Lib.hid (show okFt ⟨5, nm, by_, cr, bl, cl⟩ = false by simp [okFt, hN, hM, hn] <;> rfl)
    go_enter Tryz.func99, Tryz.ntmps99
    go_wp2_with fail
    refine (HN.out _).mono ?_
    rintro e w' ⟨rfl, rfl⟩
    go_wp2
    go_ret
    exact ⟨congrArg (fun b => Ending.returned (.bool b)) E.out.symm, hbA _⟩
  have q5 : (op == 5) = false := by rw [beq_eq_false_iff_ne]; exact h5
  by_cases h6 : op = 6
  ·subst h6
   have HN := Lib.hid (fun W => isName_any nm W)
   cases hn : okName nm
   ·rw [hn] at HN
    have E := Lib.hid (show okFt ⟨6, nm, by_, cr, bl, cl⟩ = false by simp [okFt, hN, hM, hn] <;> rfl)
    go_enter Tryz.func99, Tryz.ntmps99
    go_wp2_with fail
    refine (HN.out _).mono ?_
    rintro e w' ⟨rfl, rfl⟩
    go_wp2
    go_ret
    exact ⟨congrArg (fun b => Ending.returned (.bool b)) E.out.symm, hbA _⟩
   ·rw [hn] at HN
    have E := Lib.hid (show okFt ⟨6, nm, by_, cr, bl, cl⟩ = false by simp [okFt, hN, hM, hn] <;> rfl)
    go_enter Tryz.func99, Tryz.ntmps99
    go_wp2_with fail
    refine (HN.out _).mono ?_
    rintro e w' ⟨rfl, rfl⟩
    go_wp2
    go_ret
    exact ⟨congrArg (fun b => Ending.returned (.bool b)) E.out.symm, hbA _⟩
  have q6 : (op == 6) = false := by rw [beq_eq_false_iff_ne]; exact h6
  have E := Lib.hid (show okFt ⟨op, nm, by_, cr, bl, cl⟩ = false by simp [okFt, h1, h2, h3, h4, h5, h6])
  go_enter Tryz.func99, Tryz.ntmps99
  go_wp2
  go_ret
  exact ⟨congrArg (fun b => Ending.returned (.bool b)) E.out.symm, hbA _⟩
theorem validFault_any (f : Ft) (v : Value) (w : World) (S : Nat → Prop) (hf : FtAt w S f v) (hS : ∀ g, S g → g < w.heap.size) (hlim : f.byzNames.length + f.crashNames.length ≤ 1000000000000) :
  Calls Tryz.prog 99 #[v] w fun e w' => e = .returned (.bool (okFt f)) ∧ Below w.heap.size w w' := by
 by_cases h : 0 < f.byzNames.length + f.crashNames.length
 ·exact validFault_a f v w S hf hS hlim h
 ·exact validFault_b f v w S hf hS hlim h
end Go.Proofs.YtipicaoinnblpaaGreatDoor
