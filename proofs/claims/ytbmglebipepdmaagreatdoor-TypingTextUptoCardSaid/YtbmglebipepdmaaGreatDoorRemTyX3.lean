/- What this closing text needs beyond the base: parts of the texts on typing and on the syntax; the conditions stand at each theorem. -/
import Derived.Test.YtbmglebipepdmaaGreatDoorPkPlain
import Derived.Test.YtbmglebipepdmaaGreatDoorPkRound
import Derived.Test.YtbmglebipepdmaaGreatDoorPkTyp
import Derived.Test.YtbmglebipepdmaaGreatDoorPkMem
import Derived.Test.YtbmglebipepdmaaGreatDoorPkPara
import Derived.Test.YtbmglebipepdmaaGreatDoorPkParb
import Derived.Test.YtbmglebipepdmaaGreatDoorPkLex
import Derived.Test.YtbmglebipepdmaaGreatDoorPkPare
import Derived.Test.YtbmglebipepdmaaGreatDoorPkVala
import Derived.Test.YtbmglebipepdmaaGreatDoorPkValb
import Derived.Test.YtbmglebipepdmaaGreatDoorPkValc
import Derived.Test.YtbmglebipepdmaaGreatDoorPkFmta
import Derived.Test.YtbmglebipepdmaaGreatDoorPkFmtb
import Derived.Test.YtbmglebipepdmaaGreatDoorPkNms
import Derived.Test.YtbmglebipepdmaaGreatDoorPkTya
import Derived.Test.YtbmglebipepdmaaGreatDoorPkTyb
import Derived.Test.YtbmglebipepdmaaGreatDoorPkOpen
import Derived.Test.YtbmglebipepdmaaGreatDoorPkCheck
import Derived.Test.YtbmglebipepdmaaGreatDoorPkRefl
import Derived.Test.YtbmglebipepdmaaGreatDoorPkRefa
import Derived.Test.YtbmglebipepdmaaGreatDoorPkRefb
import Derived.Test.YtbmglebipepdmaaGreatDoorPkRefc
import Derived.Test.YtbmglebipepdmaaGreatDoorPkRefd
import Derived.Test.YtbmglebipepdmaaGreatDoorPkEq
import Derived.Test.YtbmglebipepdmaaGreatDoorPkHead
import Derived.Test.YtbmglebipepdmaaGreatDoorPkUses
import Derived.Test.YtbmglebipepdmaaGreatDoorPkAwt
import Derived.Test.YtbmglebipepdmaaGreatDoorRemTyX2
namespace Go.Proofs.YtbmglebipepdmaaGreatDoor
open Go.RowKit
theorem join_two (a b sep : List UInt8) : Lib.join ([a] ++ [b]) sep = a ++ sep ++ b := by
 have e := jZ [a, b] sep 1 (by simp) (by simp)
 have e1 : [a, b].take 1 = [a] := rfl
 have e2 : [a, b].take (1 + 1) = [a, b] := rfl
 rw [e1, e2, Lib.join_one] at e
 exact e
set_option maxRecDepth 100000 in
set_option maxHeartbeats 4000000 in
theorem sets_ref (nm : ByteArray) (x y : Int) (bl cl : List ByteArray) (bA : Option Addr) (bc : Nat) (cA : Option Addr) (cc : Nat) (w : World) (S : Nat → Prop) (hsb : aN w S 1 bA bl.length (bl.map Value.string)) (hsc : aN w S 1 cA cl.length (cl.map Value.string)) (hS : ∀ g, S g → g < w.heap.size) (hok : jQ ⟨3, nm, x, y, bl, cl⟩ = true) (hlim : bl.length + cl.length ≤ 1000000000) :
  Calls Tryz.prog 76 #[.agg #[.int .i64 3, .string nm, .int .i64 x, .int .i64 y, .slice bA bl.length bc, .slice cA cl.length cc]] w fun e w' => e = .returned (.string (bs (gM ⟨3, nm, x, y, bl, cl⟩))) ∧ Below w.heap.size w w' := by
 have hbA : ∀ o, Below w.heap.size w (w.alloc o) := fun o => (Below.refl _ _).alloc (Nat.le_refl _) o
 obtain ⟨hn, hob, hoc⟩ : 0 < bl.length + cl.length ∧ bD bl = true ∧ bD cl = true := by
  have h := hok
  have e : jQ ⟨3, nm, x, y, bl, cl⟩ = (decide (nm.size = 0) && !gJ ⟨3, nm, x, y, bl, cl⟩ && decide (0 < bl.length + cl.length) && bD bl && bD cl) := rfl
  rw [e] at h
  simp only [Bool.and_eq_true, decide_eq_true_eq] at h
  exact ⟨h.1.1.2, h.1.2, h.2⟩
 have hnb := fu hob
 have hnc := fu hoc
 have htb := ol (List.all_eq_true.1 hob)
 have htc := ol (List.all_eq_true.1 hoc)
 obtain ⟨W0, hW0⟩ : ∃ W0 : World, W0 = w.alloc (.cells #[.int .i64 3, .string nm, .int .i64 x, .int .i64 y, .slice bA bl.length bc, .slice cA cl.length cc] 82) := ⟨_, rfl⟩
 have hb0 : Below w.heap.size w W0 := by rw [hW0]; exact hbA _
 have hr0 : W0.heap[w.heap.size]? = some (.cells #[.int .i64 3, .string nm, .int .i64 x, .int .i64 y, .slice bA bl.length bc, .slice cA cl.length cc] 82 (0, 0)) := by rw [hW0]; exact heap_alloc_new w _
 have hz0 := hb0.size
 have hlb := uE bl bA bc W0 S (hsb.keep (aA hb0 hS)) (fun g hg => by have := hS g hg; omega) (by omega)
 have hlc := uE cl cA cc W0 S (hsc.keep (aA hb0 hS)) (fun g hg => by have := hS g hg; omega) (by omega)
 obtain ⟨TB, hTB⟩ : ∃ T : ByteArray, T = bs (dJ bl) := ⟨_, rfl⟩
 have hTBs : TB.size ≤ 26000000000 := by rw [hTB, bZ]; omega
 obtain ⟨TC, hTC⟩ : ∃ T : ByteArray, T = bs (dJ cl) := ⟨_, rfl⟩
 have hTCs : TC.size ≤ 26000000000 := by rw [hTC, bZ]; omega
 rw [← hTB] at hlb
 rw [← hTC] at hlc
 have EB := Lib.hid (show ((⟨#[98, 121, 122, 32, 123, 32]⟩ : ByteArray) ++ TB ++ (⟨#[32, 125]⟩ : ByteArray)) = bs (lI [98, 121, 122] bl) from wm _ _ _ _ _ _ rfl hTB rfl)
 have EC := Lib.hid (show ((⟨#[99, 114, 97, 115, 104, 32, 123, 32]⟩ : ByteArray) ++ TC ++ (⟨#[32, 125]⟩ : ByteArray)) = bs (lI [99, 114, 97, 115, 104] cl) from wm _ _ _ _ _ _ rfl hTC rfl)
 have EC2 := Lib.hid (show ∀ (X : ByteArray) (l : List UInt8), X = bs l → (X ++ (⟨#[32]⟩ : ByteArray) ++ (⟨#[99, 114, 97, 115, 104, 32, 123, 32]⟩ : ByteArray) ++ TC ++ (⟨#[32, 125]⟩ : ByteArray)) = bs (l ++ [32] ++ lI [99, 114, 97, 115, 104] cl) from fun X l hX => by
  rw [hX, hTC, show (⟨#[32]⟩ : ByteArray) = bs [32] from rfl, show (⟨#[99, 114, 97, 115, 104, 32, 123, 32]⟩ : ByteArray) = bs [99, 114, 97, 115, 104, 32, 123, 32] from rfl, show (⟨#[32, 125]⟩ : ByteArray) = bs [32, 125] from rfl]
  simp only [bS, lI, List.append_assoc, List.cons_append, List.nil_append])
 have EF := Lib.hid (ft3 nm x y bl cl)
 have ES := Lib.hid (show oQ ⟨3, nm, x, y, bl, cl⟩ = (if bl.length = 0 then [] else [lI [98, 121, 122] bl]) ++ (if cl.length = 0 then [] else [lI [99, 114, 97, 115, 104] cl]) from rfl)
 have HLB := Lib.hid hlb
 have HLC := Lib.hid hlc
 have HR0 := Lib.hid hr0
 have HW0 := Lib.hid hW0
 clear hob hoc hnb hnc hTB hTC hsb hsc hok htb htc hlb hlc hr0 hW0 hbA
 by_cases zb : bl.length = 0
 ·have hzb : ¬ (0 : Int) < (bl.length : Int) := by omega
  have hzc : (0 : Int) < (cl.length : Int) := by omega
  have HZB := Lib.hid zb
  have HN := Lib.hid hn
  clear zb hn
  go_enter Tryz.func76, Tryz.ntmps76
  go_upto_region 1 with fail
  rw [← HW0.out]
  obtain ⟨c0, c1, c2, c3, c4, c5, -⟩ := zo HR0.out
  clear HW0
  go_wp2_with fail
  refine HLC.out.mono ?_
  rintro e w' ⟨rfl, rfl⟩
  go_wp2
  go_ret
  refine ⟨congrArg (fun b => Ending.returned (.string b)) ?_, hb0⟩
  rw [EF.out, ES.out, if_pos HZB.out, if_neg (by have := HN.out; have := HZB.out; omega), List.nil_append, Lib.join_one, ← EC.out]
  first | rfl | simp
 ·have hzb : (0 : Int) < (bl.length : Int) := by omega
  have HZB := Lib.hid zb
  clear zb hn
  by_cases zc : cl.length = 0
  ·have hzc : ¬ (0 : Int) < (cl.length : Int) := by omega
   have HZC := Lib.hid zc
   clear zc
   go_enter Tryz.func76, Tryz.ntmps76
   go_upto_region 1 with fail
   rw [← HW0.out]
   obtain ⟨c0, c1, c2, c3, c4, c5, -⟩ := zo HR0.out
   clear HW0
   go_wp2_with fail
   refine HLB.out.mono ?_
   rintro e w' ⟨rfl, rfl⟩
   go_wp2
   go_ret
   refine ⟨congrArg (fun b => Ending.returned (.string b)) ?_, hb0⟩
   rw [EF.out, ES.out, if_neg HZB.out, if_pos HZC.out, List.append_nil, Lib.join_one, ← EB.out]
  ·have hzc : (0 : Int) < (cl.length : Int) := by omega
   have HZC := Lib.hid zc
   clear zc
   obtain ⟨X, hX⟩ : ∃ X : ByteArray, X = (⟨#[98, 121, 122, 32, 123, 32]⟩ : ByteArray) ++ TB ++ (⟨#[32, 125]⟩ : ByteArray) := ⟨_, rfl⟩
   have hXs : X.size ≤ 27000000000 := by rw [hX, ByteArray.size_append, ByteArray.size_append]; show 6 + TB.size + 2 ≤ _; omega
   have hX0 : 0 < X.size := by rw [hX, ByteArray.size_append, ByteArray.size_append]; show 0 < 6 + TB.size + 2; omega
   have hXe := bg hX0
   have HX := Lib.hid hX
   go_enter Tryz.func76, Tryz.ntmps76
   go_upto_region 1 with fail
   rw [← HW0.out]
   obtain ⟨c0, c1, c2, c3, c4, c5, -⟩ := zo HR0.out
   clear HW0 hX
   go_wp2_with fail
   refine HLB.out.mono ?_
   rintro e w' ⟨rfl, rfl⟩
   go_upto_region 15 with fail
   rw [← HX.out]
   go_wp2_with fail
   refine HLC.out.mono ?_
   rintro e w' ⟨rfl, rfl⟩
   go_wp2
   go_ret
   refine ⟨congrArg (fun b => Ending.returned (.string b)) ?_, hb0⟩
   rw [EF.out, ES.out, if_neg HZB.out, if_neg HZC.out]
   refine (EC2.out X _ (HX.out.trans EB.out)).trans ?_
   rw [join_two]

set_option maxRecDepth 100000 in
set_option maxHeartbeats 4000000 in
theorem Cs (f : Ft) (v : Value) (w : World) (S : Nat → Prop) (hf : kU w S f v) (hS : ∀ g, S g → g < w.heap.size) (hok : jQ f = true) (hlim : f.aC.length + f.ak.length ≤ 1000000000) (hpw : Pow w) :
  Calls Tryz.prog 76 #[v] w fun e w' => e = .returned (.string (bs (gM f))) ∧ Below w.heap.size w w' := by
 have hlen := mK hok
 obtain ⟨op, nm, x, y, bl, cl⟩ := f
 obtain ⟨bA, bc, cA, cc, rfl, hsb, hlb, hsc, hlc⟩ := hf
 simp only at hsb hlb hsc hlc hlim hlen
 have hbA : ∀ o, Below w.heap.size w (w.alloc o) := fun o => (Below.refl _ _).alloc (Nat.le_refl _) o
 have HB := Lib.hid hsb
 have HC := Lib.hid hsc
 have HP := Lib.hid hpw
 have HOK := Lib.hid hok
 have HLN := Lib.hid hlen
 have hnm : nm.size ≤ 24 := by
  by_cases h : op = 4 ∨ op = 5 ∨ op = 6
  ·have e : jQ ⟨op, nm, x, y, bl, cl⟩ = (bO nm && !gJ ⟨op, nm, x, y, bl, cl⟩ && !jG ⟨op, nm, x, y, bl, cl⟩) := by
    unfold jQ
    simp only
    rw [if_neg (by omega), if_neg (by omega), if_neg (by omega), if_pos h]
   rw [e] at hok
   simp only [Bool.and_eq_true] at hok
   exact (kD hok.1.1).1
  ·by_cases h0 : nm.size = 0
   ·omega
   ·have e : jQ ⟨op, nm, x, y, bl, cl⟩ = false := by
     unfold jQ
     simp only
     rw [if_neg h]
     simp [h0]
    rw [e] at hok
    cases hok
 clear hsb hsc hpw hok hlen
 by_cases h1 : op = 1
 ·subst h1
  go_enter Tryz.func76, Tryz.ntmps76
  go_wp2
  go_ret
  exact ⟨rfl, hbA _⟩
 have q1 : (op == 1) = false := by rw [beq_eq_false_iff_ne]; exact h1
 by_cases h2 : op = 2
 ·subst h2
  obtain ⟨hx, hy⟩ : small x = true ∧ small y = true := by
   have h := HOK.out
   have e : jQ ⟨2, nm, x, y, bl, cl⟩ = (decide (nm.size = 0) && small x && small y && !jG ⟨2, nm, x, y, bl, cl⟩) := rfl
   rw [e] at h
   simp only [Bool.and_eq_true] at h
   exact ⟨h.1.1.2, h.1.2⟩
  obtain ⟨I, hI⟩ : ∃ I : ByteArray, I = bs (Lib.itoa x) := ⟨_, rfl⟩
  have hIs : I.size ≤ 21 := by rw [hI, bZ]; exact gu hx
  obtain ⟨J, hJ⟩ : ∃ J : ByteArray, J = bs (Lib.itoa y) := ⟨_, rfl⟩
  have hJs : J.size ≤ 21 := by rw [hJ, bZ]; exact gu hy
  have HIE := Lib.hid hI
  have HJE := Lib.hid hJ
  have HX := Lib.hid (fun (W : World) (hb : Below w.heap.size w W) => show Calls Tryz.prog 106 #[.int .i64 x] W (fun e w' => e = .returned (.string I) ∧ Below W.heap.size W w') by rw [hI]; exact lZ x hx W (HP.out.below hb))
  have HY := Lib.hid (fun (W : World) (hb : Below w.heap.size w W) => show Calls Tryz.prog 106 #[.int .i64 y] W (fun e w' => e = .returned (.string J) ∧ Below W.heap.size W w') by rw [hJ]; exact lZ y hy W (HP.out.below hb))
  clear hI hJ hx hy
  go_enter Tryz.func76, Tryz.ntmps76
  go_wp2
  obtain ⟨W0, hW0⟩ : ∃ W0 : World, W0 = w.alloc (.cells #[.int .i64 2, .string nm, .int .i64 x, .int .i64 y, .slice bA bl.length bc, .slice cA cl.length cc] 82) := ⟨_, rfl⟩
  have hb0 : Below w.heap.size w W0 := by rw [hW0]; exact hbA _
  have hs0 : w.heap.size < W0.heap.size := by rw [hW0]; simp
  have hr0 : W0.heap[w.heap.size]? = some (.cells #[.int .i64 2, .string nm, .int .i64 x, .int .i64 y, .slice bA bl.length bc, .slice cA cl.length cc] 82 (0, 0)) := by rw [hW0]; exact heap_alloc_new w _
  rw [← hW0]
  have c2 : W0.cell? ⟨w.heap.size, 2, none⟩ = some (.int .i64 x) := ah hr0 2 _ rfl
  have c3 : W0.cell? ⟨w.heap.size, 3, none⟩ = some (.int .i64 y) := ah hr0 3 _ rfl
  clear hW0 hr0
  have hA1 := fun W => run_string_add_sum (P := Tryz.prog) W (⟨#[116, 104, 114, 101, 115, 104, 111, 108, 100, 32]⟩ : ByteArray) I (by show 10 + I.size ≤ _; omega)
  have hA2 := fun W => run_string_add_sum (P := Tryz.prog) W ((⟨#[116, 104, 114, 101, 115, 104, 111, 108, 100, 32]⟩ : ByteArray) ++ I) (⟨#[32]⟩ : ByteArray) (by rw [ByteArray.size_append]; show 10 + I.size + 1 ≤ _; omega)
  have hA3 := fun W => run_string_add_sum (P := Tryz.prog) W ((⟨#[116, 104, 114, 101, 115, 104, 111, 108, 100, 32]⟩ : ByteArray) ++ I ++ (⟨#[32]⟩ : ByteArray)) J (by rw [ByteArray.size_append, ByteArray.size_append]; show 10 + I.size + 1 + J.size ≤ _; omega)
  go_region_held3 (fun w' => w'.cell? ⟨w.heap.size, 2, none⟩ = some (.int .i64 x) ∧ w'.cell? ⟨w.heap.size, 3, none⟩ = some (.int .i64 y)) (first | go_keep | (refine ⟨?_, ?_⟩ <;> (rw [hb2.cell (by simp; omega)]; go_keep)) | (refine ⟨?_, ?_⟩ <;> (rw [hb3.cell (by have := hb2.size; simp at this ⊢; omega), hb2.cell (by simp; omega)]; go_keep)))
   (first | (go_at_call 106; (refine (HX.out _ (below_drewN hb0 _)).mono ?_; rintro e w2 ⟨rfl, hb2⟩)) | (go_at_call 106; (refine (HY.out _ ((below_drewN hb0 _).trans (hb2.mono (by simp; omega)))).mono ?_; rintro e w3 ⟨rfl, hb3⟩)))
  all_goals (
   go_wp2
   go_ret
   refine ⟨congrArg (fun b => Ending.returned (.string b)) ?_, ((below_drewN hb0 _).trans (hb2.mono (by simp; omega))).trans (hb3.mono (by have := hb2.size; simp at this; omega))⟩
   rw [ft2]
   exact cat2 _ _ _ _ (wm _ _ _ _ _ _ rfl HIE.out rfl) HJE.out)
 have q2 : (op == 2) = false := by rw [beq_eq_false_iff_ne]; exact h2
 by_cases h4 : op = 4
 ·subst h4
  go_enter Tryz.func76, Tryz.ntmps76
  go_wp2
  go_ret
  refine ⟨congrArg (fun b => Ending.returned (.string b)) ?_, hbA _⟩
  exact wm _ _ _ _ _ _ rfl (dY nm).symm rfl
 have q4 : (op == 4) = false := by rw [beq_eq_false_iff_ne]; exact h4
 by_cases h5 : op = 5
 ·subst h5
  go_enter Tryz.func76, Tryz.ntmps76
  go_wp2
  go_ret
  refine ⟨congrArg (fun b => Ending.returned (.string b)) ?_, hbA _⟩
  exact wm _ _ _ _ _ _ rfl (dY nm).symm rfl
 have q5 : (op == 5) = false := by rw [beq_eq_false_iff_ne]; exact h5
 by_cases h3 : op = 3
 ·subst h3
  exact sets_ref nm x y bl cl bA bc cA cc w S HB.out HC.out hS HOK.out hlim
 have q3 : (op == 3) = false := by rw [beq_eq_false_iff_ne]; exact h3
 by_cases h6 : op = 6
 ·subst h6
  go_enter Tryz.func76, Tryz.ntmps76
  go_wp2
  go_ret
  refine ⟨congrArg (fun b => Ending.returned (.string b)) ?_, hbA _⟩
  exact (dY nm).symm
 have q6 : (op == 6) = false := by rw [beq_eq_false_iff_ne]; exact h6
 have := HOK.out
 simp [jQ, h1, h2, h3, h4, h5, h6] at this
end Go.Proofs.YtbmglebipepdmaaGreatDoor
namespace Go.Proofs.YtbmglebipepdmaaGreatDoor
open Go.RowKit
set_option maxRecDepth 100000 in
set_option maxHeartbeats 4000000 in
theorem GD (line : Int) (name : ByteArray) (names : List ByteArray) (faults : List Ft) (term : Tm) (proto : ByteArray) (read write : Tm) (use : ByteArray) (nA : Option Addr) (nc : Nat) (fA : Option Addr) (fc : Nat) (o1 : Int) (m1 : ByteArray) (d1 : Int) (wA1 : Option Addr) (wn1 wc1 : Nat) (kA1 : Option Addr) (kn1 kc1 : Nat) (o2 : Int) (m2 : ByteArray) (d2 : Int) (wA2 : Option Addr) (wn2 wc2 : Nat) (kA2 : Option Addr) (kn2 kc2 : Nat) (o3 : Int) (m3 : ByteArray) (d3 : Int) (wA3 : Option Addr) (wn3 wc3 : Nat) (kA3 : Option Addr) (kn3 kc3 : Nat) (w : World) (S : Nat → Prop) (hS : ∀ g, S g → g < w.heap.size)
  (hnm : name.size ≤ 24) (hs : aN w S 1 nA names.length (names.map Value.string)) (hon : bD names = true) (hlim : names.length ≤ 1000000000) :
  Calls Tryz.prog 40 #[.agg #[.int .i64 1, .int .i64 line, .string name, .slice nA names.length nc, .slice fA faults.length fc, .int .i64 o1, .string m1, .int .i64 d1, .slice wA1 wn1 wc1, .slice kA1 kn1 kc1, .string proto, .int .i64 o2, .string m2, .int .i64 d2, .slice wA2 wn2 wc2, .slice kA2 kn2 kc2, .int .i64 o3, .string m3, .int .i64 d3, .slice wA3 wn3 wc3, .slice kA3 kn3 kc3, .string use]] w fun e w' => e = .returned (.string (bs (eZ ⟨1, line, name, names, faults, term, proto, read, write, use⟩))) ∧ Below w.heap.size w w' := by
 have hbA : ∀ o, Below w.heap.size w (w.alloc o) := fun o => (Below.refl _ _).alloc (Nat.le_refl _) o
 have hnb := fu hon
 have htn := ol (List.all_eq_true.1 hon)
 obtain ⟨TN, hTN⟩ : ∃ T : ByteArray, T = bs (dJ names) := ⟨_, rfl⟩
 have hTNs : TN.size ≤ 26000000000 := by rw [hTN, bZ]; omega
 have HN := Lib.hid hs
 have HL := Lib.hid (fun (W : World) (hb : Below w.heap.size w W) => show Calls Tryz.prog 75 #[.slice nA names.length nc] W (fun e w' => e = .returned (.string TN) ∧ Below W.heap.size W w') by rw [hTN]; exact (uE names nA nc W S (HN.out.keep (aA hb hS)) (fun g hg => by have := hS g hg; have := hb.size; omega) (by omega)).mono fun e w' h => ⟨h.1, by rw [← h.2]; exact Below.refl _ _⟩)
 have HTN := Lib.hid hTN
 clear hs hon hnb htn hTN
 go_enter Tryz.func40, Tryz.ntmps40
 go_upto_region 3 with fail
 obtain ⟨W0, hW0⟩ : ∃ W0 : World, W0 = w.alloc (.cells #[.int .i64 1, .int .i64 line, .string name, .slice nA names.length nc, .slice fA faults.length fc, .int .i64 o1, .string m1, .int .i64 d1, .slice wA1 wn1 wc1, .slice kA1 kn1 kc1, .string proto, .int .i64 o2, .string m2, .int .i64 d2, .slice wA2 wn2 wc2, .slice kA2 kn2 kc2, .int .i64 o3, .string m3, .int .i64 d3, .slice wA3 wn3 wc3, .slice kA3 kn3 kc3, .string use] 41) := ⟨_, rfl⟩
 have hb0 : Below w.heap.size w W0 := by rw [hW0]; exact hbA _
 have hs0 : w.heap.size < W0.heap.size := by rw [hW0]; simp
 have hr0 : W0.heap[w.heap.size]? = some (.cells #[.int .i64 1, .int .i64 line, .string name, .slice nA names.length nc, .slice fA faults.length fc, .int .i64 o1, .string m1, .int .i64 d1, .slice wA1 wn1 wc1, .slice kA1 kn1 kc1, .string proto, .int .i64 o2, .string m2, .int .i64 d2, .slice wA2 wn2 wc2, .slice kA2 kn2 kc2, .int .i64 o3, .string m3, .int .i64 d3, .slice wA3 wn3 wc3, .slice kA3 kn3 kc3, .string use] 41 (0, 0)) := by rw [hW0]; exact heap_alloc_new w _
 rw [← hW0]
 have HR0 := Lib.hid hr0
 clear hW0 hr0
 have ks2 : ¬ (9223372036854775807 < 5 + name.size) := by omega
 have ks3 : ¬ (9223372036854775807 < 5 + name.size + 3) := by omega
 have ks4 : ¬ (9223372036854775807 < 5 + name.size + 3 + TN.size) := by omega
 have ks5 : ¬ (9223372036854775807 < 5 + name.size + 3 + TN.size + 3) := by omega
 have c2 := ah HR0.out 2 _ rfl
 have c3 := ah HR0.out 3 _ rfl
 go_region_held3 (fun w' => w'.cell? ⟨w.heap.size, 2, none⟩ = some (.string name) ∧ w'.cell? ⟨w.heap.size, 3, none⟩ = some (.slice nA names.length nc)) (first | go_keep | (refine ⟨?_, ?_⟩ <;> (rw [hb2.cell (by simp; omega)]; go_keep)))
  (first | (go_at_call 75; (refine (HL.out _ (below_drewN hb0 _)).mono ?_; rintro e w2 ⟨rfl, hb2⟩)))
 all_goals (
  go_wp2
  go_ret
  refine ⟨congrArg (fun b => Ending.returned (.string b)) ?_, (below_drewN hb0 _).trans (hb2.mono (by simp; omega))⟩
  exact cat5 _ _ _ _ _ _ _ _ _ _ rfl (dY name).symm rfl HTN.out rfl)


set_option maxRecDepth 100000 in
set_option maxHeartbeats 4000000 in
theorem Gx (line : Int) (name : ByteArray) (names : List ByteArray) (faults : List Ft) (term : Tm) (proto : ByteArray) (read write : Tm) (use : ByteArray) (nA : Option Addr) (nc : Nat) (fA : Option Addr) (fc : Nat) (o1 : Int) (m1 : ByteArray) (d1 : Int) (wA1 : Option Addr) (wn1 wc1 : Nat) (kA1 : Option Addr) (kn1 kc1 : Nat) (o2 : Int) (m2 : ByteArray) (d2 : Int) (wA2 : Option Addr) (wn2 wc2 : Nat) (kA2 : Option Addr) (kn2 kc2 : Nat) (o3 : Int) (m3 : ByteArray) (d3 : Int) (wA3 : Option Addr) (wn3 wc3 : Nat) (kA3 : Option Addr) (kn3 kc3 : Nat) (w : World) (S : Nat → Prop) (hS : ∀ g, S g → g < w.heap.size)
  (hs : aN w S 1 nA names.length (names.map Value.string)) (hon : bD names = true) (hlim : names.length ≤ 1000000000) :
  Calls Tryz.prog 40 #[.agg #[.int .i64 5, .int .i64 line, .string name, .slice nA names.length nc, .slice fA faults.length fc, .int .i64 o1, .string m1, .int .i64 d1, .slice wA1 wn1 wc1, .slice kA1 kn1 kc1, .string proto, .int .i64 o2, .string m2, .int .i64 d2, .slice wA2 wn2 wc2, .slice kA2 kn2 kc2, .int .i64 o3, .string m3, .int .i64 d3, .slice wA3 wn3 wc3, .slice kA3 kn3 kc3, .string use]] w fun e w' => e = .returned (.string (bs (eZ ⟨5, line, name, names, faults, term, proto, read, write, use⟩))) ∧ Below w.heap.size w w' := by
 have hbA : ∀ o, Below w.heap.size w (w.alloc o) := fun o => (Below.refl _ _).alloc (Nat.le_refl _) o
 have hnb := fu hon
 have htn := ol (List.all_eq_true.1 hon)
 obtain ⟨TN, hTN⟩ : ∃ T : ByteArray, T = bs (dJ names) := ⟨_, rfl⟩
 have hTNs : TN.size ≤ 26000000000 := by rw [hTN, bZ]; omega
 have HN := Lib.hid hs
 have HL := Lib.hid (fun (W : World) (hb : Below w.heap.size w W) => show Calls Tryz.prog 75 #[.slice nA names.length nc] W (fun e w' => e = .returned (.string TN) ∧ Below W.heap.size W w') by rw [hTN]; exact (uE names nA nc W S (HN.out.keep (aA hb hS)) (fun g hg => by have := hS g hg; have := hb.size; omega) (by omega)).mono fun e w' h => ⟨h.1, by rw [← h.2]; exact Below.refl _ _⟩)
 have HTN := Lib.hid hTN
 clear hs hon hnb htn hTN
 go_enter Tryz.func40, Tryz.ntmps40
 go_wp2_with fail
 refine (HL.out _ (hbA _)).mono ?_
 rintro e w2 ⟨rfl, hb2⟩
 go_wp2
 go_ret
 refine ⟨congrArg (fun b => Ending.returned (.string b)) ?_, (hbA _).trans (hb2.mono (by simp))⟩
 exact wm _ _ _ _ _ _ rfl HTN.out rfl


set_option maxRecDepth 100000 in
set_option maxHeartbeats 4000000 in
theorem Gv (line : Int) (name : ByteArray) (names : List ByteArray) (faults : List Ft) (term : Tm) (proto : ByteArray) (read write : Tm) (use : ByteArray) (nA : Option Addr) (nc : Nat) (fA : Option Addr) (fc : Nat) (o1 : Int) (m1 : ByteArray) (d1 : Int) (wA1 : Option Addr) (wn1 wc1 : Nat) (kA1 : Option Addr) (kn1 kc1 : Nat) (o2 : Int) (m2 : ByteArray) (d2 : Int) (wA2 : Option Addr) (wn2 wc2 : Nat) (kA2 : Option Addr) (kn2 kc2 : Nat) (o3 : Int) (m3 : ByteArray) (d3 : Int) (wA3 : Option Addr) (wn3 wc3 : Nat) (kA3 : Option Addr) (kn3 kc3 : Nat) (w : World) (S : Nat → Prop) (hS : ∀ g, S g → g < w.heap.size)
  (hs : aN w S 1 nA names.length (names.map Value.string)) (hon : bD names = true) (hlim : names.length ≤ 1000000000) :
  Calls Tryz.prog 40 #[.agg #[.int .i64 7, .int .i64 line, .string name, .slice nA names.length nc, .slice fA faults.length fc, .int .i64 o1, .string m1, .int .i64 d1, .slice wA1 wn1 wc1, .slice kA1 kn1 kc1, .string proto, .int .i64 o2, .string m2, .int .i64 d2, .slice wA2 wn2 wc2, .slice kA2 kn2 kc2, .int .i64 o3, .string m3, .int .i64 d3, .slice wA3 wn3 wc3, .slice kA3 kn3 kc3, .string use]] w fun e w' => e = .returned (.string (bs (eZ ⟨7, line, name, names, faults, term, proto, read, write, use⟩))) ∧ Below w.heap.size w w' := by
 have hbA : ∀ o, Below w.heap.size w (w.alloc o) := fun o => (Below.refl _ _).alloc (Nat.le_refl _) o
 have hnb := fu hon
 have htn := ol (List.all_eq_true.1 hon)
 obtain ⟨TN, hTN⟩ : ∃ T : ByteArray, T = bs (dJ names) := ⟨_, rfl⟩
 have hTNs : TN.size ≤ 26000000000 := by rw [hTN, bZ]; omega
 have HN := Lib.hid hs
 have HL := Lib.hid (fun (W : World) (hb : Below w.heap.size w W) => show Calls Tryz.prog 75 #[.slice nA names.length nc] W (fun e w' => e = .returned (.string TN) ∧ Below W.heap.size W w') by rw [hTN]; exact (uE names nA nc W S (HN.out.keep (aA hb hS)) (fun g hg => by have := hS g hg; have := hb.size; omega) (by omega)).mono fun e w' h => ⟨h.1, by rw [← h.2]; exact Below.refl _ _⟩)
 have HTN := Lib.hid hTN
 clear hs hon hnb htn hTN
 go_enter Tryz.func40, Tryz.ntmps40
 go_wp2_with fail
 refine (HL.out _ (hbA _)).mono ?_
 rintro e w2 ⟨rfl, hb2⟩
 go_wp2
 go_ret
 refine ⟨congrArg (fun b => Ending.returned (.string b)) ?_, (hbA _).trans (hb2.mono (by simp))⟩
 exact wm _ _ _ _ _ _ rfl HTN.out rfl


set_option maxRecDepth 100000 in
set_option maxHeartbeats 4000000 in
theorem Gz (line : Int) (name : ByteArray) (names : List ByteArray) (faults : List Ft) (term : Tm) (proto : ByteArray) (read write : Tm) (use : ByteArray) (nA : Option Addr) (nc : Nat) (fA : Option Addr) (fc : Nat) (o1 : Int) (m1 : ByteArray) (d1 : Int) (wA1 : Option Addr) (wn1 wc1 : Nat) (kA1 : Option Addr) (kn1 kc1 : Nat) (o2 : Int) (m2 : ByteArray) (d2 : Int) (wA2 : Option Addr) (wn2 wc2 : Nat) (kA2 : Option Addr) (kn2 kc2 : Nat) (o3 : Int) (m3 : ByteArray) (d3 : Int) (wA3 : Option Addr) (wn3 wc3 : Nat) (kA3 : Option Addr) (kn3 kc3 : Nat) (w : World) (S : Nat → Prop) (hS : ∀ g, S g → g < w.heap.size)
  (hnm : name.size ≤ 24) (hv1 : eH w S term (.agg #[.int .i64 o1, .string m1, .int .i64 d1, .slice wA1 wn1 wc1, .slice kA1 kn1 kc1])) (hok1 : jf term = true) (hlim1 : av term ≤ 1000000000) (hpw : Pow w) :
  Calls Tryz.prog 40 #[.agg #[.int .i64 3, .int .i64 line, .string name, .slice nA names.length nc, .slice fA faults.length fc, .int .i64 o1, .string m1, .int .i64 d1, .slice wA1 wn1 wc1, .slice kA1 kn1 kc1, .string proto, .int .i64 o2, .string m2, .int .i64 d2, .slice wA2 wn2 wc2, .slice kA2 kn2 kc2, .int .i64 o3, .string m3, .int .i64 d3, .slice wA3 wn3 wc3, .slice kA3 kn3 kc3, .string use]] w fun e w' => e = .returned (.string (bs (eZ ⟨3, line, name, names, faults, term, proto, read, write, use⟩))) ∧ Below w.heap.size w w' := by
 have hbA : ∀ o, Below w.heap.size w (w.alloc o) := fun o => (Below.refl _ _).alloc (Nat.le_refl _) o
 have htl1 := eY hok1
 obtain ⟨T1, hT1⟩ : ∃ T : ByteArray, T = bs (aS term) := ⟨_, rfl⟩
 have hTs1 : T1.size ≤ 48000000000 := by rw [hT1, bZ]; omega
 have HV1 := Lib.hid hv1
 have HT1 := Lib.hid (fun (W : World) (hb : Below w.heap.size w W) => show Calls Tryz.prog 77 #[.agg #[.int .i64 o1, .string m1, .int .i64 d1, .slice wA1 wn1 wc1, .slice kA1 kn1 kc1]] W (fun e w' => e = .returned (.string T1) ∧ Below W.heap.size W w') by rw [hT1]; exact nk term _ W S (HV1.out.keep (aA hb hS)) (fun g hg => by have := hS g hg; have := hb.size; omega) hok1 hlim1 (hpw.below hb))
 have HE1 := Lib.hid hT1
 clear hv1 htl1 hT1
 go_enter Tryz.func40, Tryz.ntmps40
 go_upto_region 14 with fail
 obtain ⟨W0, hW0⟩ : ∃ W0 : World, W0 = w.alloc (.cells #[.int .i64 3, .int .i64 line, .string name, .slice nA names.length nc, .slice fA faults.length fc, .int .i64 o1, .string m1, .int .i64 d1, .slice wA1 wn1 wc1, .slice kA1 kn1 kc1, .string proto, .int .i64 o2, .string m2, .int .i64 d2, .slice wA2 wn2 wc2, .slice kA2 kn2 kc2, .int .i64 o3, .string m3, .int .i64 d3, .slice wA3 wn3 wc3, .slice kA3 kn3 kc3, .string use] 41) := ⟨_, rfl⟩
 have hb0 : Below w.heap.size w W0 := by rw [hW0]; exact hbA _
 have hs0 : w.heap.size < W0.heap.size := by rw [hW0]; simp
 have hr0 : W0.heap[w.heap.size]? = some (.cells #[.int .i64 3, .int .i64 line, .string name, .slice nA names.length nc, .slice fA faults.length fc, .int .i64 o1, .string m1, .int .i64 d1, .slice wA1 wn1 wc1, .slice kA1 kn1 kc1, .string proto, .int .i64 o2, .string m2, .int .i64 d2, .slice wA2 wn2 wc2, .slice kA2 kn2 kc2, .int .i64 o3, .string m3, .int .i64 d3, .slice wA3 wn3 wc3, .slice kA3 kn3 kc3, .string use] 41 (0, 0)) := by rw [hW0]; exact heap_alloc_new w _
 rw [← hW0]
 have HR0 := Lib.hid hr0
 clear hW0 hr0
 have ks2 : ¬ (9223372036854775807 < 7 + name.size) := by omega
 have ks3 : ¬ (9223372036854775807 < 7 + name.size + 3) := by omega
 have ks4 : ¬ (9223372036854775807 < 7 + name.size + 3 + T1.size) := by omega
 have ks5 : ¬ (9223372036854775807 < 7 + name.size + 3 + T1.size + 1) := by omega
 have c2 := ah HR0.out 2 _ rfl
 have c5 := ah HR0.out 5 _ rfl
 have c6 := ah HR0.out 6 _ rfl
 have c7 := ah HR0.out 7 _ rfl
 have c8 := ah HR0.out 8 _ rfl
 have c9 := ah HR0.out 9 _ rfl
 go_region_held3 (fun w' => w'.cell? ⟨w.heap.size, 2, none⟩ = some (.string name) ∧ w'.cell? ⟨w.heap.size, 5, none⟩ = some (.int .i64 o1) ∧ w'.cell? ⟨w.heap.size, 6, none⟩ = some (.string m1) ∧ w'.cell? ⟨w.heap.size, 7, none⟩ = some (.int .i64 d1) ∧ w'.cell? ⟨w.heap.size, 8, none⟩ = some (.slice wA1 wn1 wc1) ∧ w'.cell? ⟨w.heap.size, 9, none⟩ = some (.slice kA1 kn1 kc1)) (first | go_keep | (refine ⟨?_, ?_, ?_, ?_, ?_, ?_⟩ <;> (rw [hb2.cell (by simp; omega)]; go_keep)))
  (first | (go_at_call 77; (refine (HT1.out _ (below_drewN hb0 _)).mono ?_; rintro e w2 ⟨rfl, hb2⟩)))
 all_goals (
  go_wp2
  go_ret
  refine ⟨congrArg (fun b => Ending.returned (.string b)) ?_, (below_drewN hb0 _).trans (hb2.mono (by simp; omega))⟩
  exact cat5 _ _ _ _ _ _ _ _ _ _ rfl (dY name).symm rfl HE1.out rfl)


set_option maxRecDepth 100000 in
set_option maxHeartbeats 4000000 in
theorem Gw (line : Int) (name : ByteArray) (names : List ByteArray) (faults : List Ft) (term : Tm) (proto : ByteArray) (read write : Tm) (use : ByteArray) (nA : Option Addr) (nc : Nat) (fA : Option Addr) (fc : Nat) (o1 : Int) (m1 : ByteArray) (d1 : Int) (wA1 : Option Addr) (wn1 wc1 : Nat) (kA1 : Option Addr) (kn1 kc1 : Nat) (o2 : Int) (m2 : ByteArray) (d2 : Int) (wA2 : Option Addr) (wn2 wc2 : Nat) (kA2 : Option Addr) (kn2 kc2 : Nat) (o3 : Int) (m3 : ByteArray) (d3 : Int) (wA3 : Option Addr) (wn3 wc3 : Nat) (kA3 : Option Addr) (kn3 kc3 : Nat) (w : World) (S : Nat → Prop) (_hS : ∀ g, S g → g < w.heap.size)
  (hnm : name.size ≤ 24) (hus : use.size ≤ 24) :
  Calls Tryz.prog 40 #[.agg #[.int .i64 6, .int .i64 line, .string name, .slice nA names.length nc, .slice fA faults.length fc, .int .i64 o1, .string m1, .int .i64 d1, .slice wA1 wn1 wc1, .slice kA1 kn1 kc1, .string proto, .int .i64 o2, .string m2, .int .i64 d2, .slice wA2 wn2 wc2, .slice kA2 kn2 kc2, .int .i64 o3, .string m3, .int .i64 d3, .slice wA3 wn3 wc3, .slice kA3 kn3 kc3, .string use]] w fun e w' => e = .returned (.string (bs (eZ ⟨6, line, name, names, faults, term, proto, read, write, use⟩))) ∧ Below w.heap.size w w' := by
 have hbA : ∀ o, Below w.heap.size w (w.alloc o) := fun o => (Below.refl _ _).alloc (Nat.le_refl _) o
 by_cases zu : use.size = 0
 ·obtain rfl := nZ zu
  clear zu hus
  go_enter Tryz.func40, Tryz.ntmps40
  go_wp2
  go_ret
  refine ⟨congrArg (fun b => Ending.returned (.string b)) ?_, hbA _⟩
  exact wm _ _ _ _ _ _ rfl (dY name).symm rfl
 ·have hpu : 0 < use.size := by omega
  have hnu2 := gy hpu
  have hnu := bg hpu
  have E := Lib.hid (show eZ ⟨6, line, name, names, faults, term, proto, read, write, use⟩ = [99, 108, 105, 101, 110, 116, 32] ++ name.data.toList ++ [32, 102, 97, 117, 108, 116, 115, 32] ++ use.data.toList ++ [59] by
   exact if_neg zu)
  clear zu
  go_enter Tryz.func40, Tryz.ntmps40
  go_wp2
  go_ret
  refine ⟨congrArg (fun b => Ending.returned (.string b)) ?_, hbA _⟩
  rw [E.out]
  exact cat5 _ _ _ _ _ _ _ _ _ _ rfl (dY name).symm rfl (dY use).symm rfl


set_option maxRecDepth 100000 in
set_option maxHeartbeats 4000000 in
theorem Gy (line : Int) (name : ByteArray) (names : List ByteArray) (faults : List Ft) (term : Tm) (proto : ByteArray) (read write : Tm) (use : ByteArray) (nA : Option Addr) (nc : Nat) (fA : Option Addr) (fc : Nat) (o1 : Int) (m1 : ByteArray) (d1 : Int) (wA1 : Option Addr) (wn1 wc1 : Nat) (kA1 : Option Addr) (kn1 kc1 : Nat) (o2 : Int) (m2 : ByteArray) (d2 : Int) (wA2 : Option Addr) (wn2 wc2 : Nat) (kA2 : Option Addr) (kn2 kc2 : Nat) (o3 : Int) (m3 : ByteArray) (d3 : Int) (wA3 : Option Addr) (wn3 wc3 : Nat) (kA3 : Option Addr) (kn3 kc3 : Nat) (w : World) (S : Nat → Prop) (hS : ∀ g, S g → g < w.heap.size)
  (hnm : name.size ≤ 24) (hpr : proto.size ≤ 24) (hus : use.size ≤ 24) (hv2 : eH w S read (.agg #[.int .i64 o2, .string m2, .int .i64 d2, .slice wA2 wn2 wc2, .slice kA2 kn2 kc2])) (hok2 : jf read = true) (JV : av read ≤ 1000000000) (hv3 : eH w S write (.agg #[.int .i64 o3, .string m3, .int .i64 d3, .slice wA3 wn3 wc3, .slice kA3 kn3 kc3])) (hok3 : jf write = true) (hlim3 : av write ≤ 1000000000) (hpw : Pow w) :
  Calls Tryz.prog 40 #[.agg #[.int .i64 4, .int .i64 line, .string name, .slice nA names.length nc, .slice fA faults.length fc, .int .i64 o1, .string m1, .int .i64 d1, .slice wA1 wn1 wc1, .slice kA1 kn1 kc1, .string proto, .int .i64 o2, .string m2, .int .i64 d2, .slice wA2 wn2 wc2, .slice kA2 kn2 kc2, .int .i64 o3, .string m3, .int .i64 d3, .slice wA3 wn3 wc3, .slice kA3 kn3 kc3, .string use]] w fun e w' => e = .returned (.string (bs (eZ ⟨4, line, name, names, faults, term, proto, read, write, use⟩))) ∧ Below w.heap.size w w' := by
 have hbA : ∀ o, Below w.heap.size w (w.alloc o) := fun o => (Below.refl _ _).alloc (Nat.le_refl _) o
 have htl2 := eY hok2
 obtain ⟨T2, hT2⟩ : ∃ T : ByteArray, T = bs (aS read) := ⟨_, rfl⟩
 have hTs2 : T2.size ≤ 48000000000 := by rw [hT2, bZ]; omega
 have HV2 := Lib.hid hv2
 have HT2 := Lib.hid (fun (W : World) (hb : Below w.heap.size w W) => show Calls Tryz.prog 77 #[.agg #[.int .i64 o2, .string m2, .int .i64 d2, .slice wA2 wn2 wc2, .slice kA2 kn2 kc2]] W (fun e w' => e = .returned (.string T2) ∧ Below W.heap.size W w') by rw [hT2]; exact nk read _ W S (HV2.out.keep (aA hb hS)) (fun g hg => by have := hS g hg; have := hb.size; omega) hok2 JV (hpw.below hb))
 have HE2 := Lib.hid hT2
 clear hv2 htl2 hT2
 have htl3 := eY hok3
 obtain ⟨T3, hT3⟩ : ∃ T : ByteArray, T = bs (aS write) := ⟨_, rfl⟩
 have hTs3 : T3.size ≤ 48000000000 := by rw [hT3, bZ]; omega
 have HV3 := Lib.hid hv3
 have HT3 := Lib.hid (fun (W : World) (hb : Below w.heap.size w W) => show Calls Tryz.prog 77 #[.agg #[.int .i64 o3, .string m3, .int .i64 d3, .slice wA3 wn3 wc3, .slice kA3 kn3 kc3]] W (fun e w' => e = .returned (.string T3) ∧ Below W.heap.size W w') by rw [hT3]; exact nk write _ W S (HV3.out.keep (aA hb hS)) (fun g hg => by have := hS g hg; have := hb.size; omega) hok3 hlim3 (hpw.below hb))
 have HE3 := Lib.hid hT3
 clear hv3 htl3 hT3
 have E := Lib.hid (Hl line name names faults term proto read write use T2 T3 HE2.out HE3.out)
 go_enter Tryz.func40, Tryz.ntmps40
 go_upto_region 16 with fail
 obtain ⟨W0, hW0⟩ : ∃ W0 : World, W0 = w.alloc (.cells #[.int .i64 4, .int .i64 line, .string name, .slice nA names.length nc, .slice fA faults.length fc, .int .i64 o1, .string m1, .int .i64 d1, .slice wA1 wn1 wc1, .slice kA1 kn1 kc1, .string proto, .int .i64 o2, .string m2, .int .i64 d2, .slice wA2 wn2 wc2, .slice kA2 kn2 kc2, .int .i64 o3, .string m3, .int .i64 d3, .slice wA3 wn3 wc3, .slice kA3 kn3 kc3, .string use] 41) := ⟨_, rfl⟩
 have hb0 : Below w.heap.size w W0 := by rw [hW0]; exact hbA _
 have hs0 : w.heap.size < W0.heap.size := by rw [hW0]; simp
 have hr0 : W0.heap[w.heap.size]? = some (.cells #[.int .i64 4, .int .i64 line, .string name, .slice nA names.length nc, .slice fA faults.length fc, .int .i64 o1, .string m1, .int .i64 d1, .slice wA1 wn1 wc1, .slice kA1 kn1 kc1, .string proto, .int .i64 o2, .string m2, .int .i64 d2, .slice wA2 wn2 wc2, .slice kA2 kn2 kc2, .int .i64 o3, .string m3, .int .i64 d3, .slice wA3 wn3 wc3, .slice kA3 kn3 kc3, .string use] 41 (0, 0)) := by rw [hW0]; exact heap_alloc_new w _
 rw [← hW0]
 have HR0 := Lib.hid hr0
 clear hW0 hr0
 have ks2 : ¬ (9223372036854775807 < 7 + name.size) := by omega
 have ks3 : ¬ (9223372036854775807 < 7 + name.size + 1) := by omega
 have ks4 : ¬ (9223372036854775807 < 7 + name.size + 1 + proto.size) := by omega
 have ks5 : ¬ (9223372036854775807 < 7 + name.size + 1 + proto.size + 6) := by omega
 have ks6 : ¬ (9223372036854775807 < 7 + name.size + 1 + proto.size + 6 + T2.size) := by omega
 have ks7 : ¬ (9223372036854775807 < 7 + name.size + 1 + proto.size + 6 + T2.size + 7) := by omega
 have ks8 : ¬ (9223372036854775807 < 7 + name.size + 1 + proto.size + 6 + T2.size + 7 + T3.size) := by omega
 have ks9 : ¬ (9223372036854775807 < 7 + name.size + 1 + proto.size + 6 + T2.size + 7 + T3.size + 8) := by omega
 have ks10 : ¬ (9223372036854775807 < 7 + name.size + 1 + proto.size + 6 + T2.size + 7 + T3.size + 8 + use.size) := by omega
 have ks11 : ¬ (9223372036854775807 < 7 + name.size + 1 + proto.size + 6 + T2.size + 7 + T3.size + 8 + use.size + 1) := by omega
 have c2 : W0.cell? ⟨w.heap.size, 2, none⟩ = some (.string name) := ah HR0.out 2 _ rfl
 have c10 : W0.cell? ⟨w.heap.size, 10, none⟩ = some (.string proto) := ah HR0.out 10 _ rfl
 have c11 : W0.cell? ⟨w.heap.size, 11, none⟩ = some (.int .i64 o2) := ah HR0.out 11 _ rfl
 have c12 : W0.cell? ⟨w.heap.size, 12, none⟩ = some (.string m2) := ah HR0.out 12 _ rfl
 have c13 : W0.cell? ⟨w.heap.size, 13, none⟩ = some (.int .i64 d2) := ah HR0.out 13 _ rfl
 have c14 : W0.cell? ⟨w.heap.size, 14, none⟩ = some (.slice wA2 wn2 wc2) := ah HR0.out 14 _ rfl
 have c15 : W0.cell? ⟨w.heap.size, 15, none⟩ = some (.slice kA2 kn2 kc2) := ah HR0.out 15 _ rfl
 have c16 : W0.cell? ⟨w.heap.size, 16, none⟩ = some (.int .i64 o3) := ah HR0.out 16 _ rfl
 have c17 : W0.cell? ⟨w.heap.size, 17, none⟩ = some (.string m3) := ah HR0.out 17 _ rfl
 have c18 : W0.cell? ⟨w.heap.size, 18, none⟩ = some (.int .i64 d3) := ah HR0.out 18 _ rfl
 have c19 : W0.cell? ⟨w.heap.size, 19, none⟩ = some (.slice wA3 wn3 wc3) := ah HR0.out 19 _ rfl
 have c20 : W0.cell? ⟨w.heap.size, 20, none⟩ = some (.slice kA3 kn3 kc3) := ah HR0.out 20 _ rfl
 have c21 : W0.cell? ⟨w.heap.size, 21, none⟩ = some (.string use) := ah HR0.out 21 _ rfl
 go_region_held3 (fun w' => w'.cell? ⟨w.heap.size, 2, none⟩ = some (.string name) ∧ w'.cell? ⟨w.heap.size, 10, none⟩ = some (.string proto) ∧ w'.cell? ⟨w.heap.size, 11, none⟩ = some (.int .i64 o2) ∧ w'.cell? ⟨w.heap.size, 12, none⟩ = some (.string m2) ∧ w'.cell? ⟨w.heap.size, 13, none⟩ = some (.int .i64 d2) ∧ w'.cell? ⟨w.heap.size, 14, none⟩ = some (.slice wA2 wn2 wc2) ∧ w'.cell? ⟨w.heap.size, 15, none⟩ = some (.slice kA2 kn2 kc2) ∧ w'.cell? ⟨w.heap.size, 16, none⟩ = some (.int .i64 o3) ∧ w'.cell? ⟨w.heap.size, 17, none⟩ = some (.string m3) ∧ w'.cell? ⟨w.heap.size, 18, none⟩ = some (.int .i64 d3) ∧ w'.cell? ⟨w.heap.size, 19, none⟩ = some (.slice wA3 wn3 wc3) ∧ w'.cell? ⟨w.heap.size, 20, none⟩ = some (.slice kA3 kn3 kc3) ∧ w'.cell? ⟨w.heap.size, 21, none⟩ = some (.string use)) (first | exact ⟨(hb3.cell (p := ⟨w.heap.size, 2, none⟩) (Nat.lt_of_lt_of_le hs0 hb2.size)).trans ((hb2.cell (p := ⟨w.heap.size, 2, none⟩) hs0).trans c2), (hb3.cell (p := ⟨w.heap.size, 10, none⟩) (Nat.lt_of_lt_of_le hs0 hb2.size)).trans ((hb2.cell (p := ⟨w.heap.size, 10, none⟩) hs0).trans c10), (hb3.cell (p := ⟨w.heap.size, 11, none⟩) (Nat.lt_of_lt_of_le hs0 hb2.size)).trans ((hb2.cell (p := ⟨w.heap.size, 11, none⟩) hs0).trans c11), (hb3.cell (p := ⟨w.heap.size, 12, none⟩) (Nat.lt_of_lt_of_le hs0 hb2.size)).trans ((hb2.cell (p := ⟨w.heap.size, 12, none⟩) hs0).trans c12), (hb3.cell (p := ⟨w.heap.size, 13, none⟩) (Nat.lt_of_lt_of_le hs0 hb2.size)).trans ((hb2.cell (p := ⟨w.heap.size, 13, none⟩) hs0).trans c13), (hb3.cell (p := ⟨w.heap.size, 14, none⟩) (Nat.lt_of_lt_of_le hs0 hb2.size)).trans ((hb2.cell (p := ⟨w.heap.size, 14, none⟩) hs0).trans c14), (hb3.cell (p := ⟨w.heap.size, 15, none⟩) (Nat.lt_of_lt_of_le hs0 hb2.size)).trans ((hb2.cell (p := ⟨w.heap.size, 15, none⟩) hs0).trans c15), (hb3.cell (p := ⟨w.heap.size, 16, none⟩) (Nat.lt_of_lt_of_le hs0 hb2.size)).trans ((hb2.cell (p := ⟨w.heap.size, 16, none⟩) hs0).trans c16), (hb3.cell (p := ⟨w.heap.size, 17, none⟩) (Nat.lt_of_lt_of_le hs0 hb2.size)).trans ((hb2.cell (p := ⟨w.heap.size, 17, none⟩) hs0).trans c17), (hb3.cell (p := ⟨w.heap.size, 18, none⟩) (Nat.lt_of_lt_of_le hs0 hb2.size)).trans ((hb2.cell (p := ⟨w.heap.size, 18, none⟩) hs0).trans c18), (hb3.cell (p := ⟨w.heap.size, 19, none⟩) (Nat.lt_of_lt_of_le hs0 hb2.size)).trans ((hb2.cell (p := ⟨w.heap.size, 19, none⟩) hs0).trans c19), (hb3.cell (p := ⟨w.heap.size, 20, none⟩) (Nat.lt_of_lt_of_le hs0 hb2.size)).trans ((hb2.cell (p := ⟨w.heap.size, 20, none⟩) hs0).trans c20), (hb3.cell (p := ⟨w.heap.size, 21, none⟩) (Nat.lt_of_lt_of_le hs0 hb2.size)).trans ((hb2.cell (p := ⟨w.heap.size, 21, none⟩) hs0).trans c21)⟩ | exact ⟨(hb2.cell (p := ⟨w.heap.size, 2, none⟩) hs0).trans c2, (hb2.cell (p := ⟨w.heap.size, 10, none⟩) hs0).trans c10, (hb2.cell (p := ⟨w.heap.size, 11, none⟩) hs0).trans c11, (hb2.cell (p := ⟨w.heap.size, 12, none⟩) hs0).trans c12, (hb2.cell (p := ⟨w.heap.size, 13, none⟩) hs0).trans c13, (hb2.cell (p := ⟨w.heap.size, 14, none⟩) hs0).trans c14, (hb2.cell (p := ⟨w.heap.size, 15, none⟩) hs0).trans c15, (hb2.cell (p := ⟨w.heap.size, 16, none⟩) hs0).trans c16, (hb2.cell (p := ⟨w.heap.size, 17, none⟩) hs0).trans c17, (hb2.cell (p := ⟨w.heap.size, 18, none⟩) hs0).trans c18, (hb2.cell (p := ⟨w.heap.size, 19, none⟩) hs0).trans c19, (hb2.cell (p := ⟨w.heap.size, 20, none⟩) hs0).trans c20, (hb2.cell (p := ⟨w.heap.size, 21, none⟩) hs0).trans c21⟩ | exact ⟨c2, c10, c11, c12, c13, c14, c15, c16, c17, c18, c19, c20, c21⟩)
  (first | (go_at_call 77; (first | (guard_target = Calls _ _ #[.agg #[.int .i64 o3, _, _, _, _]] _ _; refine (HT3.out _ (iC hb0 hb2)).mono ?_; rintro e w3 ⟨rfl, hb3⟩) | (guard_target =~ Calls _ _ #[.agg #[.int .i64 o2, _, _, _, _]] _ _; refine (HT2.out _ (iC hb0 hb2)).mono ?_; rintro e w3 ⟨rfl, hb3⟩) | (guard_target =~ Calls _ _ #[.agg #[.int .i64 o2, _, _, _, _]] _ _; refine (HT2.out _ hb0.drew).mono ?_; rintro e w2 ⟨rfl, hb2⟩) | (guard_target =~ Calls _ _ #[.agg #[.int .i64 o3, _, _, _, _]] _ _; refine (HT3.out _ hb0.drew).mono ?_; rintro e w2 ⟨rfl, hb2⟩))))
 all_goals (
  go_wp2
  go_ret
  exact ⟨congrArg (fun b => Ending.returned (.string b)) E.out, (iC hb0 hb2).trans (hb3.mono (iC hb0 hb2).size)⟩)


set_option maxRecDepth 100000 in
set_option maxHeartbeats 4000000 in
theorem GA (line : Int) (name : ByteArray) (names : List ByteArray) (faults : List Ft) (term : Tm) (proto : ByteArray) (read write : Tm) (use : ByteArray) (nA : Option Addr) (nc : Nat) (fA : Option Addr) (fc : Nat) (o1 : Int) (m1 : ByteArray) (d1 : Int) (wA1 : Option Addr) (wn1 wc1 : Nat) (kA1 : Option Addr) (kn1 kc1 : Nat) (o2 : Int) (m2 : ByteArray) (d2 : Int) (wA2 : Option Addr) (wn2 wc2 : Nat) (kA2 : Option Addr) (kn2 kc2 : Nat) (o3 : Int) (m3 : ByteArray) (d3 : Int) (wA3 : Option Addr) (wn3 wc3 : Nat) (kA3 : Option Addr) (kn3 kc3 : Nat) (w : World) (S : Nat → Prop) (hS : ∀ g, S g → g < w.heap.size)
  (hnm : name.size ≤ 24) (hf : aU (kU w S) w S 6 fA faults) (hof : faults.all jQ = true) (hlf : faults.length ≤ 10000) (hln : ∀ f ∈ faults, f.aC.length + f.ak.length ≤ 100000000) (hpw : Pow w) :
  Calls Tryz.prog 40 #[.agg #[.int .i64 2, .int .i64 line, .string name, .slice nA names.length nc, .slice fA faults.length fc, .int .i64 o1, .string m1, .int .i64 d1, .slice wA1 wn1 wc1, .slice kA1 kn1 kc1, .string proto, .int .i64 o2, .string m2, .int .i64 d2, .slice wA2 wn2 wc2, .slice kA2 kn2 kc2, .int .i64 o3, .string m3, .int .i64 d3, .slice wA3 wn3 wc3, .slice kA3 kn3 kc3, .string use]] w fun e w' => e = .returned (.string (bs (eZ ⟨2, line, name, names, faults, term, proto, read, write, use⟩))) ∧ Below w.heap.size w w' := by
 have hbA : ∀ o, Below w.heap.size w (w.alloc o) := fun o => (Below.refl _ _).alloc (Nat.le_refl _) o
 have HF := Lib.hid hf
 have HOF := Lib.hid (List.all_eq_true.1 hof)
 have HLN := Lib.hid hln
 have HP := Lib.hid hpw
 have hj1 := join_length_le (faults.map gM) [32, 124, 32]
 have hj2 := ft_lens faults (fun f hf => by have := mK (List.all_eq_true.1 hof f hf); have := hln f hf; omega)
 obtain ⟨Q, hQ⟩ : ∃ Q, Q = faults.map gM := ⟨_, rfl⟩
 rw [← hQ] at hj1 hj2
 have hQl : Q.length = faults.length := by rw [hQ, List.length_map]
 have hjl : (Lib.join Q [32, 124, 32]).length ≤ 28000000000000 := by simp only [List.length_cons, List.length_nil] at hj1; rw [hQl] at hj1; omega
 have HQ := Lib.hid (show ∀ k (h : k < faults.length) (h2 : k < Q.length), Q[k] = gM faults[k] from fun k h h2 => by simp [hQ])
 have HE := Lib.hid (show eZ ⟨2, line, name, names, faults, term, proto, read, write, use⟩ = [102, 97, 117, 108, 116, 115, 32] ++ name.data.toList ++ [32, 61, 32] ++ Lib.join Q [32, 124, 32] ++ [59] by rw [hQ]; rfl)
 have HLE := Lib.hid (show ∀ k, ([102, 97, 117, 108, 116, 115, 32] ++ name.data.toList ++ [32, 61, 32] ++ Lib.join (Q.take k) [32, 124, 32]).length ≤ 29000000000000 from fun k => by
  have := nC Q [32, 124, 32] k
  have e : name.data.toList.length = name.size := by simp
  simp only [List.length_append, List.length_cons, List.length_nil]; omega)
 have HQL := Lib.hid hQl
 clear hf hof hln hpw hj1 hj2 hQ hQl hjl
 go_enter Tryz.func40, Tryz.ntmps40
 go_upto_region 5 with fail
 obtain ⟨W0, hW0⟩ : ∃ W0 : World, W0 = w.alloc (.cells #[.int .i64 2, .int .i64 line, .string name, .slice nA names.length nc, .slice fA faults.length fc, .int .i64 o1, .string m1, .int .i64 d1, .slice wA1 wn1 wc1, .slice kA1 kn1 kc1, .string proto, .int .i64 o2, .string m2, .int .i64 d2, .slice wA2 wn2 wc2, .slice kA2 kn2 kc2, .int .i64 o3, .string m3, .int .i64 d3, .slice wA3 wn3 wc3, .slice kA3 kn3 kc3, .string use] 41) := ⟨_, rfl⟩
 have hb0 : Below w.heap.size w W0 := by rw [hW0]; exact hbA _
 have hs0 : w.heap.size < W0.heap.size := by rw [hW0]; simp
 have hr0 : W0.heap[w.heap.size]? = some (.cells #[.int .i64 2, .int .i64 line, .string name, .slice nA names.length nc, .slice fA faults.length fc, .int .i64 o1, .string m1, .int .i64 d1, .slice wA1 wn1 wc1, .slice kA1 kn1 kc1, .string proto, .int .i64 o2, .string m2, .int .i64 d2, .slice wA2 wn2 wc2, .slice kA2 kn2 kc2, .int .i64 o3, .string m3, .int .i64 d3, .slice wA3 wn3 wc3, .slice kA3 kn3 kc3, .string use] 41 (0, 0)) := by rw [hW0]; exact heap_alloc_new w _
 rw [← hW0]
 have HR0 := Lib.hid hr0
 clear hW0 hr0
 obtain ⟨-, -, c2, -, c4, -, -, -, -, -, -, -, -, -, -, -, -, -, -, -, -, -, -⟩ := ku HR0.out
 go_wp2
 go_loopw [3, 4] (fun o x wr => ∃ k : Nat, k ≤ faults.length ∧ x = .int .i64 k ∧ o = .string (bs ([102, 97, 117, 108, 116, 115, 32] ++ name.data.toList ++ [32, 61, 32] ++ Lib.join (Q.take k) [32, 124, 32])) ∧ Below W0.heap.size W0 wr) (fun _ x _ => faults.length - (intOf x).toNat)
 case atStart => exact ⟨0, Nat.zero_le _, rfl, by rw [List.take_zero, Lib.join_nil, List.append_nil]; exact congrArg Value.string (wm _ _ _ _ _ _ rfl (dY name).symm rfl), Below.refl _ _⟩
 case round =>
  obtain ⟨k, hk, rfl, rfl, hb⟩ := hrel
  have hsr := hb.size
  have hbw : Below w.heap.size w wr := hb0.trans (hb.mono (Nat.le_of_lt hs0))
  clear c2 c4
  obtain ⟨-, -, -, -, c4, -, -, -, -, -, -, -, -, -, -, -, -, -, -, -, -, -, -⟩ := ku ((hb.block _ hs0).trans HR0.out)
  obtain ⟨X, hX⟩ : ∃ X, X = bs ([102, 97, 117, 108, 116, 115, 32] ++ name.data.toList ++ [32, 61, 32] ++ Lib.join (Q.take k) [32, 124, 32]) := ⟨_, rfl⟩
  have hXs : X.size ≤ 29000000000000 := by rw [hX, bZ]; exact HLE.out k
  rw [← hX]
  have HX := Lib.hid hX
  clear hX
  by_cases hlt : k < faults.length
  ·have hfr := HF.out.keep (P' := kU wr S) (aA hbw hS) (fun _ _ h => h.keep (aA hbw hS))
   obtain ⟨g, o, op, fn, x, y, bA, bn, bc, cA, cn, cc, rfl, hSg, hft, k0, k1, k2, k3, k4, k5⟩ := qA hfr hlt
   have hgs : g < wr.heap.size := by have := hS g hSg; have := hbw.size; omega
   have hkI : (k : Int) < (faults.length : Int) := by omega
   have hk0 : (0 : Int) ≤ (k : Int) := by omega
   have hql : k < Q.length := by rw [HQL.out]; exact hlt
   have hq := HQ.out k hlt hql
   have hmem : faults[k] ∈ faults := List.getElem_mem hlt
   have hl1 := mK (HOF.out _ hmem)
   have hl2 := HLN.out _ hmem
   have hC := Cs _ _ wr S hft (fun g hg => by have := hS g hg; have := hbw.size; omega) (HOF.out _ hmem) (by omega) (HP.out.below hbw)
   have hus : (bs (gM faults[k])).size ≤ 2700000000 := by rw [bZ]; omega
   obtain ⟨t, ht⟩ : ∃ t, t = faults[k] := ⟨_, rfl⟩
   rw [← ht] at hC hq hus
   obtain ⟨U, hU⟩ : ∃ U, U = bs (gM t) := ⟨_, rfl⟩
   rw [← hU] at hC hus
   have HU := Lib.hid hU
   have HC := Lib.hid hC
   clear hfr hft hl1 hl2 hC ht hU hmem
   by_cases hz : 0 < k
   ·have hzI : (0 : Int) < (k : Int) := by omega
    have HS : Hid (Lib.join (Q.take (k + 1)) [32, 124, 32] = Lib.join (Q.take k) [32, 124, 32] ++ [32, 124, 32] ++ Q[k]) := jZ Q _ k hql hz
    rw [hq] at HS
    clear hq hz
    go_wp2_with fail
    refine HC.out.mono ?_
    rintro e W2 ⟨rfl, hb2⟩
    go_wp2
    go_roundw
    case rel =>
     refine ⟨k + 1, by omega, by go_num, ?_, hb.trans (hb2.mono (by omega))⟩
     ·rw [HS.out, HX.out, HU.out, show (⟨#[32, 124, 32]⟩ : ByteArray) = bs [32, 124, 32] from rfl]
      simp only [bS, List.append_assoc]
    case measure => simp [intOf]; omega
   ·obtain rfl : k = 0 := by omega
    rw [Nat.zero_mul, Nat.add_zero] at k0 k1 k2 k3 k4 k5
    have HS : Hid (Lib.join (Q.take (0 + 1)) [32, 124, 32] = Lib.join (Q.take 0) [32, 124, 32] ++ Q[0]) := jO Q _ hql
    rw [hq] at HS
    clear hq hz
    go_wp2_with fail
    refine HC.out.mono ?_
    rintro e W2 ⟨rfl, hb2⟩
    go_wp2
    go_roundw
    case rel =>
     refine ⟨0 + 1, by omega, by go_num, ?_, hb.trans (hb2.mono (by omega))⟩
     ·rw [HS.out, HX.out, HU.out]
      simp only [bS, List.append_assoc]
    case measure => simp [intOf]; omega
  ·obtain rfl : k = faults.length := by omega
   have hkI : ¬ (faults.length : Int) < (faults.length : Int) := by omega
   have HEE := Lib.hid (show X ++ (⟨#[59]⟩ : ByteArray) = bs (eZ ⟨2, line, name, names, faults, term, proto, read, write, use⟩) by rw [HX.out, HE.out, ← HQL.out, List.take_length]; exact cat2 _ _ _ _ rfl rfl)
   go_wp2
   go_ret
   exact ⟨by rw [← HEE.out]; rfl, hbw⟩

theorem EG (d : Dc) (v : Value) (w : World) (S : Nat → Prop) (hd : fC w S d v) (hS : ∀ g, S g → g < w.heap.size) (hok : kE d = true) (hlim : TLim d) (hpw : Pow w) :
  Calls Tryz.prog 40 #[v] w fun e w' => e = .returned (.string (bs (eZ d))) ∧ Below w.heap.size w w' := by
 have h := EN hok
 obtain ⟨kind, line, name, names, faults, term, proto, read, write, use⟩ := d
 obtain ⟨nA, nc, fA, fc, vt, vr, vw, rfl, h1, h2, h3, h4, h5, h6, h7⟩ := hd
 obtain ⟨o1, m1, d1, wA1, wn1, wc1, kA1, kn1, kc1, rfl⟩ := h5.form
 obtain ⟨o2, m2, d2, wA2, wn2, wc2, kA2, kn2, kc2, rfl⟩ := h6.form
 obtain ⟨o3, m3, d3, wA3, wn3, wc3, kA3, kn3, kc3, rfl⟩ := h7.form
 obtain ⟨l1, l2, l3, l4, l5, l6⟩ := hlim
 simp only at h1 h2 h3 h4 h5 h6 h7 l1 l2 l3 l4 l5 l6
 simp only [Value.cells, List.append_toArray, List.cons_append, List.nil_append]
 have nm : ∀ {x : ByteArray}, bO x = true → x.size ≤ 24 := fun h => (kD h).1
 rcases sV h with hk | hk | hk | hk | hk | hk | hk <;> (simp only at hk; subst hk)
 ·exact GD line name names faults term proto read write use nA nc fA fc o1 m1 d1 wA1 wn1 wc1 kA1 kn1 kc1 o2 m2 d2 wA2 wn2 wc2 kA2 kn2 kc2 o3 m3 d3 wA3 wn3 wc3 kA3 kn3 kc3 w S hS (nm (fJ h (show hasName 1 = true by decide))) h1 h.names l1
 ·exact GA line name names faults term proto read write use nA nc fA fc o1 m1 d1 wA1 wn1 wc1 kA1 kn1 kc1 o2 m2 d2 wA2 wn2 wc2 kA2 kn2 kc2 o3 m3 d3 wA3 wn3 wc3 kA3 kn3 kc3 w S hS (nm (fJ h (show hasName 2 = true by decide))) h3 h.faults l2 l3 hpw
 ·exact Gz line name names faults term proto read write use nA nc fA fc o1 m1 d1 wA1 wn1 wc1 kA1 kn1 kc1 o2 m2 d2 wA2 wn2 wc2 kA2 kn2 kc2 o3 m3 d3 wA3 wn3 wc3 kA3 kn3 kc3 w S hS (nm (fJ h (show hasName 3 = true by decide))) h5 (by have ht := h.term; rw [if_pos (show kH 3 = true by decide)] at ht; exact ht) l4 hpw
 ·obtain ⟨hp, hr, hw, hu⟩ := yP h (show fG 4 = true by decide)
  have hp2 : proto.size ≤ 24 := by have := Fb (xK hp); simpa using this
  exact Gy line name names faults term proto read write use nA nc fA fc o1 m1 d1 wA1 wn1 wc1 kA1 kn1 kc1 o2 m2 d2 wA2 wn2 wc2 kA2 kn2 kc2 o3 m3 d3 wA3 wn3 wc3 kA3 kn3 kc3 w S hS (nm (fJ h (show hasName 4 = true by decide))) hp2 (nm hu) h6 hr l5 h7 hw l6 hpw
 ·exact Gx line name names faults term proto read write use nA nc fA fc o1 m1 d1 wA1 wn1 wc1 kA1 kn1 kc1 o2 m2 d2 wA2 wn2 wc2 kA2 kn2 kc2 o3 m3 d3 wA3 wn3 wc3 kA3 kn3 kc3 w S hS h1 h.names l1
 ·have hu : use.size ≤ 24 := by
   rcases h.use with h | h
   ·have h : use.size = 0 := h
    omega
   ·exact nm h
  exact Gw line name names faults term proto read write use nA nc fA fc o1 m1 d1 wA1 wn1 wc1 kA1 kn1 kc1 o2 m2 d2 wA2 wn2 wc2 kA2 kn2 kc2 o3 m3 d3 wA3 wn3 wc3 kA3 kn3 kc3 w S hS (nm (fJ h (show hasName 6 = true by decide))) hu
 ·exact Gv line name names faults term proto read write use nA nc fA fc o1 m1 d1 wA1 wn1 wc1 kA1 kn1 kc1 o2 m2 d2 wA2 wn2 wc2 kA2 kn2 kc2 o3 m3 d3 wA3 wn3 wc3 kA3 kn3 kc3 w S hS h1 h.names l1

end Go.Proofs.YtbmglebipepdmaaGreatDoor
namespace Go.Proofs.YtbmglebipepdmaaGreatDoor
open Go.RowKit
theorem dc_agg {w : World} {S : Nat → Prop} {d : Dc} {v : Value} (h : fC w S d v) : ∃ Z : Array Value, v = .agg Z ∧ Z.size = 22 := by
 obtain ⟨nA, nc, fA, fc, o1, m1, d1, wA1, wn1, wc1, kA1, kn1, kc1, o2, m2, d2, wA2, wn2, wc2, kA2, kn2, kc2, o3, m3, d3, wA3, wn3, wc3, kA3, kn3, kc3, rfl⟩ := sW h
 exact ⟨_, rfl, rfl⟩
attribute [local go_sem ↓] rD in
set_option maxRecDepth 100000 in
set_option maxHeartbeats 4000000 in
theorem JY (l : List Dc) (A : Option Addr) (c : Nat) (w : World) (S : Nat → Prop) (hl : aU (fC w S) w S 22 A l) (hS : ∀ g, S g → g < w.heap.size) (hsz : (l.map bQ).sum ≤ 1100000) (hz : ∀ d ∈ l, TLim d ∧ ILim d) (hpw : Pow w) :
  Calls Tryz.prog 13 #[.slice A l.length c] w fun e w' => e = .returned (.tuple #[.string (bs (cB l).1), .int .i64 (cB l).2]) ∧ Below w.heap.size w w' := by
 have HL := Lib.hid hl
 have HZ := Lib.hid hz
 have HP := Lib.hid hpw
 have hll := jH l
 have HLE := Lib.hid (show ∀ k, (l.take k).all kE = true → (cZ (l.take k)).length ≤ 300000000 from fun k h => by have := uU _ h; have := sum_take l k; omega)
 have HDL := Lib.hid (show ∀ d ∈ l, kE d = true → (eZ d).length ≤ 300000000 from fun d hd h => by have := wh h; have := yO hd; omega)
 have hlb : l.length ≤ 1100000 := by omega
 have hno : l.all kE = false → cB l = ([], 1) := fun h => by unfold cB; rw [h]; rfl
 have hyes : l.all kE = true → cB l = gX (cZ l) := fun h => by unfold cB; rw [h]; rfl
 have HNO := Lib.hid hno
 have HYES := Lib.hid hyes
 clear hl hz hpw hsz hll hno hyes
 go_enter Tryz.func13, Tryz.ntmps13
 go_wp2
 go_loopw [4, 5] (fun o x wr => ∃ k : Nat, k ≤ l.length ∧ x = .int .i64 k ∧ o = .string (bs (cZ (l.take k))) ∧ Below w.heap.size w wr ∧ Hid (l.all kE = (l.drop k).all kE) ∧ Hid ((l.take k).all kE = true)) (fun _ x _ => l.length - (intOf x).toNat)
 case atStart => exact ⟨0, Nat.zero_le _, rfl, rfl, Below.refl _ _, rfl, rfl⟩
 case round =>
  obtain ⟨k, hk, rfl, rfl, hb, hd, htk⟩ := hrel
  have hsr := hb.size
  obtain ⟨X, hX⟩ : ∃ X, X = bs (cZ (l.take k)) := ⟨_, rfl⟩
  have hXs : X.size ≤ 300000000 := by rw [hX, bZ]; exact HLE.out k htk.out
  rw [← hX]
  have HX := Lib.hid hX
  clear hX
  by_cases hlt : k < l.length
  ·obtain ⟨g, o, v, rfl, hSg, hp, hc⟩ := fZ (fun _ _ h => jv h) (HL.out.keep (P' := fC wr S) (aA hb hS) (fun _ _ h => h.keep (aA hb hS))) hlt
   obtain ⟨Z, rfl, hZ⟩ := dc_agg hp
   have hr : wr.rangeAt g (o + k * 22) Z.toList := fun j u hu => hc j u hu
   have hld := qf wr g (o + k * 22) Z.toList hr (by simpa using hZ)
   rw [Array.toArray_toList] at hld
   have hgs : g < wr.heap.size := by have := hS g hSg; omega
   have hkI : (k : Int) < (l.length : Int) := by omega
   have hk0 : (0 : Int) ≤ (k : Int) := by omega
   have hmem : l[k] ∈ l := List.getElem_mem hlt
   have hC := JR _ _ wr S hp (fun g hg => by have := hS g hg; omega) (HZ.out _ hmem).2
   have hdk : (l.drop k).all kE = (kE l[k] && (l.drop (k + 1)).all kE) := by rw [List.drop_eq_getElem_cons hlt, List.all_cons]
   cases hq : kE l[k]
   ·rw [hq] at hC hdk
    have HC := Lib.hid hC
    have E := Lib.hid (HNO.out (by rw [hd.out, hdk, Bool.false_and]))
    clear hC hdk hq hp hc hr
    go_wp2_with fail
    refine HC.out.mono ?_
    rintro e W2 ⟨rfl, hb2⟩
    go_wp2
    go_ret2
    exact ⟨by rw [E.out]; rfl, hb.trans (hb2.mono hsr)⟩
   ·have HD := Lib.hid (fun (W : World) (hW : Below wr.heap.size wr W) => EG _ _ W S (hp.keep (aQ hW)) (fun g hg => by have := hS g hg; have := hW.size; omega) hq (HZ.out _ hmem).1 ((HP.out.below hb).below hW))
    have hus : (bs (eZ l[k])).size ≤ 300000000 := by rw [bZ]; exact HDL.out _ hmem hq
    have HS := Lib.hid (dcs_take l k hlt)
    have HTK := Lib.hid (show (l.take (k + 1)).all kE = true by rw [List.take_succ_eq_append_getElem hlt, List.all_append, htk.out, List.all_cons, hq]; rfl)
    rw [hq] at hC hdk
    have HC := Lib.hid hC
    have E := Lib.hid (show l.all kE = (l.drop (k + 1)).all kE by rw [hd.out, hdk, Bool.true_and])
    obtain ⟨U, hU⟩ : ∃ U, U = bs (eZ l[k]) := ⟨_, rfl⟩
    rw [← hU] at HD hus
    have HU := Lib.hid hU
    have HR := Lib.hid hr
    clear hC hdk hq hp hc hr hU hmem
    go_wp2_with fail
    refine HC.out.mono ?_
    rintro e W2 ⟨rfl, hb2⟩
    have hs2 := hb2.size
    have hld2 := qf W2 g (o + k * 22) Z.toList (fun j u hu => (hb2.cell (p := ⟨g, o + k * 22 + j, none⟩) hgs).trans (HR.out j u hu)) (by simpa using hZ)
    rw [Array.toArray_toList] at hld2
    clear hld
    go_wp2_with fail
    refine (HD.out W2 hb2).mono ?_
    rintro e W3 ⟨rfl, hb3⟩
    go_wp2
    go_roundw
    case rel =>
     refine ⟨k + 1, by omega, by go_num, ?_, hb.trans ((hb2.trans (hb3.mono hs2)).mono hsr), E.out, HTK.out⟩
     rw [HS.out, HX.out, HU.out, show (⟨#[10]⟩ : ByteArray) = bs [10] from rfl]
     simp only [bS, List.append_assoc]
    case measure => simp [intOf]; omega
  ·obtain rfl : k = l.length := by omega
   have hkI : ¬ (l.length : Int) < (l.length : Int) := by omega
   have hal : l.all kE = true := by rw [hd.out, List.drop_length]; rfl
   have HZR := Lib.hid (Dx X wr)
   rw [show X = bs (cZ l) by rw [HX.out, List.take_length]] at HZR
   rw [show X = bs (cZ l) by rw [HX.out, List.take_length]]
   rw [gm, ← HYES.out hal] at HZR
   clear hal hXs HX
   go_wp2_with fail
   refine HZR.out.mono ?_
   rintro e W2 ⟨rfl, hb2⟩
   go_wp2
   go_ret2
   exact ⟨rfl, hb.trans (hb2.mono hsr)⟩
end Go.Proofs.YtbmglebipepdmaaGreatDoor
