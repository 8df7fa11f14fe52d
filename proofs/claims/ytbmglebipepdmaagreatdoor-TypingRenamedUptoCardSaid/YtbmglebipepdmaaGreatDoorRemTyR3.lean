/- What this closing text needs beyond the base: parts of the texts on typing and on the syntax; the conditions stand at each theorem. -/
import Derived.Deep.DeepCutAuto
import Derived.Test.YtbmglebipepdmaaGreatDoorPkPlain
import Derived.Test.YtbmglebipepdmaaGreatDoorPkRound
import Derived.Test.YtbmglebipepdmaaGreatDoorPkTyp
import Derived.Test.YtbmglebipepdmaaGreatDoorPkMem
import Derived.Test.YtbmglebipepdmaaGreatDoorPkPara
import Derived.Test.YtbmglebipepdmaaGreatDoorPkParb
import Derived.Test.YtbmglebipepdmaaGreatDoorPkLex
import Derived.Test.YtbmglebipepdmaaGreatDoorPkPare
import Derived.Test.YtbmglebipepdmaaGreatDoorPkVala
import Derived.Test.YtbmglebipepdmaaGreatDoorPkValb
import Derived.Test.YtbmglebipepdmaaGreatDoorPkValc
import Derived.Test.YtbmglebipepdmaaGreatDoorPkFmta
import Derived.Test.YtbmglebipepdmaaGreatDoorPkFmtb
import Derived.Test.YtbmglebipepdmaaGreatDoorPkNms
import Derived.Test.YtbmglebipepdmaaGreatDoorPkTya
import Derived.Test.YtbmglebipepdmaaGreatDoorPkTyb
import Derived.Test.YtbmglebipepdmaaGreatDoorPkOpen
import Derived.Test.YtbmglebipepdmaaGreatDoorPkCheck
import Derived.Test.YtbmglebipepdmaaGreatDoorPkRefl
import Derived.Test.YtbmglebipepdmaaGreatDoorPkRefa
import Derived.Test.YtbmglebipepdmaaGreatDoorPkRefb
import Derived.Test.YtbmglebipepdmaaGreatDoorPkRefc
import Derived.Test.YtbmglebipepdmaaGreatDoorPkRefd
import Derived.Test.YtbmglebipepdmaaGreatDoorPkEq
import Derived.Test.YtbmglebipepdmaaGreatDoorPkHead
import Derived.Test.YtbmglebipepdmaaGreatDoorPkUses
import Derived.Test.YtbmglebipepdmaaGreatDoorPkAwt
import Derived.Test.YtbmglebipepdmaaGreatDoorRemTyR2
namespace Go.Proofs.YtbmglebipepdmaaGreatDoor
open Go.RowKit
theorem join_two (a b sep : List UInt8) : Lib.join ([a] ++ [b]) sep = a ++ sep ++ b := by
 have e := kX [a, b] sep 1 (by simp) (by simp)
 have e1 : [a, b].take 1 = [a] := rfl
 have e2 : [a, b].take (1 + 1) = [a, b] := rfl
 rw [e1, e2, Lib.join_one] at e
 exact e
set_option maxRecDepth 100000 in
set_option maxHeartbeats 4000000 in
theorem sets_ref (nm : ByteArray) (x y : Int) (bl cl : List ByteArray) (bA : Option Addr) (bc : Nat) (cA : Option Addr) (cc : Nat) (w : World) (S : Nat → Prop) (hsb : aL w S 1 bA bl.length (bl.map Value.string)) (hsc : aL w S 1 cA cl.length (cl.map Value.string)) (hS : ∀ g, S g → g < w.heap.size) (hok : jG ⟨3, nm, x, y, bl, cl⟩ = true) (hlim : bl.length + cl.length ≤ 1000000000) :
  Calls Tryz.prog 76 #[.agg #[.int .i64 3, .string nm, .int .i64 x, .int .i64 y, .slice bA bl.length bc, .slice cA cl.length cc]] w fun e w' => e = .returned (.string (bs (iB ⟨3, nm, x, y, bl, cl⟩))) ∧ Below w.heap.size w w' := by
 have hbA : ∀ o, Below w.heap.size w (w.alloc o) := fun o => (Below.refl _ _).alloc (Nat.le_refl _) o
 obtain ⟨hn, hob, hoc⟩ : 0 < bl.length + cl.length ∧ bg bl = true ∧ bg cl = true := by
  have h := hok
  have e : jG ⟨3, nm, x, y, bl, cl⟩ = (decide (nm.size = 0) && !gQ ⟨3, nm, x, y, bl, cl⟩ && decide (0 < bl.length + cl.length) && bg bl && bg cl) := rfl
  rw [e] at h
  simp only [Bool.and_eq_true, decide_eq_true_eq] at h
  exact ⟨h.1.1.2, h.1.2, h.2⟩
 have hnb := fT hob
 have hnc := fT hoc
 have htb := pO (List.all_eq_true.1 hob)
 have htc := pO (List.all_eq_true.1 hoc)
 obtain ⟨W0, hW0⟩ : ∃ W0 : World, W0 = w.alloc (.cells #[.int .i64 3, .string nm, .int .i64 x, .int .i64 y, .slice bA bl.length bc, .slice cA cl.length cc] 82) := ⟨_, rfl⟩
 have hb0 : Below w.heap.size w W0 := by rw [hW0]; exact hbA _
 have hr0 : W0.heap[w.heap.size]? = some (.cells #[.int .i64 3, .string nm, .int .i64 x, .int .i64 y, .slice bA bl.length bc, .slice cA cl.length cc] 82 (0, 0)) := by rw [hW0]; exact heap_alloc_new w _
 have hz0 := hb0.size
 have hlb := vQ bl bA bc W0 S (hsb.keep (aA hb0 hS)) (fun g hg => by have := hS g hg; omega) (by omega)
 have hlc := vQ cl cA cc W0 S (hsc.keep (aA hb0 hS)) (fun g hg => by have := hS g hg; omega) (by omega)
 obtain ⟨TB, hTB⟩ : ∃ T : ByteArray, T = bs (dV bl) := ⟨_, rfl⟩
 have hTBs : TB.size ≤ 26000000000 := by rw [hTB, cK]; omega
 obtain ⟨TC, hTC⟩ : ∃ T : ByteArray, T = bs (dV cl) := ⟨_, rfl⟩
 have hTCs : TC.size ≤ 26000000000 := by rw [hTC, cK]; omega
 rw [← hTB] at hlb
 rw [← hTC] at hlc
 have EB := Lib.hid (show ((⟨#[98, 121, 122, 32, 123, 32]⟩ : ByteArray) ++ TB ++ (⟨#[32, 125]⟩ : ByteArray)) = bs (mH [98, 121, 122] bl) from yj _ _ _ _ _ _ rfl hTB rfl)
 have EC := Lib.hid (show ((⟨#[99, 114, 97, 115, 104, 32, 123, 32]⟩ : ByteArray) ++ TC ++ (⟨#[32, 125]⟩ : ByteArray)) = bs (mH [99, 114, 97, 115, 104] cl) from yj _ _ _ _ _ _ rfl hTC rfl)
 have EC2 := Lib.hid (show ∀ (X : ByteArray) (l : List UInt8), X = bs l → (X ++ (⟨#[32]⟩ : ByteArray) ++ (⟨#[99, 114, 97, 115, 104, 32, 123, 32]⟩ : ByteArray) ++ TC ++ (⟨#[32, 125]⟩ : ByteArray)) = bs (l ++ [32] ++ mH [99, 114, 97, 115, 104] cl) from fun X l hX => by
  rw [hX, hTC, show (⟨#[32]⟩ : ByteArray) = bs [32] from rfl, show (⟨#[99, 114, 97, 115, 104, 32, 123, 32]⟩ : ByteArray) = bs [99, 114, 97, 115, 104, 32, 123, 32] from rfl, show (⟨#[32, 125]⟩ : ByteArray) = bs [32, 125] from rfl]
  simp only [bV, mH, List.append_assoc, List.cons_append, List.nil_append])
 have EF := Lib.hid (ft3 nm x y bl cl)
 have ES := Lib.hid (show qE ⟨3, nm, x, y, bl, cl⟩ = (if bl.length = 0 then [] else [mH [98, 121, 122] bl]) ++ (if cl.length = 0 then [] else [mH [99, 114, 97, 115, 104] cl]) from rfl)
 have HLB := Lib.hid hlb
 have HLC := Lib.hid hlc
 have HR0 := Lib.hid hr0
 have HW0 := Lib.hid hW0
 clear hob hoc hnb hnc hTB hTC hsb hsc hok htb htc hlb hlc hr0 hW0 hbA
 by_cases zb : bl.length = 0
 ·have hzb : ¬ (0 : Int) < (bl.length : Int) := by omega
  have hzc : (0 : Int) < (cl.length : Int) := by omega
  have HZB := Lib.hid zb
  have HN := Lib.hid hn
  clear zb hn
  go_enter Tryz.func76, Tryz.ntmps76
  go_upto_region 1 with fail
  rw [← HW0.out]
  obtain ⟨c0, c1, c2, c3, c4, c5, -⟩ := Ba HR0.out
  clear HW0
  go_wp2_with fail
  refine HLC.out.mono ?_
  rintro e w' ⟨rfl, rfl⟩
  go_wp2
  go_ret
  refine ⟨congrArg (fun b => Ending.returned (.string b)) ?_, hb0⟩
  rw [EF.out, ES.out, if_pos HZB.out, if_neg (by have := HN.out; have := HZB.out; omega), List.nil_append, Lib.join_one, ← EC.out]
  first | rfl | simp
 ·have hzb : (0 : Int) < (bl.length : Int) := by omega
  have HZB := Lib.hid zb
  clear zb hn
  by_cases zc : cl.length = 0
  ·have hzc : ¬ (0 : Int) < (cl.length : Int) := by omega
   have HZC := Lib.hid zc
   clear zc
   go_enter Tryz.func76, Tryz.ntmps76
   go_upto_region 1 with fail
   rw [← HW0.out]
   obtain ⟨c0, c1, c2, c3, c4, c5, -⟩ := Ba HR0.out
   clear HW0
   go_wp2_with fail
   refine HLB.out.mono ?_
   rintro e w' ⟨rfl, rfl⟩
   go_wp2
   go_ret
   refine ⟨congrArg (fun b => Ending.returned (.string b)) ?_, hb0⟩
   rw [EF.out, ES.out, if_neg HZB.out, if_pos HZC.out, List.append_nil, Lib.join_one, ← EB.out]
  ·have hzc : (0 : Int) < (cl.length : Int) := by omega
   have HZC := Lib.hid zc
   clear zc
   obtain ⟨X, hX⟩ : ∃ X : ByteArray, X = (⟨#[98, 121, 122, 32, 123, 32]⟩ : ByteArray) ++ TB ++ (⟨#[32, 125]⟩ : ByteArray) := ⟨_, rfl⟩
   have hXs : X.size ≤ 27000000000 := by rw [hX, ByteArray.size_append, ByteArray.size_append]; show 6 + TB.size + 2 ≤ _; omega
   have hX0 : 0 < X.size := by rw [hX, ByteArray.size_append, ByteArray.size_append]; show 0 < 6 + TB.size + 2; omega
   have hXe := bP hX0
   have HX := Lib.hid hX
   go_enter Tryz.func76, Tryz.ntmps76
   go_upto_region 1 with fail
   rw [← HW0.out]
   obtain ⟨c0, c1, c2, c3, c4, c5, -⟩ := Ba HR0.out
   clear HW0 hX
   go_wp2_with fail
   refine HLB.out.mono ?_
   rintro e w' ⟨rfl, rfl⟩
   go_upto_region 15 with fail
   rw [← HX.out]
   go_wp2_with fail
   refine HLC.out.mono ?_
   rintro e w' ⟨rfl, rfl⟩
   go_wp2
   go_ret
   refine ⟨congrArg (fun b => Ending.returned (.string b)) ?_, hb0⟩
   rw [EF.out, ES.out, if_neg HZB.out, if_neg HZC.out]
   refine (EC2.out X _ (HX.out.trans EB.out)).trans ?_
   rw [join_two]

set_option maxRecDepth 100000 in
set_option maxHeartbeats 4000000 in
theorem Ed (f : Ft) (v : Value) (w : World) (S : Nat → Prop) (hf : lm w S f v) (hS : ∀ g, S g → g < w.heap.size) (hok : jG f = true) (hlim : f.ay.length + f.ak.length ≤ 1000000000) (hpw : Pow w) :
  Calls Tryz.prog 76 #[v] w fun e w' => e = .returned (.string (bs (iB f))) ∧ Below w.heap.size w w' := by
 have hlen := nQ hok
 obtain ⟨op, nm, x, y, bl, cl⟩ := f
 obtain ⟨bA, bc, cA, cc, rfl, hsb, hlb, hsc, hlc⟩ := hf
 simp only at hsb hlb hsc hlc hlim hlen
 have hbA : ∀ o, Below w.heap.size w (w.alloc o) := fun o => (Below.refl _ _).alloc (Nat.le_refl _) o
 have HB := Lib.hid hsb
 have HC := Lib.hid hsc
 have HP := Lib.hid hpw
 have HOK := Lib.hid hok
 have HLN := Lib.hid hlen
 have hnm : nm.size ≤ 24 := by
  by_cases h : op = 4 ∨ op = 5 ∨ op = 6
  ·have e : jG ⟨op, nm, x, y, bl, cl⟩ = (bG nm && !gQ ⟨op, nm, x, y, bl, cl⟩ && !jD ⟨op, nm, x, y, bl, cl⟩) := by
    unfold jG
    simp only
    rw [if_neg (by omega), if_neg (by omega), if_neg (by omega), if_pos h]
   rw [e] at hok
   simp only [Bool.and_eq_true] at hok
   exact (lH hok.1.1).1
  ·by_cases h0 : nm.size = 0
   ·omega
   ·have e : jG ⟨op, nm, x, y, bl, cl⟩ = false := by
     unfold jG
     simp only
     rw [if_neg h]
     simp [h0]
    rw [e] at hok
    cases hok
 clear hsb hsc hpw hok hlen
 by_cases h1 : op = 1
 ·subst h1
  go_enter Tryz.func76, Tryz.ntmps76
  go_wp2
  go_ret
  exact ⟨rfl, hbA _⟩
 have q1 : (op == 1) = false := by rw [beq_eq_false_iff_ne]; exact h1
 by_cases h2 : op = 2
 ·subst h2
  obtain ⟨hx, hy⟩ : small x = true ∧ small y = true := by
   have h := HOK.out
   have e : jG ⟨2, nm, x, y, bl, cl⟩ = (decide (nm.size = 0) && small x && small y && !jD ⟨2, nm, x, y, bl, cl⟩) := rfl
   rw [e] at h
   simp only [Bool.and_eq_true] at h
   exact ⟨h.1.1.2, h.1.2⟩
  obtain ⟨I, hI⟩ : ∃ I : ByteArray, I = bs (Lib.itoa x) := ⟨_, rfl⟩
  have hIs : I.size ≤ 21 := by rw [hI, cK]; exact gF hx
  obtain ⟨J, hJ⟩ : ∃ J : ByteArray, J = bs (Lib.itoa y) := ⟨_, rfl⟩
  have hJs : J.size ≤ 21 := by rw [hJ, cK]; exact gF hy
  have HIE := Lib.hid hI
  have HJE := Lib.hid hJ
  have HX := Lib.hid (fun (W : World) (hb : Below w.heap.size w W) => show Calls Tryz.prog 106 #[.int .i64 x] W (fun e w' => e = .returned (.string I) ∧ Below W.heap.size W w') by rw [hI]; exact nC x hx W (HP.out.below hb))
  have HY := Lib.hid (fun (W : World) (hb : Below w.heap.size w W) => show Calls Tryz.prog 106 #[.int .i64 y] W (fun e w' => e = .returned (.string J) ∧ Below W.heap.size W w') by rw [hJ]; exact nC y hy W (HP.out.below hb))
  clear hI hJ hx hy
  go_enter Tryz.func76, Tryz.ntmps76
  go_wp2
  obtain ⟨W0, hW0⟩ : ∃ W0 : World, W0 = w.alloc (.cells #[.int .i64 2, .string nm, .int .i64 x, .int .i64 y, .slice bA bl.length bc, .slice cA cl.length cc] 82) := ⟨_, rfl⟩
  have hb0 : Below w.heap.size w W0 := by rw [hW0]; exact hbA _
  have hs0 : w.heap.size < W0.heap.size := by rw [hW0]; simp
  have hr0 : W0.heap[w.heap.size]? = some (.cells #[.int .i64 2, .string nm, .int .i64 x, .int .i64 y, .slice bA bl.length bc, .slice cA cl.length cc] 82 (0, 0)) := by rw [hW0]; exact heap_alloc_new w _
  rw [← hW0]
  have c2 : W0.cell? ⟨w.heap.size, 2, none⟩ = some (.int .i64 x) := ai hr0 2 _ rfl
  have c3 : W0.cell? ⟨w.heap.size, 3, none⟩ = some (.int .i64 y) := ai hr0 3 _ rfl
  clear hW0 hr0
  have hA1 := fun W => run_string_add_sum (P := Tryz.prog) W (⟨#[116, 104, 114, 101, 115, 104, 111, 108, 100, 32]⟩ : ByteArray) I (by show 10 + I.size ≤ _; omega)
  have hA2 := fun W => run_string_add_sum (P := Tryz.prog) W ((⟨#[116, 104, 114, 101, 115, 104, 111, 108, 100, 32]⟩ : ByteArray) ++ I) (⟨#[32]⟩ : ByteArray) (by rw [ByteArray.size_append]; show 10 + I.size + 1 ≤ _; omega)
  have hA3 := fun W => run_string_add_sum (P := Tryz.prog) W ((⟨#[116, 104, 114, 101, 115, 104, 111, 108, 100, 32]⟩ : ByteArray) ++ I ++ (⟨#[32]⟩ : ByteArray)) J (by rw [ByteArray.size_append, ByteArray.size_append]; show 10 + I.size + 1 + J.size ≤ _; omega)
  go_region_held3 (fun w' => w'.cell? ⟨w.heap.size, 2, none⟩ = some (.int .i64 x) ∧ w'.cell? ⟨w.heap.size, 3, none⟩ = some (.int .i64 y)) (first | go_keep | (refine ⟨?_, ?_⟩ <;> (rw [hb2.cell (by simp; omega)]; go_keep)) | (refine ⟨?_, ?_⟩ <;> (rw [hb3.cell (by have := hb2.size; simp at this ⊢; omega), hb2.cell (by simp; omega)]; go_keep)))
   (first | (go_at_call 106; (refine (HX.out _ (below_drewN hb0 _)).mono ?_; rintro e w2 ⟨rfl, hb2⟩)) | (go_at_call 106; (refine (HY.out _ ((below_drewN hb0 _).trans (hb2.mono (by simp; omega)))).mono ?_; rintro e w3 ⟨rfl, hb3⟩)))
  all_goals (
   go_wp2
   go_ret
   refine ⟨congrArg (fun b => Ending.returned (.string b)) ?_, ((below_drewN hb0 _).trans (hb2.mono (by simp; omega))).trans (hb3.mono (by have := hb2.size; simp at this; omega))⟩
   rw [ft2]
   exact cat2 _ _ _ _ (yj _ _ _ _ _ _ rfl HIE.out rfl) HJE.out)
 have q2 : (op == 2) = false := by rw [beq_eq_false_iff_ne]; exact h2
 by_cases h4 : op = 4
 ·subst h4
  go_enter Tryz.func76, Tryz.ntmps76
  go_wp2
  go_ret
  refine ⟨congrArg (fun b => Ending.returned (.string b)) ?_, hbA _⟩
  exact yj _ _ _ _ _ _ rfl (dS nm).symm rfl
 have q4 : (op == 4) = false := by rw [beq_eq_false_iff_ne]; exact h4
 by_cases h5 : op = 5
 ·subst h5
  go_enter Tryz.func76, Tryz.ntmps76
  go_wp2
  go_ret
  refine ⟨congrArg (fun b => Ending.returned (.string b)) ?_, hbA _⟩
  exact yj _ _ _ _ _ _ rfl (dS nm).symm rfl
 have q5 : (op == 5) = false := by rw [beq_eq_false_iff_ne]; exact h5
 by_cases h3 : op = 3
 ·subst h3
  exact sets_ref nm x y bl cl bA bc cA cc w S HB.out HC.out hS HOK.out hlim
 have q3 : (op == 3) = false := by rw [beq_eq_false_iff_ne]; exact h3
 by_cases h6 : op = 6
 ·subst h6
  go_enter Tryz.func76, Tryz.ntmps76
  go_wp2
  go_ret
  refine ⟨congrArg (fun b => Ending.returned (.string b)) ?_, hbA _⟩
  exact (dS nm).symm
 have q6 : (op == 6) = false := by rw [beq_eq_false_iff_ne]; exact h6
 have := HOK.out
 simp [jG, h1, h2, h3, h4, h5, h6] at this
end Go.Proofs.YtbmglebipepdmaaGreatDoor
namespace Go.Proofs.YtbmglebipepdmaaGreatDoor
open Go.RowKit
set_option maxRecDepth 100000 in
set_option maxHeartbeats 4000000 in
theorem Jk (line : Int) (name : ByteArray) (names : List ByteArray) (faults : List Ft) (term : Tm) (proto : ByteArray) (read write : Tm) (use : ByteArray) (nA : Option Addr) (nc : Nat) (fA : Option Addr) (fc : Nat) (o1 : Int) (m1 : ByteArray) (d1 : Int) (wA1 : Option Addr) (wn1 wc1 : Nat) (kA1 : Option Addr) (kn1 kc1 : Nat) (o2 : Int) (m2 : ByteArray) (d2 : Int) (wA2 : Option Addr) (wn2 wc2 : Nat) (kA2 : Option Addr) (kn2 kc2 : Nat) (o3 : Int) (m3 : ByteArray) (d3 : Int) (wA3 : Option Addr) (wn3 wc3 : Nat) (kA3 : Option Addr) (kn3 kc3 : Nat) (w : World) (S : Nat → Prop) (hS : ∀ g, S g → g < w.heap.size)
  (hnm : name.size ≤ 24) (hs : aL w S 1 nA names.length (names.map Value.string)) (hon : bg names = true) (hlim : names.length ≤ 1000000000) :
  Calls Tryz.prog 40 #[.agg #[.int .i64 1, .int .i64 line, .string name, .slice nA names.length nc, .slice fA faults.length fc, .int .i64 o1, .string m1, .int .i64 d1, .slice wA1 wn1 wc1, .slice kA1 kn1 kc1, .string proto, .int .i64 o2, .string m2, .int .i64 d2, .slice wA2 wn2 wc2, .slice kA2 kn2 kc2, .int .i64 o3, .string m3, .int .i64 d3, .slice wA3 wn3 wc3, .slice kA3 kn3 kc3, .string use]] w fun e w' => e = .returned (.string (bs (fP ⟨1, line, name, names, faults, term, proto, read, write, use⟩))) ∧ Below w.heap.size w w' := by
 have hbA : ∀ o, Below w.heap.size w (w.alloc o) := fun o => (Below.refl _ _).alloc (Nat.le_refl _) o
 have hnb := fT hon
 have htn := pO (List.all_eq_true.1 hon)
 obtain ⟨TN, hTN⟩ : ∃ T : ByteArray, T = bs (dV names) := ⟨_, rfl⟩
 have hTNs : TN.size ≤ 26000000000 := by rw [hTN, cK]; omega
 have HN := Lib.hid hs
 have HL := Lib.hid (fun (W : World) (hb : Below w.heap.size w W) => show Calls Tryz.prog 75 #[.slice nA names.length nc] W (fun e w' => e = .returned (.string TN) ∧ Below W.heap.size W w') by rw [hTN]; exact (vQ names nA nc W S (HN.out.keep (aA hb hS)) (fun g hg => by have := hS g hg; have := hb.size; omega) (by omega)).mono fun e w' h => ⟨h.1, by rw [← h.2]; exact Below.refl _ _⟩)
 have HTN := Lib.hid hTN
 clear hs hon hnb htn hTN
 go_enter Tryz.func40, Tryz.ntmps40
 go_upto_region 3 with fail
 obtain ⟨W0, hW0⟩ : ∃ W0 : World, W0 = w.alloc (.cells (tO 1 line name nA names.length nc fA faults.length fc o1 m1 d1 wA1 wn1 wc1 kA1 kn1 kc1 proto o2 m2 d2 wA2 wn2 wc2 kA2 kn2 kc2 o3 m3 d3 wA3 wn3 wc3 kA3 kn3 kc3 use) 41) := ⟨_, rfl⟩
 have hb0 : Below w.heap.size w W0 := by rw [hW0]; exact hbA _
 have hs0 : w.heap.size < W0.heap.size := by rw [hW0]; simp
 have hr0 : W0.heap[w.heap.size]? = some (.cells (tO 1 line name nA names.length nc fA faults.length fc o1 m1 d1 wA1 wn1 wc1 kA1 kn1 kc1 proto o2 m2 d2 wA2 wn2 wc2 kA2 kn2 kc2 o3 m3 d3 wA3 wn3 wc3 kA3 kn3 kc3 use) 41 (0, 0)) := by rw [hW0]; exact heap_alloc_new w _
 rw [← hW0]
 have HR0 := Lib.hid hr0
 clear hW0 hr0
 have ks2 : ¬ (9223372036854775807 < 5 + name.size) := by omega
 have ks3 : ¬ (9223372036854775807 < 5 + name.size + 3) := by omega
 have ks4 : ¬ (9223372036854775807 < 5 + name.size + 3 + TN.size) := by omega
 have ks5 : ¬ (9223372036854775807 < 5 + name.size + 3 + TN.size + 3) := by omega
 have c2 := ai HR0.out 2 _ rfl
 have c3 := ai HR0.out 3 _ rfl
 go_region_held3 (fun w' => w'.cell? ⟨w.heap.size, 2, none⟩ = some (.string name) ∧ w'.cell? ⟨w.heap.size, 3, none⟩ = some (.slice nA names.length nc)) (first | go_keep | (refine ⟨?_, ?_⟩ <;> (rw [hb2.cell (by simp; omega)]; go_keep)))
  (first | (go_at_call 75; (refine (HL.out _ (below_drewN hb0 _)).mono ?_; rintro e w2 ⟨rfl, hb2⟩)))
 all_goals (
  go_wp2
  go_ret
  refine ⟨congrArg (fun b => Ending.returned (.string b)) ?_, (below_drewN hb0 _).trans (hb2.mono (by simp; omega))⟩
  exact cat5 _ _ _ _ _ _ _ _ _ _ rfl (dS name).symm rfl HTN.out rfl)


set_option maxRecDepth 100000 in
set_option maxHeartbeats 4000000 in
theorem Jg (line : Int) (name : ByteArray) (names : List ByteArray) (faults : List Ft) (term : Tm) (proto : ByteArray) (read write : Tm) (use : ByteArray) (nA : Option Addr) (nc : Nat) (fA : Option Addr) (fc : Nat) (o1 : Int) (m1 : ByteArray) (d1 : Int) (wA1 : Option Addr) (wn1 wc1 : Nat) (kA1 : Option Addr) (kn1 kc1 : Nat) (o2 : Int) (m2 : ByteArray) (d2 : Int) (wA2 : Option Addr) (wn2 wc2 : Nat) (kA2 : Option Addr) (kn2 kc2 : Nat) (o3 : Int) (m3 : ByteArray) (d3 : Int) (wA3 : Option Addr) (wn3 wc3 : Nat) (kA3 : Option Addr) (kn3 kc3 : Nat) (w : World) (S : Nat → Prop) (hS : ∀ g, S g → g < w.heap.size)
  (hs : aL w S 1 nA names.length (names.map Value.string)) (hon : bg names = true) (hlim : names.length ≤ 1000000000) :
  Calls Tryz.prog 40 #[.agg #[.int .i64 5, .int .i64 line, .string name, .slice nA names.length nc, .slice fA faults.length fc, .int .i64 o1, .string m1, .int .i64 d1, .slice wA1 wn1 wc1, .slice kA1 kn1 kc1, .string proto, .int .i64 o2, .string m2, .int .i64 d2, .slice wA2 wn2 wc2, .slice kA2 kn2 kc2, .int .i64 o3, .string m3, .int .i64 d3, .slice wA3 wn3 wc3, .slice kA3 kn3 kc3, .string use]] w fun e w' => e = .returned (.string (bs (fP ⟨5, line, name, names, faults, term, proto, read, write, use⟩))) ∧ Below w.heap.size w w' := by
 have hbA : ∀ o, Below w.heap.size w (w.alloc o) := fun o => (Below.refl _ _).alloc (Nat.le_refl _) o
 have hnb := fT hon
 have htn := pO (List.all_eq_true.1 hon)
 obtain ⟨TN, hTN⟩ : ∃ T : ByteArray, T = bs (dV names) := ⟨_, rfl⟩
 have hTNs : TN.size ≤ 26000000000 := by rw [hTN, cK]; omega
 have HN := Lib.hid hs
 have HL := Lib.hid (fun (W : World) (hb : Below w.heap.size w W) => show Calls Tryz.prog 75 #[.slice nA names.length nc] W (fun e w' => e = .returned (.string TN) ∧ Below W.heap.size W w') by rw [hTN]; exact (vQ names nA nc W S (HN.out.keep (aA hb hS)) (fun g hg => by have := hS g hg; have := hb.size; omega) (by omega)).mono fun e w' h => ⟨h.1, by rw [← h.2]; exact Below.refl _ _⟩)
 have HTN := Lib.hid hTN
 clear hs hon hnb htn hTN
 go_enter Tryz.func40, Tryz.ntmps40
 go_wp2_with fail
 refine (HL.out _ (hbA _)).mono ?_
 rintro e w2 ⟨rfl, hb2⟩
 go_wp2
 go_ret
 refine ⟨congrArg (fun b => Ending.returned (.string b)) ?_, (hbA _).trans (hb2.mono (by simp))⟩
 exact yj _ _ _ _ _ _ rfl HTN.out rfl


set_option maxRecDepth 100000 in
set_option maxHeartbeats 4000000 in
theorem Je (line : Int) (name : ByteArray) (names : List ByteArray) (faults : List Ft) (term : Tm) (proto : ByteArray) (read write : Tm) (use : ByteArray) (nA : Option Addr) (nc : Nat) (fA : Option Addr) (fc : Nat) (o1 : Int) (m1 : ByteArray) (d1 : Int) (wA1 : Option Addr) (wn1 wc1 : Nat) (kA1 : Option Addr) (kn1 kc1 : Nat) (o2 : Int) (m2 : ByteArray) (d2 : Int) (wA2 : Option Addr) (wn2 wc2 : Nat) (kA2 : Option Addr) (kn2 kc2 : Nat) (o3 : Int) (m3 : ByteArray) (d3 : Int) (wA3 : Option Addr) (wn3 wc3 : Nat) (kA3 : Option Addr) (kn3 kc3 : Nat) (w : World) (S : Nat → Prop) (hS : ∀ g, S g → g < w.heap.size)
  (hs : aL w S 1 nA names.length (names.map Value.string)) (hon : bg names = true) (hlim : names.length ≤ 1000000000) :
  Calls Tryz.prog 40 #[.agg #[.int .i64 7, .int .i64 line, .string name, .slice nA names.length nc, .slice fA faults.length fc, .int .i64 o1, .string m1, .int .i64 d1, .slice wA1 wn1 wc1, .slice kA1 kn1 kc1, .string proto, .int .i64 o2, .string m2, .int .i64 d2, .slice wA2 wn2 wc2, .slice kA2 kn2 kc2, .int .i64 o3, .string m3, .int .i64 d3, .slice wA3 wn3 wc3, .slice kA3 kn3 kc3, .string use]] w fun e w' => e = .returned (.string (bs (fP ⟨7, line, name, names, faults, term, proto, read, write, use⟩))) ∧ Below w.heap.size w w' := by
 have hbA : ∀ o, Below w.heap.size w (w.alloc o) := fun o => (Below.refl _ _).alloc (Nat.le_refl _) o
 have hnb := fT hon
 have htn := pO (List.all_eq_true.1 hon)
 obtain ⟨TN, hTN⟩ : ∃ T : ByteArray, T = bs (dV names) := ⟨_, rfl⟩
 have hTNs : TN.size ≤ 26000000000 := by rw [hTN, cK]; omega
 have HN := Lib.hid hs
 have HL := Lib.hid (fun (W : World) (hb : Below w.heap.size w W) => show Calls Tryz.prog 75 #[.slice nA names.length nc] W (fun e w' => e = .returned (.string TN) ∧ Below W.heap.size W w') by rw [hTN]; exact (vQ names nA nc W S (HN.out.keep (aA hb hS)) (fun g hg => by have := hS g hg; have := hb.size; omega) (by omega)).mono fun e w' h => ⟨h.1, by rw [← h.2]; exact Below.refl _ _⟩)
 have HTN := Lib.hid hTN
 clear hs hon hnb htn hTN
 go_enter Tryz.func40, Tryz.ntmps40
 go_wp2_with fail
 refine (HL.out _ (hbA _)).mono ?_
 rintro e w2 ⟨rfl, hb2⟩
 go_wp2
 go_ret
 refine ⟨congrArg (fun b => Ending.returned (.string b)) ?_, (hbA _).trans (hb2.mono (by simp))⟩
 exact yj _ _ _ _ _ _ rfl HTN.out rfl


set_option maxRecDepth 100000 in
set_option maxHeartbeats 4000000 in
theorem Ji (line : Int) (name : ByteArray) (names : List ByteArray) (faults : List Ft) (term : Tm) (proto : ByteArray) (read write : Tm) (use : ByteArray) (nA : Option Addr) (nc : Nat) (fA : Option Addr) (fc : Nat) (o1 : Int) (m1 : ByteArray) (d1 : Int) (wA1 : Option Addr) (wn1 wc1 : Nat) (kA1 : Option Addr) (kn1 kc1 : Nat) (o2 : Int) (m2 : ByteArray) (d2 : Int) (wA2 : Option Addr) (wn2 wc2 : Nat) (kA2 : Option Addr) (kn2 kc2 : Nat) (o3 : Int) (m3 : ByteArray) (d3 : Int) (wA3 : Option Addr) (wn3 wc3 : Nat) (kA3 : Option Addr) (kn3 kc3 : Nat) (w : World) (S : Nat → Prop) (hS : ∀ g, S g → g < w.heap.size)
  (hnm : name.size ≤ 24) (hv1 : eG w S term (.agg #[.int .i64 o1, .string m1, .int .i64 d1, .slice wA1 wn1 wc1, .slice kA1 kn1 kc1])) (hok1 : iZ term = true) (hlim1 : au term ≤ 1000000000) (hpw : Pow w) :
  Calls Tryz.prog 40 #[.agg #[.int .i64 3, .int .i64 line, .string name, .slice nA names.length nc, .slice fA faults.length fc, .int .i64 o1, .string m1, .int .i64 d1, .slice wA1 wn1 wc1, .slice kA1 kn1 kc1, .string proto, .int .i64 o2, .string m2, .int .i64 d2, .slice wA2 wn2 wc2, .slice kA2 kn2 kc2, .int .i64 o3, .string m3, .int .i64 d3, .slice wA3 wn3 wc3, .slice kA3 kn3 kc3, .string use]] w fun e w' => e = .returned (.string (bs (fP ⟨3, line, name, names, faults, term, proto, read, write, use⟩))) ∧ Below w.heap.size w w' := by
 have hbA : ∀ o, Below w.heap.size w (w.alloc o) := fun o => (Below.refl _ _).alloc (Nat.le_refl _) o
 have htl1 := fM hok1
 obtain ⟨T1, hT1⟩ : ∃ T : ByteArray, T = bs (aU term) := ⟨_, rfl⟩
 have hTs1 : T1.size ≤ 48000000000 := by rw [hT1, cK]; omega
 have HV1 := Lib.hid hv1
 have HT1 := Lib.hid (fun (W : World) (hb : Below w.heap.size w W) => show Calls Tryz.prog 77 #[.agg #[.int .i64 o1, .string m1, .int .i64 d1, .slice wA1 wn1 wc1, .slice kA1 kn1 kc1]] W (fun e w' => e = .returned (.string T1) ∧ Below W.heap.size W w') by rw [hT1]; exact oG term _ W S (HV1.out.keep (aA hb hS)) (fun g hg => by have := hS g hg; have := hb.size; omega) hok1 hlim1 (hpw.below hb))
 have HE1 := Lib.hid hT1
 clear hv1 htl1 hT1
 go_enter Tryz.func40, Tryz.ntmps40
 go_upto_region 14 with fail
 obtain ⟨W0, hW0⟩ : ∃ W0 : World, W0 = w.alloc (.cells (tO 3 line name nA names.length nc fA faults.length fc o1 m1 d1 wA1 wn1 wc1 kA1 kn1 kc1 proto o2 m2 d2 wA2 wn2 wc2 kA2 kn2 kc2 o3 m3 d3 wA3 wn3 wc3 kA3 kn3 kc3 use) 41) := ⟨_, rfl⟩
 have hb0 : Below w.heap.size w W0 := by rw [hW0]; exact hbA _
 have hs0 : w.heap.size < W0.heap.size := by rw [hW0]; simp
 have hr0 : W0.heap[w.heap.size]? = some (.cells (tO 3 line name nA names.length nc fA faults.length fc o1 m1 d1 wA1 wn1 wc1 kA1 kn1 kc1 proto o2 m2 d2 wA2 wn2 wc2 kA2 kn2 kc2 o3 m3 d3 wA3 wn3 wc3 kA3 kn3 kc3 use) 41 (0, 0)) := by rw [hW0]; exact heap_alloc_new w _
 rw [← hW0]
 have HR0 := Lib.hid hr0
 clear hW0 hr0
 have ks2 : ¬ (9223372036854775807 < 7 + name.size) := by omega
 have ks3 : ¬ (9223372036854775807 < 7 + name.size + 3) := by omega
 have ks4 : ¬ (9223372036854775807 < 7 + name.size + 3 + T1.size) := by omega
 have ks5 : ¬ (9223372036854775807 < 7 + name.size + 3 + T1.size + 1) := by omega
 have c2 := ai HR0.out 2 _ rfl
 have c5 := ai HR0.out 5 _ rfl
 have c6 := ai HR0.out 6 _ rfl
 have c7 := ai HR0.out 7 _ rfl
 have c8 := ai HR0.out 8 _ rfl
 have c9 := ai HR0.out 9 _ rfl
 go_region_held3 (fun w' => w'.cell? ⟨w.heap.size, 2, none⟩ = some (.string name) ∧ w'.cell? ⟨w.heap.size, 5, none⟩ = some (.int .i64 o1) ∧ w'.cell? ⟨w.heap.size, 6, none⟩ = some (.string m1) ∧ w'.cell? ⟨w.heap.size, 7, none⟩ = some (.int .i64 d1) ∧ w'.cell? ⟨w.heap.size, 8, none⟩ = some (.slice wA1 wn1 wc1) ∧ w'.cell? ⟨w.heap.size, 9, none⟩ = some (.slice kA1 kn1 kc1)) (first | go_keep | (refine ⟨?_, ?_, ?_, ?_, ?_, ?_⟩ <;> (rw [hb2.cell (by simp; omega)]; go_keep)))
  (first | (go_at_call 77; (refine (HT1.out _ (below_drewN hb0 _)).mono ?_; rintro e w2 ⟨rfl, hb2⟩)))
 all_goals (
  go_wp2
  go_ret
  refine ⟨congrArg (fun b => Ending.returned (.string b)) ?_, (below_drewN hb0 _).trans (hb2.mono (by simp; omega))⟩
  exact cat5 _ _ _ _ _ _ _ _ _ _ rfl (dS name).symm rfl HE1.out rfl)


set_option maxRecDepth 100000 in
set_option maxHeartbeats 4000000 in
theorem Jf (line : Int) (name : ByteArray) (names : List ByteArray) (faults : List Ft) (term : Tm) (proto : ByteArray) (read write : Tm) (use : ByteArray) (nA : Option Addr) (nc : Nat) (fA : Option Addr) (fc : Nat) (o1 : Int) (m1 : ByteArray) (d1 : Int) (wA1 : Option Addr) (wn1 wc1 : Nat) (kA1 : Option Addr) (kn1 kc1 : Nat) (o2 : Int) (m2 : ByteArray) (d2 : Int) (wA2 : Option Addr) (wn2 wc2 : Nat) (kA2 : Option Addr) (kn2 kc2 : Nat) (o3 : Int) (m3 : ByteArray) (d3 : Int) (wA3 : Option Addr) (wn3 wc3 : Nat) (kA3 : Option Addr) (kn3 kc3 : Nat) (w : World) (S : Nat → Prop) (_hS : ∀ g, S g → g < w.heap.size)
  (hnm : name.size ≤ 24) (hus : use.size ≤ 24) :
  Calls Tryz.prog 40 #[.agg #[.int .i64 6, .int .i64 line, .string name, .slice nA names.length nc, .slice fA faults.length fc, .int .i64 o1, .string m1, .int .i64 d1, .slice wA1 wn1 wc1, .slice kA1 kn1 kc1, .string proto, .int .i64 o2, .string m2, .int .i64 d2, .slice wA2 wn2 wc2, .slice kA2 kn2 kc2, .int .i64 o3, .string m3, .int .i64 d3, .slice wA3 wn3 wc3, .slice kA3 kn3 kc3, .string use]] w fun e w' => e = .returned (.string (bs (fP ⟨6, line, name, names, faults, term, proto, read, write, use⟩))) ∧ Below w.heap.size w w' := by
 have hbA : ∀ o, Below w.heap.size w (w.alloc o) := fun o => (Below.refl _ _).alloc (Nat.le_refl _) o
 by_cases zu : use.size = 0
 ·obtain rfl := pF zu
  clear zu hus
  go_enter Tryz.func40, Tryz.ntmps40
  go_wp2
  go_ret
  refine ⟨congrArg (fun b => Ending.returned (.string b)) ?_, hbA _⟩
  exact yj _ _ _ _ _ _ rfl (dS name).symm rfl
 ·have hpu : 0 < use.size := by omega
  have hnu2 := gT hpu
  have hnu := bP hpu
  have E := Lib.hid (show fP ⟨6, line, name, names, faults, term, proto, read, write, use⟩ = [99, 108, 105, 101, 110, 116, 32] ++ name.data.toList ++ [32, 102, 97, 117, 108, 116, 115, 32] ++ use.data.toList ++ [59] by
   exact if_neg zu)
  clear zu
  go_enter Tryz.func40, Tryz.ntmps40
  go_wp2
  go_ret
  refine ⟨congrArg (fun b => Ending.returned (.string b)) ?_, hbA _⟩
  rw [E.out]
  exact cat5 _ _ _ _ _ _ _ _ _ _ rfl (dS name).symm rfl (dS use).symm rfl


set_option maxRecDepth 100000 in
set_option maxHeartbeats 4000000 in
theorem Jh (line : Int) (name : ByteArray) (names : List ByteArray) (faults : List Ft) (term : Tm) (proto : ByteArray) (read write : Tm) (use : ByteArray) (nA : Option Addr) (nc : Nat) (fA : Option Addr) (fc : Nat) (o1 : Int) (m1 : ByteArray) (d1 : Int) (wA1 : Option Addr) (wn1 wc1 : Nat) (kA1 : Option Addr) (kn1 kc1 : Nat) (o2 : Int) (m2 : ByteArray) (d2 : Int) (wA2 : Option Addr) (wn2 wc2 : Nat) (kA2 : Option Addr) (kn2 kc2 : Nat) (o3 : Int) (m3 : ByteArray) (d3 : Int) (wA3 : Option Addr) (wn3 wc3 : Nat) (kA3 : Option Addr) (kn3 kc3 : Nat) (w : World) (S : Nat → Prop) (hS : ∀ g, S g → g < w.heap.size)
  (hnm : name.size ≤ 24) (hpr : proto.size ≤ 24) (hus : use.size ≤ 24) (hv2 : eG w S read (.agg #[.int .i64 o2, .string m2, .int .i64 d2, .slice wA2 wn2 wc2, .slice kA2 kn2 kc2])) (hok2 : iZ read = true) (LU : au read ≤ 1000000000) (hv3 : eG w S write (.agg #[.int .i64 o3, .string m3, .int .i64 d3, .slice wA3 wn3 wc3, .slice kA3 kn3 kc3])) (hok3 : iZ write = true) (hlim3 : au write ≤ 1000000000) (hpw : Pow w) :
  Calls Tryz.prog 40 #[.agg #[.int .i64 4, .int .i64 line, .string name, .slice nA names.length nc, .slice fA faults.length fc, .int .i64 o1, .string m1, .int .i64 d1, .slice wA1 wn1 wc1, .slice kA1 kn1 kc1, .string proto, .int .i64 o2, .string m2, .int .i64 d2, .slice wA2 wn2 wc2, .slice kA2 kn2 kc2, .int .i64 o3, .string m3, .int .i64 d3, .slice wA3 wn3 wc3, .slice kA3 kn3 kc3, .string use]] w fun e w' => e = .returned (.string (bs (fP ⟨4, line, name, names, faults, term, proto, read, write, use⟩))) ∧ Below w.heap.size w w' := by
 have hbA : ∀ o, Below w.heap.size w (w.alloc o) := fun o => (Below.refl _ _).alloc (Nat.le_refl _) o
 have htl2 := fM hok2
 obtain ⟨T2, hT2⟩ : ∃ T : ByteArray, T = bs (aU read) := ⟨_, rfl⟩
 have hTs2 : T2.size ≤ 48000000000 := by rw [hT2, cK]; omega
 have HV2 := Lib.hid hv2
 have HT2 := Lib.hid (fun (W : World) (hb : Below w.heap.size w W) => show Calls Tryz.prog 77 #[.agg #[.int .i64 o2, .string m2, .int .i64 d2, .slice wA2 wn2 wc2, .slice kA2 kn2 kc2]] W (fun e w' => e = .returned (.string T2) ∧ Below W.heap.size W w') by rw [hT2]; exact oG read _ W S (HV2.out.keep (aA hb hS)) (fun g hg => by have := hS g hg; have := hb.size; omega) hok2 LU (hpw.below hb))
 have HE2 := Lib.hid hT2
 clear hv2 htl2 hT2
 have htl3 := fM hok3
 obtain ⟨T3, hT3⟩ : ∃ T : ByteArray, T = bs (aU write) := ⟨_, rfl⟩
 have hTs3 : T3.size ≤ 48000000000 := by rw [hT3, cK]; omega
 have HV3 := Lib.hid hv3
 have HT3 := Lib.hid (fun (W : World) (hb : Below w.heap.size w W) => show Calls Tryz.prog 77 #[.agg #[.int .i64 o3, .string m3, .int .i64 d3, .slice wA3 wn3 wc3, .slice kA3 kn3 kc3]] W (fun e w' => e = .returned (.string T3) ∧ Below W.heap.size W w') by rw [hT3]; exact oG write _ W S (HV3.out.keep (aA hb hS)) (fun g hg => by have := hS g hg; have := hb.size; omega) hok3 hlim3 (hpw.below hb))
 have HE3 := Lib.hid hT3
 clear hv3 htl3 hT3
 have E := Lib.hid (JK line name names faults term proto read write use T2 T3 HE2.out HE3.out)
 go_enter Tryz.func40, Tryz.ntmps40
 go_upto_region 16 with fail
 obtain ⟨W0, hW0⟩ : ∃ W0 : World, W0 = w.alloc (.cells (tO 4 line name nA names.length nc fA faults.length fc o1 m1 d1 wA1 wn1 wc1 kA1 kn1 kc1 proto o2 m2 d2 wA2 wn2 wc2 kA2 kn2 kc2 o3 m3 d3 wA3 wn3 wc3 kA3 kn3 kc3 use) 41) := ⟨_, rfl⟩
 have hb0 : Below w.heap.size w W0 := by rw [hW0]; exact hbA _
 have hs0 : w.heap.size < W0.heap.size := by rw [hW0]; simp
 have hr0 : W0.heap[w.heap.size]? = some (.cells (tO 4 line name nA names.length nc fA faults.length fc o1 m1 d1 wA1 wn1 wc1 kA1 kn1 kc1 proto o2 m2 d2 wA2 wn2 wc2 kA2 kn2 kc2 o3 m3 d3 wA3 wn3 wc3 kA3 kn3 kc3 use) 41 (0, 0)) := by rw [hW0]; exact heap_alloc_new w _
 rw [← hW0]
 have HR0 := Lib.hid hr0
 clear hW0 hr0
 have ks2 : ¬ (9223372036854775807 < 7 + name.size) := by omega
 have ks3 : ¬ (9223372036854775807 < 7 + name.size + 1) := by omega
 have ks4 : ¬ (9223372036854775807 < 7 + name.size + 1 + proto.size) := by omega
 have ks5 : ¬ (9223372036854775807 < 7 + name.size + 1 + proto.size + 6) := by omega
 have ks6 : ¬ (9223372036854775807 < 7 + name.size + 1 + proto.size + 6 + T2.size) := by omega
 have ks7 : ¬ (9223372036854775807 < 7 + name.size + 1 + proto.size + 6 + T2.size + 7) := by omega
 have ks8 : ¬ (9223372036854775807 < 7 + name.size + 1 + proto.size + 6 + T2.size + 7 + T3.size) := by omega
 have ks9 : ¬ (9223372036854775807 < 7 + name.size + 1 + proto.size + 6 + T2.size + 7 + T3.size + 8) := by omega
 have ks10 : ¬ (9223372036854775807 < 7 + name.size + 1 + proto.size + 6 + T2.size + 7 + T3.size + 8 + use.size) := by omega
 have ks11 : ¬ (9223372036854775807 < 7 + name.size + 1 + proto.size + 6 + T2.size + 7 + T3.size + 8 + use.size + 1) := by omega
 refine aZ.start (fun w' => Below W0.heap.size W0 w') [] [0, 1, 2, 3, 4, 5, 6, 7, 8, 9, 13, 14, 18, 19, 10, 11, 12, 15, 16, 17, 20, 21, 22] (by kernel_rfl) (Below.refl _ _).drew (fun bx => ?_)
 repeat
  first
  |refine aZ.take (v := ?_) rfl (by decide +kernel) (by rfl) (fun _ _ _ h => h) bx ?_ ?_
   rotate_left
   focus
    intro w9 h9
    have r9 := (h9.block _ hs0).trans HR0.out
    have z2 := ai r9 2 _ rfl; have z10 := ai r9 10 _ rfl; have z11 := ai r9 11 _ rfl; have z12 := ai r9 12 _ rfl; have z13 := ai r9 13 _ rfl; have z14 := ai r9 14 _ rfl; have z15 := ai r9 15 _ rfl; have z16 := ai r9 16 _ rfl; have z17 := ai r9 17 _ rfl; have z18 := ai r9 18 _ rfl; have z19 := ai r9 19 _ rfl; have z20 := ai r9 20 _ rfl; have z21 := ai r9 21 _ rfl
    go_simp
    (try with_reducible rfl)
    done
  |refine aZ.call rfl (by decide +kernel) (by rfl) (fun K hK => ?_)
   go_simp
   go_at_call 77
   first
   |(with_reducible refine (HT2.out _ (hb0.trans (bx.mono hb0.size))).mono ?_); rintro e w2 ⟨rfl, hb2⟩
   |(with_reducible refine (HT3.out _ (hb0.trans (bx.mono hb0.size))).mono ?_); rintro e w2 ⟨rfl, hb2⟩
   have bx := bx.trans (hb2.mono bx.size)
   try go_simp
   refine hK.out _ _ (fun _ => bx) ?_
   clear hK K
  try simp only [Act.put, List.getElem_toArray, List.getElem_cons_succ, List.getElem_cons_zero, List.setIfInBounds_toArray, List.set_cons_zero, List.set_cons_succ]
 refine aZ.done (by decide +kernel) ?_
 go_wp2
 go_ret
 exact ⟨congrArg (fun b => Ending.returned (.string b)) E.out, hb0.trans (bx.mono hb0.size)⟩


set_option maxRecDepth 100000 in
set_option maxHeartbeats 4000000 in
theorem Jj (line : Int) (name : ByteArray) (names : List ByteArray) (faults : List Ft) (term : Tm) (proto : ByteArray) (read write : Tm) (use : ByteArray) (nA : Option Addr) (nc : Nat) (fA : Option Addr) (fc : Nat) (o1 : Int) (m1 : ByteArray) (d1 : Int) (wA1 : Option Addr) (wn1 wc1 : Nat) (kA1 : Option Addr) (kn1 kc1 : Nat) (o2 : Int) (m2 : ByteArray) (d2 : Int) (wA2 : Option Addr) (wn2 wc2 : Nat) (kA2 : Option Addr) (kn2 kc2 : Nat) (o3 : Int) (m3 : ByteArray) (d3 : Int) (wA3 : Option Addr) (wn3 wc3 : Nat) (kA3 : Option Addr) (kn3 kc3 : Nat) (w : World) (S : Nat → Prop) (hS : ∀ g, S g → g < w.heap.size)
  (hnm : name.size ≤ 24) (hf : aT (lm w S) w S 6 fA faults) (hof : faults.all jG = true) (hlf : faults.length ≤ 10000) (hln : ∀ f ∈ faults, f.ay.length + f.ak.length ≤ 100000000) (hpw : Pow w) :
  Calls Tryz.prog 40 #[.agg #[.int .i64 2, .int .i64 line, .string name, .slice nA names.length nc, .slice fA faults.length fc, .int .i64 o1, .string m1, .int .i64 d1, .slice wA1 wn1 wc1, .slice kA1 kn1 kc1, .string proto, .int .i64 o2, .string m2, .int .i64 d2, .slice wA2 wn2 wc2, .slice kA2 kn2 kc2, .int .i64 o3, .string m3, .int .i64 d3, .slice wA3 wn3 wc3, .slice kA3 kn3 kc3, .string use]] w fun e w' => e = .returned (.string (bs (fP ⟨2, line, name, names, faults, term, proto, read, write, use⟩))) ∧ Below w.heap.size w w' := by
 have hbA : ∀ o, Below w.heap.size w (w.alloc o) := fun o => (Below.refl _ _).alloc (Nat.le_refl _) o
 have HF := Lib.hid hf
 have HOF := Lib.hid (List.all_eq_true.1 hof)
 have HLN := Lib.hid hln
 have HP := Lib.hid hpw
 have hj1 := join_length_le (faults.map iB) [32, 124, 32]
 have hj2 := ft_lens faults (fun f hf => by have := nQ (List.all_eq_true.1 hof f hf); have := hln f hf; omega)
 obtain ⟨Q, hQ⟩ : ∃ Q, Q = faults.map iB := ⟨_, rfl⟩
 rw [← hQ] at hj1 hj2
 have hQl : Q.length = faults.length := by rw [hQ, List.length_map]
 have hjl : (Lib.join Q [32, 124, 32]).length ≤ 28000000000000 := by simp only [List.length_cons, List.length_nil] at hj1; rw [hQl] at hj1; omega
 have HQ := Lib.hid (show ∀ k (h : k < faults.length) (h2 : k < Q.length), Q[k] = iB faults[k] from fun k h h2 => by simp [hQ])
 have HE := Lib.hid (show fP ⟨2, line, name, names, faults, term, proto, read, write, use⟩ = [102, 97, 117, 108, 116, 115, 32] ++ name.data.toList ++ [32, 61, 32] ++ Lib.join Q [32, 124, 32] ++ [59] by rw [hQ]; rfl)
 have HLE := Lib.hid (show ∀ k, ([102, 97, 117, 108, 116, 115, 32] ++ name.data.toList ++ [32, 61, 32] ++ Lib.join (Q.take k) [32, 124, 32]).length ≤ 29000000000000 from fun k => by
  have := oJ Q [32, 124, 32] k
  have e : name.data.toList.length = name.size := by simp
  simp only [List.length_append, List.length_cons, List.length_nil]; omega)
 have HQL := Lib.hid hQl
 clear hf hof hln hpw hj1 hj2 hQ hQl hjl
 go_enter Tryz.func40, Tryz.ntmps40
 go_upto_region 5 with fail
 obtain ⟨W0, hW0⟩ : ∃ W0 : World, W0 = w.alloc (.cells (tO 2 line name nA names.length nc fA faults.length fc o1 m1 d1 wA1 wn1 wc1 kA1 kn1 kc1 proto o2 m2 d2 wA2 wn2 wc2 kA2 kn2 kc2 o3 m3 d3 wA3 wn3 wc3 kA3 kn3 kc3 use) 41) := ⟨_, rfl⟩
 have hb0 : Below w.heap.size w W0 := by rw [hW0]; exact hbA _
 have hs0 : w.heap.size < W0.heap.size := by rw [hW0]; simp
 have hr0 : W0.heap[w.heap.size]? = some (.cells (tO 2 line name nA names.length nc fA faults.length fc o1 m1 d1 wA1 wn1 wc1 kA1 kn1 kc1 proto o2 m2 d2 wA2 wn2 wc2 kA2 kn2 kc2 o3 m3 d3 wA3 wn3 wc3 kA3 kn3 kc3 use) 41 (0, 0)) := by rw [hW0]; exact heap_alloc_new w _
 rw [← hW0]
 have HR0 := Lib.hid hr0
 clear hW0 hr0
 obtain ⟨-, -, c2, -, c4, -, -, -, -, -, -, -, -, -, -, -, -, -, -, -, -, -, -⟩ := lC HR0.out
 go_wp2
 go_loopw [3, 4] (fun o x wr => ∃ k : Nat, k ≤ faults.length ∧ x = .int .i64 k ∧ o = .string (bs ([102, 97, 117, 108, 116, 115, 32] ++ name.data.toList ++ [32, 61, 32] ++ Lib.join (Q.take k) [32, 124, 32])) ∧ Below W0.heap.size W0 wr) (fun _ x _ => faults.length - (intOf x).toNat)
 case atStart => exact ⟨0, Nat.zero_le _, rfl, by rw [List.take_zero, Lib.join_nil, List.append_nil]; exact congrArg Value.string (yj _ _ _ _ _ _ rfl (dS name).symm rfl), Below.refl _ _⟩
 case round =>
  obtain ⟨k, hk, rfl, rfl, hb⟩ := hrel
  have hsr := hb.size
  have hbw : Below w.heap.size w wr := hb0.trans (hb.mono (Nat.le_of_lt hs0))
  clear c2 c4
  obtain ⟨-, -, -, -, c4, -, -, -, -, -, -, -, -, -, -, -, -, -, -, -, -, -, -⟩ := lC ((hb.block _ hs0).trans HR0.out)
  obtain ⟨X, hX⟩ : ∃ X, X = bs ([102, 97, 117, 108, 116, 115, 32] ++ name.data.toList ++ [32, 61, 32] ++ Lib.join (Q.take k) [32, 124, 32]) := ⟨_, rfl⟩
  have hXs : X.size ≤ 29000000000000 := by rw [hX, cK]; exact HLE.out k
  rw [← hX]
  have HX := Lib.hid hX
  clear hX
  by_cases hlt : k < faults.length
  ·have hfr := HF.out.keep (P' := lm wr S) (aA hbw hS) (fun _ _ h => h.keep (aA hbw hS))
   obtain ⟨g, o, op, fn, x, y, bA, bn, bc, cA, cn, cc, rfl, hSg, hft, k0, k1, k2, k3, k4, k5⟩ := rY hfr hlt
   have hgs : g < wr.heap.size := by have := hS g hSg; have := hbw.size; omega
   have hkI : (k : Int) < (faults.length : Int) := by omega
   have hk0 : (0 : Int) ≤ (k : Int) := by omega
   have hql : k < Q.length := by rw [HQL.out]; exact hlt
   have hq := HQ.out k hlt hql
   have hmem : faults[k] ∈ faults := List.getElem_mem hlt
   have hl1 := nQ (HOF.out _ hmem)
   have hl2 := HLN.out _ hmem
   have hC := Ed _ _ wr S hft (fun g hg => by have := hS g hg; have := hbw.size; omega) (HOF.out _ hmem) (by omega) (HP.out.below hbw)
   have hus : (bs (iB faults[k])).size ≤ 2700000000 := by rw [cK]; omega
   obtain ⟨t, ht⟩ : ∃ t, t = faults[k] := ⟨_, rfl⟩
   rw [← ht] at hC hq hus
   obtain ⟨U, hU⟩ : ∃ U, U = bs (iB t) := ⟨_, rfl⟩
   rw [← hU] at hC hus
   have HU := Lib.hid hU
   have HC := Lib.hid hC
   clear hfr hft hl1 hl2 hC ht hU hmem
   by_cases hz : 0 < k
   ·have hzI : (0 : Int) < (k : Int) := by omega
    have HS : Hid (Lib.join (Q.take (k + 1)) [32, 124, 32] = Lib.join (Q.take k) [32, 124, 32] ++ [32, 124, 32] ++ Q[k]) := kX Q _ k hql hz
    rw [hq] at HS
    clear hq hz
    go_wp2_with fail
    refine HC.out.mono ?_
    rintro e W2 ⟨rfl, hb2⟩
    go_wp2
    go_roundw
    case rel =>
     refine ⟨k + 1, by omega, by go_num, ?_, hb.trans (hb2.mono (by omega))⟩
     ·rw [HS.out, HX.out, HU.out, show (⟨#[32, 124, 32]⟩ : ByteArray) = bs [32, 124, 32] from rfl]
      simp only [bV, List.append_assoc]
    case measure => simp [intOf]; omega
   ·obtain rfl : k = 0 := by omega
    rw [Nat.zero_mul, Nat.add_zero] at k0 k1 k2 k3 k4 k5
    have HS : Hid (Lib.join (Q.take (0 + 1)) [32, 124, 32] = Lib.join (Q.take 0) [32, 124, 32] ++ Q[0]) := kJ Q _ hql
    rw [hq] at HS
    clear hq hz
    go_wp2_with fail
    refine HC.out.mono ?_
    rintro e W2 ⟨rfl, hb2⟩
    go_wp2
    go_roundw
    case rel =>
     refine ⟨0 + 1, by omega, by go_num, ?_, hb.trans (hb2.mono (by omega))⟩
     ·rw [HS.out, HX.out, HU.out]
      simp only [bV, List.append_assoc]
    case measure => simp [intOf]; omega
  ·obtain rfl : k = faults.length := by omega
   have hkI : ¬ (faults.length : Int) < (faults.length : Int) := by omega
   have HEE := Lib.hid (show X ++ (⟨#[59]⟩ : ByteArray) = bs (fP ⟨2, line, name, names, faults, term, proto, read, write, use⟩) by rw [HX.out, HE.out, ← HQL.out, List.take_length]; exact cat2 _ _ _ _ rfl rfl)
   go_wp2
   go_ret
   exact ⟨by rw [← HEE.out]; rfl, hbw⟩

theorem Gp (d : Dc) (v : Value) (w : World) (S : Nat → Prop) (hd : fo w S d v) (hS : ∀ g, S g → g < w.heap.size) (hok : jK d = true) (hlim : TLim d) (hpw : Pow w) :
  Calls Tryz.prog 40 #[v] w fun e w' => e = .returned (.string (bs (fP d))) ∧ Below w.heap.size w w' := by
 have h := wO hok
 obtain ⟨kind, line, name, names, faults, term, proto, read, write, use⟩ := d
 obtain ⟨nA, nc, fA, fc, vt, vr, vw, rfl, h1, h2, h3, h4, h5, h6, h7⟩ := hd
 obtain ⟨o1, m1, d1, wA1, wn1, wc1, kA1, kn1, kc1, rfl⟩ := h5.form
 obtain ⟨o2, m2, d2, wA2, wn2, wc2, kA2, kn2, kc2, rfl⟩ := h6.form
 obtain ⟨o3, m3, d3, wA3, wn3, wc3, kA3, kn3, kc3, rfl⟩ := h7.form
 obtain ⟨l1, l2, l3, l4, l5, l6⟩ := hlim
 simp only at h1 h2 h3 h4 h5 h6 h7 l1 l2 l3 l4 l5 l6
 simp only [Value.cells, List.append_toArray, List.cons_append, List.nil_append]
 have nm : ∀ {x : ByteArray}, bG x = true → x.size ≤ 24 := fun h => (lH h).1
 rcases sj h with hk | hk | hk | hk | hk | hk | hk <;> (simp only at hk; subst hk)
 ·exact Jk line name names faults term proto read write use nA nc fA fc o1 m1 d1 wA1 wn1 wc1 kA1 kn1 kc1 o2 m2 d2 wA2 wn2 wc2 kA2 kn2 kc2 o3 m3 d3 wA3 wn3 wc3 kA3 kn3 kc3 w S hS (nm (dY h (show hasName 1 = true by decide))) h1 h.names l1
 ·exact Jj line name names faults term proto read write use nA nc fA fc o1 m1 d1 wA1 wn1 wc1 kA1 kn1 kc1 o2 m2 d2 wA2 wn2 wc2 kA2 kn2 kc2 o3 m3 d3 wA3 wn3 wc3 kA3 kn3 kc3 w S hS (nm (dY h (show hasName 2 = true by decide))) h3 h.faults l2 l3 hpw
 ·exact Ji line name names faults term proto read write use nA nc fA fc o1 m1 d1 wA1 wn1 wc1 kA1 kn1 kc1 o2 m2 d2 wA2 wn2 wc2 kA2 kn2 kc2 o3 m3 d3 wA3 wn3 wc3 kA3 kn3 kc3 w S hS (nm (dY h (show hasName 3 = true by decide))) h5 (by have ht := h.term; rw [if_pos (show kY 3 = true by decide)] at ht; exact ht) l4 hpw
 ·obtain ⟨hp, hr, hw, hu⟩ := xK h (show fO 4 = true by decide)
  have hp2 : proto.size ≤ 24 := by have := GU (vF hp); simpa using this
  exact Jh line name names faults term proto read write use nA nc fA fc o1 m1 d1 wA1 wn1 wc1 kA1 kn1 kc1 o2 m2 d2 wA2 wn2 wc2 kA2 kn2 kc2 o3 m3 d3 wA3 wn3 wc3 kA3 kn3 kc3 w S hS (nm (dY h (show hasName 4 = true by decide))) hp2 (nm hu) h6 hr l5 h7 hw l6 hpw
 ·exact Jg line name names faults term proto read write use nA nc fA fc o1 m1 d1 wA1 wn1 wc1 kA1 kn1 kc1 o2 m2 d2 wA2 wn2 wc2 kA2 kn2 kc2 o3 m3 d3 wA3 wn3 wc3 kA3 kn3 kc3 w S hS h1 h.names l1
 ·have hu : use.size ≤ 24 := by
   rcases h.use with h | h
   ·have h : use.size = 0 := h
    omega
   ·exact nm h
  exact Jf line name names faults term proto read write use nA nc fA fc o1 m1 d1 wA1 wn1 wc1 kA1 kn1 kc1 o2 m2 d2 wA2 wn2 wc2 kA2 kn2 kc2 o3 m3 d3 wA3 wn3 wc3 kA3 kn3 kc3 w S hS (nm (dY h (show hasName 6 = true by decide))) hu
 ·exact Je line name names faults term proto read write use nA nc fA fc o1 m1 d1 wA1 wn1 wc1 kA1 kn1 kc1 o2 m2 d2 wA2 wn2 wc2 kA2 kn2 kc2 o3 m3 d3 wA3 wn3 wc3 kA3 kn3 kc3 w S hS h1 h.names l1

end Go.Proofs.YtbmglebipepdmaaGreatDoor
namespace Go.Proofs.YtbmglebipepdmaaGreatDoor
open Go.RowKit
theorem dc_agg {w : World} {S : Nat → Prop} {d : Dc} {v : Value} (h : fo w S d v) : ∃ Z : Array Value, v = .agg Z ∧ Z.size = 22 := by
 obtain ⟨nA, nc, fA, fc, o1, m1, d1, wA1, wn1, wc1, kA1, kn1, kc1, o2, m2, d2, wA2, wn2, wc2, kA2, kn2, kc2, o3, m3, d3, wA3, wn3, wc3, kA3, kn3, kc3, rfl⟩ := uQ h
 exact ⟨_, rfl, rfl⟩
attribute [local go_sem ↓] qf in
set_option maxRecDepth 100000 in
set_option maxHeartbeats 4000000 in
theorem Cj (l : List Dc) (A : Option Addr) (c : Nat) (w : World) (S : Nat → Prop) (hl : aT (fo w S) w S 22 A l) (hS : ∀ g, S g → g < w.heap.size) (hsz : (l.map bE).sum ≤ 1100000) (hz : ∀ d ∈ l, TLim d ∧ ILim d) (hpw : Pow w) :
  Calls Tryz.prog 13 #[.slice A l.length c] w fun e w' => e = .returned (.tuple #[.string (bs (bH l).1), .int .i64 (bH l).2]) ∧ Below w.heap.size w w' := by
 have HL := Lib.hid hl
 have HZ := Lib.hid hz
 have HP := Lib.hid hpw
 have hll := iD l
 have HLE := Lib.hid (show ∀ k, (l.take k).all jK = true → (dm (l.take k)).length ≤ 300000000 from fun k h => by have := wM _ h; have := sum_take l k; omega)
 have HDL := Lib.hid (show ∀ d ∈ l, jK d = true → (fP d).length ≤ 300000000 from fun d hd h => by have := yh h; have := qj hd; omega)
 have hlb : l.length ≤ 1100000 := by omega
 have hno : l.all jK = false → bH l = ([], 1) := fun h => by unfold bH; rw [h]; rfl
 have hyes : l.all jK = true → bH l = iK (dm l) := fun h => by unfold bH; rw [h]; rfl
 have HNO := Lib.hid hno
 have HYES := Lib.hid hyes
 clear hl hz hpw hsz hll hno hyes
 go_enter Tryz.func13, Tryz.ntmps13
 go_wp2
 go_loopw [4, 5] (fun o x wr => ∃ k : Nat, k ≤ l.length ∧ x = .int .i64 k ∧ o = .string (bs (dm (l.take k))) ∧ Below w.heap.size w wr ∧ Hid (l.all jK = (l.drop k).all jK) ∧ Hid ((l.take k).all jK = true)) (fun _ x _ => l.length - (intOf x).toNat)
 case atStart => exact ⟨0, Nat.zero_le _, rfl, rfl, Below.refl _ _, rfl, rfl⟩
 case round =>
  obtain ⟨k, hk, rfl, rfl, hb, hd, htk⟩ := hrel
  have hsr := hb.size
  obtain ⟨X, hX⟩ : ∃ X, X = bs (dm (l.take k)) := ⟨_, rfl⟩
  have hXs : X.size ≤ 300000000 := by rw [hX, cK]; exact HLE.out k htk.out
  rw [← hX]
  have HX := Lib.hid hX
  clear hX
  by_cases hlt : k < l.length
  ·obtain ⟨g, o, v, rfl, hSg, hp, hc⟩ := fJ (fun _ _ h => jE h) (HL.out.keep (P' := fo wr S) (aA hb hS) (fun _ _ h => h.keep (aA hb hS))) hlt
   obtain ⟨Z, rfl, hZ⟩ := dc_agg hp
   have hr : wr.rangeAt g (o + k * 22) Z.toList := fun j u hu => hc j u hu
   have hld := pG wr g (o + k * 22) Z.toList hr (by simpa using hZ)
   rw [Array.toArray_toList] at hld
   have hgs : g < wr.heap.size := by have := hS g hSg; omega
   have hkI : (k : Int) < (l.length : Int) := by omega
   have hk0 : (0 : Int) ≤ (k : Int) := by omega
   have hmem : l[k] ∈ l := List.getElem_mem hlt
   have hC := LK _ _ wr S hp (fun g hg => by have := hS g hg; omega) (HZ.out _ hmem).2
   have hdk : (l.drop k).all jK = (jK l[k] && (l.drop (k + 1)).all jK) := by rw [List.drop_eq_getElem_cons hlt, List.all_cons]
   cases hq : jK l[k]
   ·rw [hq] at hC hdk
    have HC := Lib.hid hC
    have E := Lib.hid (HNO.out (by rw [hd.out, hdk, Bool.false_and]))
    clear hC hdk hq hp hc hr
    go_wp2_with fail
    refine HC.out.mono ?_
    rintro e W2 ⟨rfl, hb2⟩
    go_wp2
    go_ret2
    exact ⟨by rw [E.out]; rfl, hb.trans (hb2.mono hsr)⟩
   ·have HD := Lib.hid (fun (W : World) (hW : Below wr.heap.size wr W) => Gp _ _ W S (hp.keep (aP hW)) (fun g hg => by have := hS g hg; have := hW.size; omega) hq (HZ.out _ hmem).1 ((HP.out.below hb).below hW))
    have hus : (bs (fP l[k])).size ≤ 300000000 := by rw [cK]; exact HDL.out _ hmem hq
    have HS := Lib.hid (dcs_take l k hlt)
    have HTK := Lib.hid (show (l.take (k + 1)).all jK = true by rw [List.take_succ_eq_append_getElem hlt, List.all_append, htk.out, List.all_cons, hq]; rfl)
    rw [hq] at hC hdk
    have HC := Lib.hid hC
    have E := Lib.hid (show l.all jK = (l.drop (k + 1)).all jK by rw [hd.out, hdk, Bool.true_and])
    obtain ⟨U, hU⟩ : ∃ U, U = bs (fP l[k]) := ⟨_, rfl⟩
    rw [← hU] at HD hus
    have HU := Lib.hid hU
    have HR := Lib.hid hr
    clear hC hdk hq hp hc hr hU hmem
    go_wp2_with fail
    refine HC.out.mono ?_
    rintro e W2 ⟨rfl, hb2⟩
    have hs2 := hb2.size
    have hld2 := pG W2 g (o + k * 22) Z.toList (fun j u hu => (hb2.cell (p := ⟨g, o + k * 22 + j, none⟩) hgs).trans (HR.out j u hu)) (by simpa using hZ)
    rw [Array.toArray_toList] at hld2
    clear hld
    go_wp2_with fail
    refine (HD.out W2 hb2).mono ?_
    rintro e W3 ⟨rfl, hb3⟩
    go_wp2
    go_roundw
    case rel =>
     refine ⟨k + 1, by omega, by go_num, ?_, hb.trans ((hb2.trans (hb3.mono hs2)).mono hsr), E.out, HTK.out⟩
     rw [HS.out, HX.out, HU.out, show (⟨#[10]⟩ : ByteArray) = bs [10] from rfl]
     simp only [bV, List.append_assoc]
    case measure => simp [intOf]; omega
  ·obtain rfl : k = l.length := by omega
   have hkI : ¬ (l.length : Int) < (l.length : Int) := by omega
   have hal : l.all jK = true := by rw [hd.out, List.drop_length]; rfl
   have HZR := Lib.hid (Fp X wr)
   rw [show X = bs (dm l) by rw [HX.out, List.take_length]] at HZR
   rw [show X = bs (dm l) by rw [HX.out, List.take_length]]
   rw [eZ, ← HYES.out hal] at HZR
   clear hal hXs HX
   go_wp2_with fail
   refine HZR.out.mono ?_
   rintro e W2 ⟨rfl, hb2⟩
   go_wp2
   go_ret2
   exact ⟨rfl, hb.trans (hb2.mono hsr)⟩
end Go.Proofs.YtbmglebipepdmaaGreatDoor
namespace Go.Proofs.YtbmglebipepdmaaGreatDoor
def jZ (w : List UInt8) : List UInt8 := if w = [] ∨ reserved (bs w) = true then w else 120 :: w
def rho (y : ByteArray) : ByteArray := bs (jZ y.data.toList)
theorem KG : ∀ w ∈ words, w.data.toList.head? ≠ some 120 := by decide
theorem vD {w : List UInt8} (h : reserved (bs w) = true) : w.head? ≠ some 120 := by
 unfold reserved at h
 obtain ⟨z, hz, e⟩ := List.any_eq_true.1 h
 rw [eF] at e
 subst e
 have := KG _ hz
 rwa [eZ] at this
theorem K4 (w : List UInt8) : reserved (bs (120 :: w)) = false := by
 cases h : reserved (bs (120 :: w))
 ·rfl
 ·exact absurd rfl (vD h)
theorem BI (w : List UInt8) : (jZ w = w ∧ w.head? ≠ some 120) ∨ jZ w = 120 :: w := by
 unfold jZ
 by_cases h : w = [] ∨ reserved (bs w) = true
 ·rw [if_pos h]
  refine Or.inl ⟨rfl, ?_⟩
  rcases h with h | h
  ·subst h; simp
  ·exact vD h
 ·rw [if_neg h]; exact Or.inr rfl
theorem sigma_inj (a b : List UInt8) : jZ a = jZ b ↔ a = b := by
 constructor
 ·intro h
  rcases BI a with ⟨ha, h1⟩ | ha <;> rcases BI b with ⟨hb, h2⟩ | hb
  ·rwa [ha, hb] at h
  ·rw [ha, hb] at h; rw [h] at h1; exact absurd rfl h1
  ·rw [ha, hb] at h; rw [← h] at h2; exact absurd rfl h2
  ·rw [ha, hb] at h; exact (List.cons.inj h).2
 ·intro h; rw [h]
theorem zB (a b : ByteArray) : rho a = rho b ↔ a = b := by
 unfold rho
 rw [bs_inj, sigma_inj]
 constructor
 ·intro h; rw [← dS a, h, dS]
 ·intro h; rw [h]
theorem pI {y : ByteArray} (h : y.size = 0 ∨ reserved y = true) : rho y = y := by
 unfold rho jZ
 rw [if_pos, dS]
 rcases h with h | h
 ·left
  have : y.data.toList.length = 0 := by simpa using h
  exact List.length_eq_zero_iff.1 this
 ·right; rw [dS]; exact h
theorem Ig {y : ByteArray} (h0 : ¬ y.size = 0) (h : reserved y = false) : rho y = bs (120 :: y.data.toList) := by
 unfold rho jZ
 rw [if_neg]
 rintro (e | e)
 ·exact h0 (by have := congrArg List.length e; simpa using this)
 ·rw [dS, h] at e; cases e
theorem zA (y : ByteArray) : rho y = (⟨#[115, 101, 114, 118, 101, 114, 115]⟩ : ByteArray) ↔ y = (⟨#[115, 101, 114, 118, 101, 114, 115]⟩ : ByteArray) := by
 have e : rho (⟨#[115, 101, 114, 118, 101, 114, 115]⟩ : ByteArray) = (⟨#[115, 101, 114, 118, 101, 114, 115]⟩ : ByteArray) := pI (Or.inr (by decide))
 constructor
 ·intro h; rw [← e, zB] at h; exact h
 ·intro h; rw [h, e]
theorem iX (y : ByteArray) : (rho y).size = 0 ↔ y.size = 0 := by
 have e : rho (bs []) = bs [] := pI (Or.inl rfl)
 have z : ∀ x : ByteArray, x.size = 0 ↔ x = bs [] := fun x => by
  constructor
  ·intro h
   have : x.data.toList.length = 0 := by simpa using h
   rw [← dS x, List.length_eq_zero_iff.1 this]
  ·intro h; rw [h]; rfl
 rw [z, z]
 constructor
 ·intro h; rw [← e, zB] at h; exact h
 ·intro h; rw [h, e]

theorem pre_full (p : Nat → Bool) : ∀ (l : List UInt8), (∀ c ∈ l, p c.toNat = true) → pre p l = l.length := by
 intro l
 induction l with
 |nil => intro _; rfl
 |cons c r ih =>
  intro h
  unfold pre at ih ⊢
  rw [List.takeWhile_cons, if_pos (h c (by simp)), List.length_cons, ih fun d hd => h d (by simp [hd]), List.length_cons]
theorem oI {y : ByteArray} (h : bG y = true) : dR y.data.toList = true ∧ reserved y = false ∧ ¬ y.size = 0 := by
 unfold bG at h
 rw [Bool.and_eq_true] at h
 refine ⟨h.1, by simpa using h.2, fun e => ?_⟩
 have : y.data.toList = [] := List.length_eq_zero_iff.1 (by simpa using e)
 rw [this] at h
 exact absurd h.1 (by decide)
theorem nG {y : ByteArray} (h : bG y = true) (hs : y.size ≤ 23) : bG (rho y) = true := by
 obtain ⟨h1, h2, h3⟩ := oI h
 rw [Ig h3 h2]
 unfold bG
 rw [K4, eZ]
 obtain ⟨-, -, -, -, -, hc⟩ := kU h1
 have hl : y.data.toList.length = y.size := by simp
 show (decide ((120 :: y.data.toList).length ≤ 24) && dX (120 : UInt8).toNat && (pre cu (120 :: y.data.toList) == (120 :: y.data.toList).length) && !false) = true
 rw [pre_full cu _ (by
  intro c hcm
  rcases List.mem_cons.1 hcm with rfl | hcm
  ·decide
  ·exact hc c hcm), List.length_cons, hl]
 have h23 : y.size + 1 ≤ 24 := by omega
 simp [h23]
 decide
theorem Ao {y : ByteArray} (h : (bG y || y == (⟨#[115, 101, 114, 118, 101, 114, 115]⟩ : ByteArray)) = true) (hs : y.size ≤ 23) : (bG (rho y) || rho y == (⟨#[115, 101, 114, 118, 101, 114, 115]⟩ : ByteArray)) = true := by
 rw [Bool.or_eq_true] at h ⊢
 rcases h with h | h
 ·exact Or.inl (nG h hs)
 ·rw [eF] at h ⊢
  exact Or.inr ((zA y).2 h)
theorem Ez (op : Int) (nm : ByteArray) (nd : Int) (ws : List Int) (ks : List Tm) : bare (.mk op nm nd ws ks) = (decide (nd = 0) && decide (ws.length + ks.length = 0)) := rfl
theorem Lc {op : Int} {nm : ByteArray} {nd : Int} {ws : List Int} {ks ks' : List Tm} (h : bY (.mk op nm nd ws ks) = true) (hl : ks'.length = ks.length) (hs : nm.size ≤ 23) : bY (.mk op (rho nm) nd ws ks') = true := by
 rcases Al h with rfl | rfl | rfl | rfl | rfl | rfl | rfl | rfl
 ·rw [wE, Bool.and_eq_true] at h ⊢
  exact ⟨nG h.1 hs, by have := h.2; rw [Ez] at this ⊢; rw [hl]; exact this⟩
 ·rw [wD] at h ⊢
  rw [decide_eq_decide.2 (iX nm), hl]; exact h
 ·rw [D7] at h ⊢
  rw [decide_eq_decide.2 (iX nm), hl]; exact h
 ·rw [D6] at h ⊢
  rw [decide_eq_decide.2 (iX nm), hl]; exact h
 ·rw [wC] at h ⊢
  rw [decide_eq_decide.2 (iX nm), hl]; exact h
 ·rw [wB, Bool.and_eq_true] at h ⊢
  exact ⟨Ao h.1 hs, by have := h.2; rw [Ez] at this ⊢; rw [hl]; exact this⟩
 ·rw [wu, Bool.and_eq_true] at h ⊢
  exact ⟨Ao h.1 hs, by have := h.2; rw [Ez] at this ⊢; rw [hl]; exact this⟩
 ·rw [wm, Bool.and_eq_true] at h ⊢
  exact ⟨Ao h.1 hs, by have := h.2; rw [Ez] at this ⊢; rw [hl]; exact this⟩
theorem okTm_ren : ∀ (n : Nat) (t : Tm), au t ≤ n → iZ t = true → (∀ y ∈ bB t, y.size ≤ 23) → iZ (dL rho t) = true := by
 intro n
 induction n with
 |zero =>
   intro t ht; have : 0 < au t := by (cases t; rw [au]; omega)
   omega
 |succ n ih =>
  intro t ht hok hY
  cases t with
  |mk op nm nd ws ks =>
   have hs : au (.mk op nm nd ws ks) = 1 + nm.size + ws.length + aX ks := rfl
   rw [uE] at hok
   simp only [Tm.ws, Tm.kids, Bool.and_eq_true] at hok
   have hn : nm.size ≤ 23 := by
    by_cases h : nm.size = 0
    ·omega
    ·exact hY nm (by rw [bB, if_neg h]; simp)
   rw [dL, jJ, uE]
   simp only [Tm.ws, Tm.kids, Bool.and_eq_true]
   refine ⟨⟨Lc hok.1.1 (by simp) hn, hok.1.2⟩, List.all_eq_true.2 fun x hx => ?_⟩
   obtain ⟨k, hk, rfl⟩ := List.mem_map.1 hx
   exact ih k (by have := bI hk; omega) (List.all_eq_true.1 hok.2 k hk) fun y hy => hY y (by
    rw [bB, gK, List.mem_append]
    exact Or.inr (List.mem_flatMap.2 ⟨k, hk, hy⟩))
theorem AP (t : Tm) : blank (dL rho t) = blank t := by
 cases t with
 |mk op nm nd ws ks =>
  have e : ∀ (nm : ByteArray) (ks : List Tm), blank (.mk op nm nd ws ks) = (decide (op = 0) && decide (nm.size = 0) && (decide (nd = 0) && decide (ws.length + ks.length = 0))) := fun _ _ => rfl
  rw [dL, jJ, e, e, List.length_map, decide_eq_decide.2 (iX nm)]
theorem uF {l : List ByteArray} (h : bg l = true) (hs : ∀ y ∈ l, y.size ≤ 23) : bg (l.map rho) = true := by
 unfold bg at h ⊢
 refine List.all_eq_true.2 fun x hx => ?_
 obtain ⟨y, hy, rfl⟩ := List.mem_map.1 hx
 exact nG (List.all_eq_true.1 h y hy) (hs y hy)
theorem okFt_ren {f : Ft} (h : jG f = true) (hs : ∀ y ∈ f.ay ++ f.ak ++ [f.name], y.size ≤ 23) : jG (pW rho f) = true := by
 obtain ⟨op, nm, x, y, bl, cl⟩ := f
 simp only at hs
 have hn : nm.size ≤ 23 := hs _ (by simp)
 unfold jG pW jD gQ at *
 simp only [List.length_map] at *
 rw [decide_eq_decide.2 (iX nm)]
 split at h
 ·rename_i h1; rw [if_pos h1]; exact h
 rename_i h1
 rw [if_neg h1]
 split at h
 ·rename_i h2; rw [if_pos h2]; exact h
 rename_i h2
 rw [if_neg h2]
 split at h
 ·rename_i h3
  rw [if_pos h3]
  simp only [Bool.and_eq_true] at h ⊢
  exact ⟨⟨h.1.1, uF h.1.2 fun y hy => hs y (by simp [hy])⟩, uF h.2 fun y hy => hs y (by simp [hy])⟩
 rename_i h3
 rw [if_neg h3]
 split at h
 ·rename_i h4
  rw [if_pos h4]
  simp only [Bool.and_eq_true] at h ⊢
  exact ⟨⟨nG h.1.1 hn, h.1.2⟩, h.2⟩
 ·cases h
theorem okDc_of {d : Dc} (h : G6 d) : jK d = true := by
 unfold jK
 simp only [Bool.and_eq_true]
 exact ⟨⟨⟨⟨⟨⟨⟨⟨⟨⟨decide_eq_true h.lo, decide_eq_true h.hi⟩, beq_iff_eq.2 h.hname⟩, beq_iff_eq.2 h.Ce⟩, beq_iff_eq.2 h.DY⟩, by simpa using h.name⟩, by simpa using h.use⟩, h.names⟩, h.faults⟩, h.term⟩, h.conf⟩
def KD (d : Dc) : Prop := ∀ y ∈ nJ d, y.size ≤ 23
theorem okDc_ren {d : Dc} (h0 : jK d = true) (hs : KD d) : jK (iO rho d) = true := by
 have h := wO h0
 have hu : ∀ y ∈ fq d, y.size ≤ 23 := fun y hy => hs y (by unfold nJ; simp [hy])
 have hT : ∀ (x : Tm), (∀ y ∈ bB x, y ∈ fq d) → iZ x = true → iZ (dL rho x) = true := fun x hx ho => okTm_ren _ x (Nat.le_refl _) ho fun y hy => hu y (hx y hy)
 have ht := hT d.term fun y hy => by unfold fq; simp [hy]
 have hr := hT d.read fun y hy => by unfold fq; simp [hy]
 have hw := hT d.write fun y hy => by unfold fq; simp [hy]
 refine okDc_of ⟨h.lo, h.hi, ?_, ?_, ?_, ?_, ?_, ?_, ?_, ?_, ?_⟩
 ·show hasName d.kind = !decide ((rho d.name).size = 0)
  rw [decide_eq_decide.2 (iX _)]; exact h.hname
 ·show j6 d.kind = decide (0 < (d.names.map rho).length)
  rw [List.length_map]; exact h.Ce
 ·show jd d.kind = decide (0 < (d.faults.map (pW rho)).length)
  rw [List.length_map]; exact h.DY
 ·rcases h.name with h1 | h1
  ·exact Or.inl ((iX _).2 h1)
  ·exact Or.inr (nG h1 (hs _ (by unfold nJ; simp)))
 ·rcases h.use with h1 | h1
  ·exact Or.inl ((iX _).2 h1)
  ·exact Or.inr (nG h1 (hu _ (by unfold fq; simp)))
 ·exact uF h.names fun y hy => hs y (by unfold nJ; simp [hy])
 ·refine List.all_eq_true.2 fun x hx => ?_
  obtain ⟨f, hf, rfl⟩ := List.mem_map.1 hx
  exact okFt_ren (List.all_eq_true.1 h.faults f hf) fun y hy => hu y (by unfold fq; simp only [List.mem_append]; exact Or.inl (Or.inr (List.mem_flatMap.2 ⟨f, hf, by simpa only [List.mem_append] using hy⟩)))
 ·have := h.term
  show (if kY d.kind = true then iZ (dL rho d.term) else blank (dL rho d.term)) = true
  rw [AP]
  split
  ·rename_i hk; rw [if_pos hk] at this; exact ht this
  ·rename_i hk; rw [if_neg hk] at this; exact this
 ·have := h.conf
  show (if fO d.kind = true then (d.proto == (⟨#[99, 114, 97, 115, 104]⟩ : ByteArray) || d.proto == (⟨#[98, 121, 122, 97, 110, 116, 105, 110, 101]⟩ : ByteArray)) && iZ (dL rho d.read) && iZ (dL rho d.write) && !decide ((rho d.use).size = 0) else decide (d.proto.size = 0) && blank (dL rho d.read) && blank (dL rho d.write) && (rT d.kind || decide ((rho d.use).size = 0))) = true
  rw [AP, AP, decide_eq_decide.2 (iX _)]
  split
  ·rename_i hk; rw [if_pos hk] at this
   simp only [Bool.and_eq_true] at this ⊢
   exact ⟨⟨⟨this.1.1.1, hr this.1.1.2⟩, hw this.1.2⟩, this.2⟩
  ·rename_i hk; rw [if_neg hk] at this; exact this
end Go.Proofs.YtbmglebipepdmaaGreatDoor
namespace Go.Proofs.YtbmglebipepdmaaGreatDoor
def lF (p : Pc) : Pc := match p with | .word w => .word (jZ w) | p => p
theorem vV (l : List (List Pc)) (sep : List Pc) (hs : sep.map lF = sep) : kL (l.map (List.map lF)) sep = (kL l sep).map lF := by
 cases l with
 |nil => rfl
 |cons x r =>
  rw [List.map_cons, kL, kL, List.map_append]
  congr 1
  induction r with
  |nil => rfl
  |cons y r ih => rw [List.map_cons, List.flatMap_cons, List.flatMap_cons, List.map_append, List.map_append, ih, hs]
theorem par_map (ops : List Int) (t : Tm) (x : List Pc) : mR ops (dL rho t) (x.map lF) = (mR ops t x).map lF := by
 have e : (dL rho t).op = t.op := by cases t; rfl
 unfold mR
 rw [e]
 split
 ·rw [List.map_append, List.map_append]; rfl
 ·rfl
theorem Bq (ops : List Int) (ks : List Tm) : ∀ (l : List (List Pc)), List.zipWith (mR ops) (ks.map (dL rho)) (l.map (List.map lF)) = (List.zipWith (mR ops) ks l).map (List.map lF) := by
 induction ks with
 |nil => intro l; simp
 |cons k r ih =>
  intro l
  cases l with
  |nil => simp
  |cons x l => rw [List.map_cons, List.map_cons, List.zipWith_cons_cons, List.zipWith_cons_cons, List.map_cons, ih, par_map]
theorem Hg (ws : List Int) (l : List (List Pc)) : iw ws (l.map (List.map lF)) = (iw ws l).map (List.map lF) := by
 unfold iw
 split
 ·rfl
 ·rename_i h
  clear h
  induction l generalizing ws with
  |nil => simp
  |cons x r ih =>
   cases ws with
   |nil => simp
   |cons w ws =>
    rw [List.map_cons, List.zipWith_cons_cons, List.zipWith_cons_cons, List.map_cons, ih, List.map_append]; rfl
theorem head_mk (op : Int) (nm : ByteArray) (nd : Int) (ws : List Int) (ks : List Tm) (l : List (List Pc)) : LV (.mk op nm nd ws ks) l =
  if op = 3 then kL (List.zipWith (mR [3, 4]) ks l) yt
  else if op = 4 then kL (List.zipWith (mR [4]) ks l) rM
  else if op = 5 then [.word [100, 117, 97, 108], .sym 40] ++ l.headD [] ++ [.sym 41]
  else if op = 6 then [.word [109, 97, 106, 111, 114, 105, 116, 121], .sym 40, .word nm.data.toList, .sym 41]
  else if op = 7 then [.word [97, 108, 108], .sym 40, .word nm.data.toList, .sym 41]
  else if op = 8 then [.word [97, 110, 121], .sym 40, .word nm.data.toList, .sym 41]
  else if op = 2 then [.int nd, .sym 40] ++ kL (iw ws l) qV ++ [.sym 41]
  else [.word nm.data.toList] := rfl
theorem dB {w : List UInt8} (h : reserved (bs w) = true) : jZ w = w := by unfold jZ; rw [if_pos (Or.inr h)]
theorem tmPcs_map : ∀ (n : Nat) (t : Tm), au t ≤ n → dx (dL rho t) = (dx t).map lF := by
 intro n
 induction n with
 |zero =>
   intro t ht; have : 0 < au t := by (cases t; rw [au]; omega)
   omega
 |succ n ih =>
  intro t ht
  cases t with
  |mk op nm nd ws ks =>
   have hs : au (.mk op nm nd ws ks) = 1 + nm.size + ws.length + aX ks := rfl
   have hk : (ks.map (dL rho)).map dx = (ks.map dx).map (List.map lF) := by
    rw [List.map_map, List.map_map]
    exact List.map_congr_left fun k hk => ih k (by have := bI hk; omega)
   have e : (rho nm).data.toList = jZ nm.data.toList := by unfold rho; rw [eZ]
   rw [dL, jJ, j4, j4]
   simp only [Tm.kids]
   rw [hk]
   generalize ks.map dx = l
   rw [head_mk, head_mk, Bq, Bq, Hg, vV _ _ rfl, vV _ _ rfl, vV _ _ rfl, e]
   split
   ·rfl
   split
   ·rfl
   split
   ·rw [List.map_append, List.map_append]
    congr 1
    congr 1
    cases l <;> rfl
   split
   ·show _ = [Pc.word (jZ [109, 97, 106, 111, 114, 105, 116, 121]), .sym 40, .word (jZ nm.data.toList), .sym 41]
    rw [dB (w := [109, 97, 106, 111, 114, 105, 116, 121]) (by decide)]
   split
   ·show _ = [Pc.word (jZ [97, 108, 108]), .sym 40, .word (jZ nm.data.toList), .sym 41]
    rw [dB (w := [97, 108, 108]) (by decide)]
   split
   ·show _ = [Pc.word (jZ [97, 110, 121]), .sym 40, .word (jZ nm.data.toList), .sym 41]
    rw [dB (w := [97, 110, 121]) (by decide)]
   split
   ·rw [List.map_append, List.map_append]; rfl
   ·rfl
theorem EZ (t : Tm) : dx (dL rho t) = (dx t).map lF := tmPcs_map _ t (Nat.le_refl _)
theorem toks_map (ps : List Pc) : (aK (ps.map lF)).length = (aK ps).length := by
 induction ps with
 |nil => rfl
 |cons p r ih =>
  rw [List.map_cons, dN, dN, List.length_append, List.length_append, ih]
  cases p <;> rfl
theorem vN (l : List ByteArray) : iy (l.map rho) = (iy l).map lF := by
 unfold iy
 rw [← vV _ _ rfl, List.map_map, List.map_map]
 congr 1
theorem CG {w : List UInt8} (hw : reserved (bs w) = true) (l : List ByteArray) : jV w (l.map rho) = (jV w l).map lF := by
 unfold jV
 rw [vN, List.map_append, List.map_append]
 show [Pc.word w, .gap [32], .sym 123, .gap [32]] ++ _ = [Pc.word (jZ w), .gap [32], .sym 123, .gap [32]] ++ _
 rw [dB hw]; rfl
theorem lS (y : ByteArray) : (rho y).data.toList = jZ y.data.toList := by unfold rho; rw [eZ]
theorem eH (w : List UInt8) (r : List Pc) : (Pc.word w :: r).map lF = .word (jZ w) :: r.map lF := rfl
theorem gP (w : List UInt8) (r : List Pc) : (Pc.gap w :: r).map lF = .gap w :: r.map lF := rfl
theorem iU (c : UInt8) (r : List Pc) : (Pc.sym c :: r).map lF = .sym c :: r.map lF := rfl
theorem jh : ([] : List Pc).map lF = [] := rfl
theorem ft_map (f : Ft) : ftP (pW rho f) = (ftP f).map lF := by
 obtain ⟨op, nm, x, y, bl, cl⟩ := f
 unfold ftP pW
 simp only
 split
 ·rw [eH, dB (by decide)]; rfl
 split
 ·rw [eH, dB (by decide)]; rfl
 split
 ·simp only [eH, gP, jh, lS]
  rw [dB (w := [115, 105, 116, 101]) (by decide), dB (w := [98, 121, 122]) (by decide)]
 split
 ·simp only [eH, gP, jh, lS]
  rw [dB (w := [115, 105, 116, 101]) (by decide), dB (w := [99, 114, 97, 115, 104]) (by decide)]
 split
 ·unfold Fs
  simp only [List.length_map]
  rw [CG (by decide), CG (by decide)]
  split
  ·rfl
  split
  ·rfl
  ·rw [List.map_append]; rfl
 ·show [Pc.word (rho nm).data.toList] = [Pc.word (jZ nm.data.toList)]
  rw [lS]
theorem Iq {d : Dc} (h : G6 d) : rho d.proto = d.proto := by
 refine pI ?_
 have := h.conf
 split at this
 ·simp only [Bool.and_eq_true, Bool.or_eq_true] at this
  right
  rcases this.1.1.1 with e | e
  ·rw [eF] at e; rw [e]; decide
  ·rw [eF] at e; rw [e]; decide
 ·simp only [Bool.and_eq_true] at this
  exact Or.inl (of_decide_eq_true this.1.1.1)
theorem dc_map {d : Dc} (h : G6 d) : dcP (iO rho d) = (dcP d).map lF := by
 have hp : jZ d.proto.data.toList = d.proto.data.toList := by rw [← lS, Iq h]
 have hu : ((rho d.use).size = 0) = (d.use.size = 0) := propext (iX _)
 have hf : (d.faults.map (pW rho)).map ftP = (d.faults.map ftP).map (List.map lF) := by
  rw [List.map_map, List.map_map]; exact List.map_congr_left fun f _ => ft_map f
 have k1 : jZ [115, 105, 116, 101] = [115, 105, 116, 101] := dB (by decide)
 have k2 : jZ [102, 97, 117, 108, 116, 115] = [102, 97, 117, 108, 116, 115] := dB (by decide)
 have k3 : jZ [113, 117, 111, 114, 117, 109] = [113, 117, 111, 114, 117, 109] := dB (by decide)
 have k4 : jZ [99, 111, 110, 102, 105, 103] = [99, 111, 110, 102, 105, 103] := dB (by decide)
 have k5 : jZ [114, 101, 97, 100] = [114, 101, 97, 100] := dB (by decide)
 have k6 : jZ [119, 114, 105, 116, 101] = [119, 114, 105, 116, 101] := dB (by decide)
 have k7 : jZ [119, 105, 116, 110, 101, 115, 115] = [119, 105, 116, 110, 101, 115, 115] := dB (by decide)
 have k8 : jZ [99, 104, 97, 105, 110] = [99, 104, 97, 105, 110] := dB (by decide)
 have k9 : jZ [99, 108, 105, 101, 110, 116] = [99, 108, 105, 101, 110, 116] := dB (by decide)
 unfold dcP iO
 simp only [hu]
 split
 ·simp only [List.map_append, eH, gP, iU, jh, lS, k1, vN]
 split
 ·rw [hf, vV _ rM rfl, List.map_append, List.map_append]
  simp only [eH, gP, iU, jh, lS, k2]
 split
 ·simp only [List.map_append, eH, gP, iU, jh, lS, k3, EZ]
 split
 ·simp only [List.map_append, eH, gP, iU, jh, lS, k4, k5, k6, k2, hp, EZ]
 split
 ·simp only [List.map_append, eH, gP, iU, jh, k7, vN]
 split
 ·simp only [List.map_append, eH, gP, iU, jh, k8, vN]
 split
 ·simp only [eH, gP, iU, jh, lS, k9]
 ·simp only [eH, gP, iU, jh, lS, k9, k2]
theorem dcs_map {l : List Dc} (h : l.all jK = true) : (aK (rA (l.map (iO rho)))).length = (aK (rA l)).length := by
 unfold rA
 induction l with
 |nil => rfl
 |cons d r ih =>
  rw [List.all_cons, Bool.and_eq_true] at h
  rw [List.map_cons, List.flatMap_cons, List.flatMap_cons, aI, aI, aI, aI, dc_map (wO h.1)]
  simp only [List.length_append]
  rw [toks_map, ih h.2]

def pot (ps : List Pc) : Int := 18 * ((aK ps).length : Int) - ((bytesOf ps).length : Int)
theorem dD (a b : List Pc) : pot (a ++ b) = pot a + pot b := by
 unfold pot
 rw [aI, aV, List.length_append, List.length_append]; omega
theorem gD (p : Pc) (r : List Pc) : pot (p :: r) = pot [p] + pot r := dD [p] r
theorem lD : pot [.gap [32]] = -1 := rfl
theorem pot_line : pot [.gap [10]] = -1 := rfl
theorem iY (c : UInt8) : pot [.sym c] = 17 := rfl
theorem fu (w : List UInt8) : pot [.word w] = 18 - (w.length : Int) := by simp [pot, aK, bytesOf, Pc.toks, Pc.bytes]
theorem jo {w : List UInt8} (h : dR w = true) : -6 ≤ pot [.word w] := by
 obtain ⟨-, -, -, -, h24, -⟩ := kU h
 rw [fu]; omega
theorem Dt {n : Int} (h : small n = true) : -3 ≤ pot [.int n] := by
 have := gF h
 have e : pot [.int n] = 18 - ((Lib.itoa n).length : Int) := by simp [pot, aK, bytesOf, Pc.toks, Pc.bytes]
 omega
theorem vG (l : List (List Pc)) (sep : List Pc) (hs : 15 ≤ pot sep) (h : ∀ x ∈ l, -6 ≤ pot x) : -6 ≤ pot (kL l sep) := by
 cases l with
 |nil => show (-6 : Int) ≤ 0; omega
 |cons x r =>
  rw [kL, dD]
  have hx := h x (by simp)
  have hr : 0 ≤ pot (r.flatMap (sep ++ ·)) := by
   have hr : ∀ y ∈ r, -6 ≤ pot y := fun y hy => h y (by simp [hy])
   clear h hx
   induction r with
   |nil => exact Int.le_refl _
   |cons y r ih =>
    rw [List.flatMap_cons, dD, dD]
    have := hr y (by simp)
    have := ih fun z hz => hr z (by simp [hz])
    omega
  omega
theorem pot_par (ops : List Int) (t : Tm) (x : List Pc) (h : -6 ≤ pot x) : -6 ≤ pot (mR ops t x) := by
 unfold mR
 split
 ·rw [dD, dD, iY, iY]; omega
 ·exact h
theorem pot_tm : ∀ (n : Nat) (t : Tm), au t ≤ n → iZ t = true → -6 ≤ pot (dx t) := by
 intro n
 induction n with
 |zero =>
   intro t ht; have : 0 < au t := by (cases t; rw [au]; omega)
   omega
 |succ n ih =>
  intro t ht hok
  cases t with
  |mk op nm nd ws ks =>
   have hs : au (.mk op nm nd ws ks) = 1 + nm.size + ws.length + aX ks := rfl
   rw [uE] at hok
   simp only [Tm.ws, Tm.kids, Bool.and_eq_true] at hok
   obtain ⟨⟨h1, h2⟩, h3⟩ := hok
   have hk : ∀ k ∈ ks, -6 ≤ pot (dx k) := fun k hk => ih k (by have := bI hk; omega) (List.all_eq_true.1 h3 k hk)
   rcases Al h1 with rfl | rfl | rfl | rfl | rfl | rfl | rfl | rfl
   ·rw [pcs1]
    rw [wE, Bool.and_eq_true] at h1
    exact jo (cO h1.1)
   ·rw [pcs2, dD, dD, gD, iY, iY]
    rw [wD] at h1
    simp only [Bool.and_eq_true] at h1
    have a := Dt h1.1.1.2
    have b := vG (iw ws (ks.map dx)) qV (by decide) fun x hx => by
     obtain ⟨y, hy, e⟩ := rD hx
     obtain ⟨k, hkk, rfl⟩ := List.mem_map.1 hy
     have := hk k hkk
     rcases e with e | ⟨u, hu, e⟩
     ·rw [e]; exact this
     ·have := Dt (List.all_eq_true.1 h2 u hu)
      rw [e, dD, gD, iY]; omega
    omega
   ·rw [pcs3]
    refine vG _ _ (by decide) fun x hx => ?_
    obtain ⟨k, hkk, rfl⟩ := List.mem_map.1 hx
    exact pot_par _ _ _ (hk k hkk)
   ·rw [pcs4]
    refine vG _ _ (by decide) fun x hx => ?_
    obtain ⟨k, hkk, rfl⟩ := List.mem_map.1 hx
    exact pot_par _ _ _ (hk k hkk)
   ·rw [wC] at h1
    simp only [Bool.and_eq_true, decide_eq_true_eq] at h1
    obtain ⟨k, rfl⟩ := List.length_eq_one_iff.1 h1.2
    rw [pcs5, dD, dD, gD, iY, iY, fu]
    have := hk k (by simp)
    simp only [List.length_cons, List.length_nil]
    omega
   ·rw [wB, Bool.and_eq_true] at h1
    have := jo (pU h1.1)
    rw [pcs6]
    simp only [gD _ (_ :: _), iY, fu [109, 97, 106, 111, 114, 105, 116, 121], List.length_cons, List.length_nil]
    omega
   ·rw [wu, Bool.and_eq_true] at h1
    have := jo (pU h1.1)
    rw [pcs7]
    simp only [gD _ (_ :: _), iY, fu [97, 108, 108], List.length_cons, List.length_nil]
    omega
   ·rw [wm, Bool.and_eq_true] at h1
    have := jo (pU h1.1)
    rw [pcs8]
    simp only [gD _ (_ :: _), iY, fu [97, 110, 121], List.length_cons, List.length_nil]
    omega
theorem Ir {t : Tm} (h : iZ t = true) : -6 ≤ pot (dx t) := pot_tm _ t (Nat.le_refl _) h
theorem Fz {l : List ByteArray} (h : bg l = true) : -6 ≤ pot (iy l) := by
 refine vG _ _ (by decide) fun x hx => ?_
 obtain ⟨y, hy, rfl⟩ := List.mem_map.1 hx
 exact jo (cO (uG h y hy))
theorem BN {w : List UInt8} {l : List ByteArray} (hw : w.length ≤ 18) (h : bg l = true) : 24 ≤ pot (jV w l) := by
 unfold jV
 have := Fz h
 simp only [dD, gD _ (_ :: _), iY, lD, fu]
 omega
theorem pot_ft {f : Ft} (h : jG f = true) : -6 ≤ pot (ftP f) := by
 rcases ft_ok h with ⟨h1, -⟩ | ⟨h1, h2, h3, -⟩ | ⟨h1, -, h3, h4, -⟩ | ⟨h1, h2, -⟩
 ·unfold ftP; rw [if_pos h1]; decide
 ·have a := Dt h2
  have b := Dt h3
  unfold ftP; rw [if_neg (by omega), if_pos h1]
  simp only [gD _ (_ :: _), lD, fu, List.length_cons, List.length_nil]; omega
 ·unfold ftP; rw [if_neg (by omega), if_neg (by omega), if_neg (by omega), if_neg (by omega), if_pos h1]
  unfold Fs
  have a := BN (w := [98, 121, 122]) (by decide) h3
  have b := BN (w := [99, 114, 97, 115, 104]) (by decide) h4
  split
  ·omega
  split
  ·omega
  ·rw [dD, gD, lD]; omega
 ·have a := jo (cO h2)
  unfold ftP
  rcases h1 with h1 | h1 | h1
  ·rw [if_neg (by omega), if_neg (by omega), if_pos h1]
   simp only [gD _ (_ :: _), lD, fu [115, 105, 116, 101], fu [98, 121, 122], List.length_cons, List.length_nil]; omega
  ·rw [if_neg (by omega), if_neg (by omega), if_neg (by omega), if_pos h1]
   simp only [gD _ (_ :: _), lD, fu [115, 105, 116, 101], fu [99, 114, 97, 115, 104], List.length_cons, List.length_nil]; omega
  ·rw [if_neg (by omega), if_neg (by omega), if_neg (by omega), if_neg (by omega), if_neg (by omega)]
   exact a
theorem pot_dc {d : Dc} (h0 : jK d = true) : 1 ≤ pot (dcP d) := by
 have h := wO h0
 have hn := Fz h.names
 unfold dcP
 rcases sj h with hk | hk | hk | hk | hk | hk | hk
 ·have a := jo (cO (dY h (by rw [hk]; rfl)))
  rw [if_pos hk]
  simp only [dD, gD _ (_ :: _), lD, iY, fu [115, 105, 116, 101], List.length_cons, List.length_nil]; omega
 ·have a := jo (cO (dY h (by rw [hk]; rfl)))
  rw [if_neg (by omega), if_pos hk]
  have b := vG (d.faults.map ftP) rM (by decide) fun x hx => by
   obtain ⟨f, hf, rfl⟩ := List.mem_map.1 hx
   exact pot_ft (List.all_eq_true.1 h.faults f hf)
  simp only [dD, gD _ (_ :: _), lD, iY, fu [102, 97, 117, 108, 116, 115], List.length_cons, List.length_nil]; omega
 ·have a := jo (cO (dY h (by rw [hk]; rfl)))
  have ht : iZ d.term = true := by have := h.term; rw [hk] at this; exact this
  have b := Ir ht
  rw [if_neg (by omega), if_neg (by omega), if_pos hk]
  simp only [dD, gD _ (_ :: _), lD, iY, fu [113, 117, 111, 114, 117, 109], List.length_cons, List.length_nil]; omega
 ·have a := jo (cO (dY h (by rw [hk]; rfl)))
  obtain ⟨hp, hr, hw, hu⟩ := xK h (by rw [hk]; rfl)
  have b := Ir hr
  have c := Ir hw
  have e := jo (cO hu)
  have g := jo (vF hp)
  rw [if_neg (by omega), if_neg (by omega), if_neg (by omega), if_pos hk]
  simp only [dD, gD _ (_ :: _), gD _ (_ ++ _), lD, iY, fu [99, 111, 110, 102, 105, 103], fu [114, 101, 97, 100], fu [119, 114, 105, 116, 101], fu [102, 97, 117, 108, 116, 115], List.length_cons, List.length_nil]; omega
 ·rw [if_neg (by omega), if_neg (by omega), if_neg (by omega), if_neg (by omega), if_pos hk]
  simp only [dD, gD _ (_ :: _), lD, iY, fu [119, 105, 116, 110, 101, 115, 115], List.length_cons, List.length_nil]; omega
 ·have a := jo (cO (dY h (by rw [hk]; rfl)))
  rw [if_neg (by omega), if_neg (by omega), if_neg (by omega), if_neg (by omega), if_neg (by omega), if_neg (by omega)]
  split
  ·simp only [gD _ (_ :: _), lD, iY, fu [99, 108, 105, 101, 110, 116], List.length_cons, List.length_nil]; omega
  ·rename_i hz
   have e := jo (cO (h.use.resolve_left hz))
   simp only [gD _ (_ :: _), lD, iY, fu [99, 108, 105, 101, 110, 116], fu [102, 97, 117, 108, 116, 115], List.length_cons, List.length_nil]; omega
 ·rw [if_neg (by omega), if_neg (by omega), if_neg (by omega), if_neg (by omega), if_neg (by omega), if_pos hk]
  simp only [dD, gD _ (_ :: _), lD, iY, fu [99, 104, 97, 105, 110], List.length_cons, List.length_nil]; omega
theorem pot_dcs {l : List Dc} (h : l.all jK = true) : 0 ≤ pot (rA l) := by
 unfold rA
 induction l with
 |nil => exact Int.le_refl _
 |cons d r ih =>
  rw [List.all_cons, Bool.and_eq_true] at h
  have a := pot_dc h.1
  have b := ih h.2
  rw [List.flatMap_cons, dD, dD, pot_line]; omega
theorem LY {l : List Dc} (h : (bH l).2 = 0) (hs : ∀ d ∈ l, KD d) : (bH (l.map (iO rho))).2 = 0 := by
 obtain ⟨h1, -, h3⟩ := nR h
 have hok : (l.map (iO rho)).all jK = true := List.all_eq_true.2 fun x hx => by
  obtain ⟨d, hd, rfl⟩ := List.mem_map.1 hx
  exact okDc_ren (List.all_eq_true.1 h1 d hd) (hs d hd)
 have ht := dcs_map h1
 have hp := pot_dcs hok
 refine F6 hok ?_ (by omega)
 rw [← wN hok]
 unfold pot at hp
 omega
end Go.Proofs.YtbmglebipepdmaaGreatDoor
namespace Go.Proofs.YtbmglebipepdmaaGreatDoor
def mK {α : Type} (p : ByteArray × α) : ByteArray × α := (rho p.1, p.2)
theorem beq_rho (a b : ByteArray) : (rho a == rho b) = (a == b) := by rw [ba_beq, ba_beq, decide_eq_decide.2 (zB a b)]
theorem findK_ren (t : List (ByteArray × Int)) (y : ByteArray) : dZ (t.map mK) (rho y) = dZ t y := by
 induction t with
 |nil => rfl
 |cons p r ih => rw [List.map_cons, dZ, dZ, ih, mK, beq_rho]
theorem Ga (t : List (ByteArray × Bool)) (y : ByteArray) : nS (t.map mK) (rho y) = nS t y := by
 induction t with
 |nil => rfl
 |cons p r ih => rw [List.map_cons, nS, nS, ih, mK, beq_rho]
theorem dTab_ren (d : Dc) : Ay (iO rho d) = (Ay d).map mK := by
 unfold Ay iO
 simp only
 rw [List.map_append]
 congr 1
 ·split <;> rfl
 ·split
  ·rw [List.map_map, List.map_map]; rfl
  ·rfl
theorem tab_ren (l : List Dc) : tab (l.map (iO rho)) = (tab l).map mK := by
 unfold tab
 induction l with
 |nil => rfl
 |cons d r ih => rw [List.map_cons, List.flatMap_cons, List.flatMap_cons, List.map_append, ih, dTab_ren]
theorem byzGo_ren (l : List Dc) : ∀ kn, mQ (kn.map mK) (l.map (iO rho)) = (mQ kn l).map mK := by
 induction l with
 |nil => intro kn; rfl
 |cons d r ih =>
  intro kn
  have hf : (d.faults.map (pW rho)).any (Aq (kn.map mK)) = d.faults.any (Aq kn) := by
   rw [List.any_map]
   congr 1
   funext f
   unfold Function.comp Aq pW FJ
   simp only [List.length_map, Ga]
  rw [List.map_cons, mQ, mQ]
  by_cases hk : d.kind = 2
  ·rw [if_pos hk, if_pos (show (iO rho d).kind = 2 from hk), ← ih, List.map_append]
   have e : [((iO rho d).name, (iO rho d).faults.any (Aq (kn.map mK)))] = [(d.name, d.faults.any (Aq kn))].map mK := by
    rw [List.map_singleton]
    show [(rho d.name, (d.faults.map (pW rho)).any (Aq (kn.map mK)))] = _
    rw [hf]; rfl
   rw [e]
  ·rw [if_neg hk, if_neg (show ¬ (iO rho d).kind = 2 from hk), ih]
theorem DR (l : List Dc) : Maps rho (fun _ => True) l (l.map (iO rho)) := by
 refine ⟨fun y _ => by rw [tab_ren, findK_ren], ?_, ?_, ?_, fun y _ => ?_⟩
 ·unfold aN
  rw [List.map_map]
  congr 1
  refine List.map_congr_left fun d _ => ?_
  show (if d.kind = 1 then (d.names.map rho).length else 0) = _
  rw [List.length_map]
 ·unfold dw; rw [List.any_map]; rfl
 ·unfold dO
  induction l with
  |nil => rfl
  |cons d r ih =>
   rw [List.map_cons, List.flatMap_cons, List.flatMap_cons, List.map_append, ih]
   congr 1
   show (if d.kind = 5 then d.names.map rho else []) = _
   split <;> rfl
 ·have := byzGo_ren l []
  unfold kN FJ
  rw [List.map_nil] at this
  rw [this, Ga]
theorem La (l : List Dc) : dA (l.map (iO rho)) = dA l := by unfold dA; rw [List.any_map]; rfl
theorem zT (k : Int) (l : List Dc) : eT k (l.map (iO rho)) = eT k l := by unfold eT; rw [List.countP_map]; rfl
theorem declE_ren (l : List Dc) (d : Dc) : jv (l.map (iO rho)) (iO rho d) = jv l d :=
 Gr (DR l) (fun _ _ => trivial) zA zB iX d (fun _ _ => trivial) (fun _ => La l) (fun _ => by rw [zT]) (fun _ => by rw [zT])
theorem Jp (l : List Dc) : ∀ pre, jb (pre.map (iO rho)) (l.map (iO rho)) = jb pre l := by
 induction l with
 |nil => intro pre; rw [List.map_nil, jb, jb, (DR pre).servers, zT]
 |cons d r ih =>
  intro pre
  have := ih (pre ++ [d])
  rw [List.map_append, List.map_singleton] at this
  rw [List.map_cons, jb, jb, declE_ren, this]; rfl
theorem check_ren {l : List Dc} (h : (bH l).2 = 0) (hs : ∀ d ∈ l, KD d) : dP (l.map (iO rho)) = dP l := by
 unfold dP
 rw [LY h hs, h, if_neg (by simp), if_neg (by simp)]
 exact Jp l []
theorem ul : ∀ (n : Nat) (t : Tm), au t ≤ n → bB (dL rho t) = (bB t).map rho := by
 intro n
 induction n with
 |zero =>
   intro t ht; have : 0 < au t := by (cases t; rw [au]; omega)
   omega
 |succ n ih =>
  intro t ht
  cases t with
  |mk op nm nd ws ks =>
   have hs : au (.mk op nm nd ws ks) = 1 + nm.size + ws.length + aX ks := rfl
   have hk : (ks.map (dL rho)).flatMap bB = (ks.flatMap bB).map rho := by
    rw [List.flatMap_map, List.map_flatMap]
    have : ∀ (l : List Tm), (∀ k ∈ l, bB (dL rho k) = (bB k).map rho) → l.flatMap (fun a => bB (dL rho a)) = l.flatMap fun a => (bB a).map rho := by
     intro l
     induction l with
     |nil => intro _; rfl
     |cons a r ihr => intro h; rw [List.flatMap_cons, List.flatMap_cons, h a (by simp), ihr fun k hk => h k (by simp [hk])]
    exact this ks fun k hk => ih k (by have := bI hk; omega)
   rw [dL, jJ, bB, bB, gK, gK, hk, List.map_append]
   congr 1
   by_cases h : nm.size = 0
   ·rw [if_pos h, if_pos ((iX nm).2 h)]; rfl
   ·rw [if_neg h, if_neg (fun e => h ((iX nm).1 e))]; rfl
theorem used_ren (d : Dc) : fq (iO rho d) = (fq d).map rho := by
 have hf : (d.faults.map (pW rho)).flatMap (fun f => f.ay ++ f.ak ++ [f.name]) = (d.faults.flatMap fun f => f.ay ++ f.ak ++ [f.name]).map rho := by
  rw [List.flatMap_map, List.map_flatMap]
  congr 1
  funext f
  simp [pW]
 unfold fq iO
 simp only
 rw [hf, ul _ _ (Nat.le_refl _), ul _ _ (Nat.le_refl _), ul _ _ (Nat.le_refl _)]
 simp only [List.map_append, List.map_singleton]
 congr 1
 split <;> rfl
theorem JB (l : List Dc) (x : ByteArray) : tyUses l x = [] ↔ ∀ d ∈ l, ¬ (x.size ≠ 0 ∧ (fq d).contains x = true) := by
 unfold tyUses
 rw [List.flatMap_eq_nil_iff]
 constructor
 ·intro h d hd hc
  have := h d hd
  rw [if_pos hc] at this
  cases this
 ·intro h d hd; rw [if_neg (h d hd)]
theorem uses_ren (l : List Dc) (x : ByteArray) : tyUses (l.map (iO rho)) (rho x) = [] ↔ tyUses l x = [] := by
 rw [JB, JB]
 have hc : ∀ d, (((rho x).size ≠ 0 ∧ (fq (iO rho d)).contains (rho x) = true) ↔ (x.size ≠ 0 ∧ (fq d).contains x = true)) := by
  intro d
  rw [used_ren, nZ, nZ, List.mem_map, ne_eq, ne_eq, iX]
  constructor
  ·rintro ⟨h1, y, hy, e⟩
   rw [zB] at e
   exact ⟨h1, e ▸ hy⟩
  ·rintro ⟨h1, h2⟩; exact ⟨h1, x, h2, rfl⟩
 constructor
 ·intro h d hd hh
  exact h _ (List.mem_map_of_mem hd) ((hc d).2 hh)
 ·intro h e he hh
  obtain ⟨d, hd, rfl⟩ := List.mem_map.1 he
  exact h d hd ((hc d).1 hh)
theorem KM (l m : List Dc) : (l.map (iO rho)).flatMap (fun d => if fK (dw (m.map (iO rho))) d = true ∧ tyUses (m.map (iO rho)) d.name = [] then [d.name] else []) =
  (l.flatMap fun d => if fK (dw m) d = true ∧ tyUses m d.name = [] then [d.name] else []).map rho := by
 rw [(DR m).chain]
 induction l with
 |nil => rfl
 |cons d r ih =>
  rw [List.map_cons, List.flatMap_cons, List.flatMap_cons, List.map_append, ih]
  congr 1
  have e : (fK (dw m) (iO rho d) = true ∧ tyUses (m.map (iO rho)) (iO rho d).name = []) ↔ (fK (dw m) d = true ∧ tyUses m d.name = []) := by
   have := uses_ren m d.name
   constructor
   ·rintro ⟨h1, h2⟩; exact ⟨h1, this.1 h2⟩
   ·rintro ⟨h1, h2⟩; exact ⟨h1, this.2 h2⟩
  by_cases h : fK (dw m) d = true ∧ tyUses m d.name = []
  ·rw [if_pos h, if_pos (e.2 h)]; rfl
  ·rw [if_neg h, if_neg (fun hh => h (e.1 hh))]; rfl
theorem KJ {l : List Dc} (h : (bH l).2 = 0) : fZ (l.map (iO rho)) = (fZ l).map fun y => bs [120] ++ y := by
 have h1 : fZ (l.map (iO rho)) = (fZ l).map rho := KM l l
 rw [h1]
 refine List.map_congr_left fun y hy => ?_
 unfold fZ at hy
 obtain ⟨d, hd, hy⟩ := List.mem_flatMap.1 hy
 split at hy
 ·rename_i hm
  obtain rfl : y = d.name := by simpa using hy
  have hk := hm.1
  unfold fK at hk
  have hok := wO (List.all_eq_true.1 (nR h).1 d hd)
  have hn : hasName d.kind = true := by
   simp only [Bool.or_eq_true, Bool.and_eq_true, decide_eq_true_eq] at hk
   rcases hk with (hk | hk) | hk
   ·rw [hk]; rfl
   ·rw [hk]; rfl
   ·rw [hk.1]; rfl
  obtain ⟨-, h2, h3⟩ := oI (dY hok hn)
  rw [Ig h3 h2, ← dS d.name, bV, eZ]; rfl
 ·cases hy
end Go.Proofs.YtbmglebipepdmaaGreatDoor
namespace Go.Proofs.YtbmglebipepdmaaGreatDoor
def xA (y : ByteArray) : ByteArray := bs [120] ++ y
def xE (y : ByteArray) : ByteArray := if y.size = 0 then y else xA y
def xS (y : ByteArray) : ByteArray := if y.size = 0 ∨ y = (⟨#[115, 101, 114, 118, 101, 114, 115]⟩ : ByteArray) then y else xA y
def ftX (f : Ft) : Ft := ⟨f.op, xE f.name, f.byz, f.je, f.ay.map xA, f.ak.map xA⟩
def dcX (d : Dc) : Dc := ⟨d.kind, d.line, xE d.name, d.names.map xA, d.faults.map ftX, dL xS d.term, d.proto, dL xS d.read, dL xS d.write, xE d.use⟩
theorem xA_rho {y : ByteArray} (h : bG y = true) : xA y = rho y := by
 obtain ⟨-, h2, h3⟩ := oI h
 unfold xA
 rw [Ig h3 h2, ← dS y, bV, eZ]; rfl
theorem xE_rho {y : ByteArray} (h : y.size = 0 ∨ bG y = true) : xE y = rho y := by
 unfold xE
 split
 ·rename_i h0; rw [pI (Or.inl h0)]
 ·rename_i h0; exact xA_rho (h.resolve_left h0)
theorem xS_rho {y : ByteArray} (h : y.size = 0 ∨ bG y = true ∨ y = (⟨#[115, 101, 114, 118, 101, 114, 115]⟩ : ByteArray)) : xS y = rho y := by
 unfold xS
 split
 ·rename_i h0
  rcases h0 with h0 | rfl
  ·rw [pI (Or.inl h0)]
  ·rw [pI (Or.inr (by decide))]
 ·rename_i h0; exact xA_rho ((h.resolve_left fun e => h0 (Or.inl e)).resolve_right fun e => h0 (Or.inr e))
theorem map_xA {l : List ByteArray} (h : bg l = true) : l.map xA = l.map rho := List.map_congr_left fun _ hy => xA_rho (List.all_eq_true.1 h _ hy)
theorem head_name {t : Tm} (h : bY t = true) : t.name.size = 0 ∨ bG t.name = true ∨ t.name = (⟨#[115, 101, 114, 118, 101, 114, 115]⟩ : ByteArray) := by
 by_cases h1 : t.name.size = 0
 ·exact .inl h1
 by_cases h2 : bG t.name = true
 ·exact .inr (.inl h2)
 refine .inr (.inr (Classical.byContradiction fun h3 => ?_))
 have h3 : (t.name == (⟨#[115, 101, 114, 118, 101, 114, 115]⟩ : ByteArray)) = false := by cases e : (t.name == (⟨#[115, 101, 114, 118, 101, 114, 115]⟩ : ByteArray)); rfl; exact absurd ((eF _ _).1 e) h3
 have h2 : bG t.name = false := by simpa using h2
 have h1 : decide (t.name.size = 0) = false := decide_eq_false h1
 unfold bY at h
 simp only [h2, h3, h1, Bool.false_and, Bool.or_false, ite_self] at h
 cases h
theorem tm_xS : ∀ (n : Nat) (t : Tm), au t ≤ n → iZ t = true → dL xS t = dL rho t := by
 intro n
 induction n with
 |zero =>
   intro t ht; have : 0 < au t := by (cases t; rw [au]; omega)
   omega
 |succ n ih =>
  intro t ht hok
  cases t with
  |mk op nm nd ws ks =>
   have hs : au (.mk op nm nd ws ks) = 1 + nm.size + ws.length + aX ks := rfl
   rw [uE] at hok
   simp only [Tm.ws, Tm.kids, Bool.and_eq_true] at hok
   rw [dL, dL, jJ, jJ, xS_rho (y := nm) (head_name hok.1.1)]
   congr 1
   exact List.map_congr_left fun k hk => ih k (by have := bI hk; omega) (List.all_eq_true.1 hok.2 k hk)
theorem Ev {t : Tm} (h : blank t = true) : dL xS t = dL rho t := by
 cases t with
 |mk op nm nd ws ks =>
  have e : blank (.mk op nm nd ws ks) = (decide (op = 0) && decide (nm.size = 0) && (decide (nd = 0) && decide (ws.length + ks.length = 0))) := rfl
  rw [e] at h
  simp only [Bool.and_eq_true, decide_eq_true_eq] at h
  obtain rfl : ks = [] := List.length_eq_zero_iff.1 (by omega)
  rw [dL, dL, vk, vk, xS_rho (Or.inl h.1.2)]
theorem Km {f : Ft} (h : jG f = true) : (f.name.size = 0 ∨ bG f.name = true) ∧ bg f.ay = true ∧ bg f.ak = true := by
 obtain ⟨op, nm, x, y, bl, cl⟩ := f
 have hz : bl.length + cl.length = 0 → bg bl = true ∧ bg cl = true := fun h => by
  obtain rfl : bl = [] := List.length_eq_zero_iff.1 (by omega)
  obtain rfl : cl = [] := List.length_eq_zero_iff.1 (by omega)
  exact ⟨rfl, rfl⟩
 unfold jG jD at h
 dsimp only at h ⊢
 split at h
 ·simp only [Bool.and_eq_true, decide_eq_true_eq, Bool.not_eq_true', decide_eq_false_iff_not] at h; exact ⟨.inl h.1.1, hz (by omega)⟩
 split at h
 ·simp only [Bool.and_eq_true, decide_eq_true_eq, Bool.not_eq_true', decide_eq_false_iff_not] at h; exact ⟨.inl h.1.1.1, hz (by omega)⟩
 split at h
 ·simp only [Bool.and_eq_true, decide_eq_true_eq] at h; exact ⟨.inl h.1.1.1.1, h.1.2, h.2⟩
 split at h
 ·simp only [Bool.and_eq_true, Bool.not_eq_true', decide_eq_false_iff_not] at h; exact ⟨.inr h.1.1, hz (by omega)⟩
 ·cases h
theorem ftX_rho {f : Ft} (h : jG f = true) : ftX f = pW rho f := by
 obtain ⟨h1, h2, h3⟩ := Km h
 unfold ftX pW
 rw [xE_rho h1, map_xA h2, map_xA h3]
theorem dcX_rho {d : Dc} (h0 : jK d = true) : dcX d = iO rho d := by
 have h := wO h0
 have ht : dL xS d.term = dL rho d.term := by
  have := h.term
  split at this
  ·exact tm_xS _ _ (Nat.le_refl _) this
  ·exact Ev this
 have hc : dL xS d.read = dL rho d.read ∧ dL xS d.write = dL rho d.write := by
  have := h.conf
  split at this
  ·simp only [Bool.and_eq_true] at this
   exact ⟨tm_xS _ _ (Nat.le_refl _) this.1.1.2, tm_xS _ _ (Nat.le_refl _) this.1.2⟩
  ·simp only [Bool.and_eq_true] at this
   exact ⟨Ev this.1.1.2, Ev this.1.2⟩
 unfold dcX iO
 rw [xE_rho h.name, xE_rho h.use, map_xA h.names, ht, hc.1, hc.2]
 congr 1
 exact List.map_congr_left fun f hf => ftX_rho (List.all_eq_true.1 h.faults f hf)
theorem map_dcX {l : List Dc} (h : l.all jK = true) : l.map dcX = l.map (iO rho) := List.map_congr_left fun _ hd => dcX_rho (List.all_eq_true.1 h _ hd)

theorem xS_size (y : ByteArray) : (xS y).size ≤ 2 * y.size := by
 unfold xS
 split
 ·omega
 ·rename_i h
  have h0 : ¬ y.size = 0 := fun e => h (Or.inl e)
  show (bs [120] ++ y).size ≤ _
  rw [ByteArray.size_append]
  show 1 + y.size ≤ _
  omega
theorem xE_size (y : ByteArray) : (xE y).size ≤ 2 * y.size := by
 unfold xE
 split
 ·omega
 ·show (bs [120] ++ y).size ≤ _
  rw [ByteArray.size_append]
  show 1 + y.size ≤ _
  omega
theorem Da : ∀ (n : Nat) (t : Tm), au t ≤ n → au (dL xS t) ≤ 2 * au t := by
 intro n
 induction n with
 |zero =>
   intro t ht; have : 0 < au t := by (cases t; rw [au]; omega)
   omega
 |succ n ih =>
  intro t ht
  cases t with
  |mk op nm nd ws ks =>
   have hs : au (.mk op nm nd ws ks) = 1 + nm.size + ws.length + aX ks := rfl
   rw [dL]
   show 1 + (xS nm).size + ws.length + aX (vk xS ks) ≤ _
   have hx := xS_size nm
   have hk : ∀ l : List Tm, aX l ≤ n → aX (vk xS l) ≤ 2 * aX l := by
    intro l
    induction l with
    |nil => intro _; exact Nat.le_refl _
    |cons a r ihl =>
     intro hl
     rw [vk, aX, aX] at *
     have := ih a (by omega)
     have := ihl (by omega)
     omega
   have := hk ks (by omega)
   omega
end Go.Proofs.YtbmglebipepdmaaGreatDoor
namespace Go.Proofs.YtbmglebipepdmaaGreatDoor
open Go.RowKit
set_option maxRecDepth 100000 in
set_option maxHeartbeats 2000000 in
theorem sM (l : List ByteArray) (S : Nat → Prop) (A : Option Addr) (c : Nat) (w : World) (hl : aL w S 1 A l.length (aC l)) (hS : ∀ g, S g → g < w.heap.size) (hn : l.length ≤ 1000000000) (hsz : ∀ y ∈ l, y.size ≤ 1000000000) :
  Calls Tryz.prog 24 #[.slice A l.length c] w fun e w' => ∃ v, e = .returned v ∧ w'.ownsRow w.heap.size 9 1 v l.length (aC (l.map xA)) ∧ Below w.heap.size w w' := by
 have HL := Lib.hid hl
 have HZ := Lib.hid hsz
 clear hl hsz
 go_enter Tryz.func24, Tryz.ntmps24
 go_wp2
 go_loopw [3, 4] (fun v x wr => ∃ k : Nat, k ≤ l.length ∧ x = .int .i64 k ∧ wr.ownsRow w.heap.size 9 1 v k (aC ((l.take k).map xA)) ∧ Below w.heap.size w wr) (fun _ x _ => l.length - (intOf x).toNat)
 case atStart => exact ⟨0, Nat.zero_le _, rfl, World.ownsRow_nil _ _ _ _, Below.refl _ _⟩
 case round =>
 obtain ⟨k, hk, rfl, hown, hb⟩ := hrel
 have hsr := hb.size
 by_cases hlt : k < l.length
 ·obtain ⟨g, o, rfl, hSg, k1⟩ := one_cell (f := Value.string) (HL.out.keep (aA hb hS)) hlt
  have hus := HZ.out _ (List.getElem_mem hlt)
  have E := Lib.hid (show aC ((l.take (k + 1)).map xA) = aC ((l.take k).map xA) ++ [.string (⟨#[120]⟩ ++ l[k])] by rw [List.take_succ_eq_append_getElem hlt, List.map_append]; exact jB _ _)
  generalize l[k] = u at k1 hus E
  have hkI : (k : Int) < (l.length : Int) := by omega
  have hk0 : (0 : Int) ≤ (k : Int) := by omega
  go_wp2_with (at_builtin; refine eX wr rfl (.tmp 11) (.tmp 17) rfl w.heap.size _ _ _ hown rfl ((⟨#[120]⟩ : ByteArray) ++ u) rfl (by omega) hsr ?_; intro v' w3 hown3 hg3 hv3)
  go_roundw
  case rel => exact ⟨k + 1, by omega, by go_num, by rw [E.out]; exact hown3, hb.trans (aM hown hg3 hsr)⟩
  case measure => simp [intOf]; omega
 obtain rfl : k = l.length := by omega
 have hkI : ¬ (l.length : Int) < (l.length : Int) := by omega
 rw [List.take_length] at hown
 go_wp2
 go_ret
 exact ⟨_, rfl, hown, hb⟩

def RenOk (t : Tm) : Prop := ∀ (v : Value) (w : World) (S : Nat → Prop), eG w S t v → (∀ g, S g → g < w.heap.size) → au t ≤ 1000000000 →
 Calls Tryz.prog 52 #[v] w fun e w' => ∃ u, e = .returned u ∧ eG w' (fun g => S g ∨ w.heap.size ≤ g) (dL xS t) u ∧ Below w.heap.size w w'
set_option maxRecDepth 100000 in
set_option maxHeartbeats 8000000 in
theorem Fx (t : Tm) (ih : ∀ k ∈ t.kids, RenOk k) : RenOk t := by
 intro v w S hv hS hsz
 have hss := dU t
 cases hv with
 |mk op nm need ws kids wA kA cw kc vs hw hwc hk hkc hl h =>
 replace hss : au (.mk op nm need ws kids) = 1 + nm.size + ws.length + aX kids := hss
 have hkl := jI kids
 have G := fun (W : World) (hb : Below w.heap.size w W) g (hg : S g) => Nat.lt_of_lt_of_le (hS g hg) hb.size
 have IH := Lib.hid (fun k (hk : k < kids.length) v (W : World) (hb : Below w.heap.size w W) (h : eG W S kids[k] v) => ih _ (List.getElem_mem hk) v W S h (G W hb) (by have := bI (List.getElem_mem hk); omega))
 have HL := Lib.hid (fun (W : World) (hb : Below w.heap.size w W) => (show aT (eG w S) w S 5 kA kids from ⟨vs, hl, hk, h⟩).keep (P' := eG W S) (aA hb hS) (fun _ _ h => h.keep (aA hb hS)))
 have HWS := Lib.hid (fun (W : World) (hb : Below w.heap.size w W) => hw.keep (aA hb hS))
 have hkw : kids.length + ws.length < 1000000000 := by omega
 have hns : nm.size ≤ 1000000000 := by omega
 have hr2 := EU w #[.int .i64 op, .string nm, .int .i64 need, .slice wA ws.length cw, .slice kA kids.length kc] #[.int .i64 0, .string ⟨#[]⟩, .int .i64 0, .slice none 0 0, .slice none 0 0] 39
 obtain ⟨W, hW⟩ : ∃ W : World, W = (w.alloc (.cells #[.int .i64 op, .string nm, .int .i64 need, .slice wA ws.length cw, .slice kA kids.length kc] 39)).alloc (.cells #[.int .i64 0, .string ⟨#[]⟩, .int .i64 0, .slice none 0 0, .slice none 0 0] 39) := ⟨_, rfl⟩
 have hb : Below w.heap.size w W := by rw [hW]; exact ((Below.refl _ _).alloc (Nat.le_refl _) _).alloc (by simp) _
 have hs2 : W.heap.size = w.heap.size + 2 := by rw [hW]; simp
 rw [← hW] at hr2
 have HR2 := Lib.hid hr2
 obtain ⟨c0, c1, c2, c3, c4, f0⟩ := jF hr2.1
 have f1 := f0 1
 have E : xS nm = if nm.size = 0 ∨ nm = (⟨#[115, 101, 114, 118, 101, 114, 115]⟩ : ByteArray) then nm else ⟨#[120]⟩ ++ nm := rfl
 have e1 : (nm == (⟨#[115, 101, 114, 118, 101, 114, 115]⟩ : ByteArray)) = (nm.toList == [115, 101, 114, 118, 101, 114, 115]) := by rw [← jR, ByteArray.toList_eq ((⟨#[115, 101, 114, 118, 101, 114, 115]⟩ : ByteArray))]
 have hN : (nm.toList.isEmpty = true ∧ xS nm = nm) ∨ (nm.toList.isEmpty = false ∧ (nm.toList == [115, 101, 114, 118, 101, 114, 115]) = true ∧ xS nm = nm) ∨ (nm.toList.isEmpty = false ∧ (nm.toList == [115, 101, 114, 118, 101, 114, 115]) = false ∧ xS nm = ⟨#[120]⟩ ++ nm) := by
  rw [← jC, ← e1, E]
  by_cases h1 : nm.size = 0
  ·exact .inl ⟨by simp [h1], by rw [if_pos (Or.inl h1)]⟩
  by_cases h2 : nm = (⟨#[115, 101, 114, 118, 101, 114, 115]⟩ : ByteArray)
  ·exact .inr (.inl ⟨by simp [h1], by rw [h2]; decide, by rw [if_pos (Or.inr h2)]⟩)
  ·exact .inr (.inr ⟨by simp [h1], by cases e : (nm == (⟨#[115, 101, 114, 118, 101, 114, 115]⟩ : ByteArray)); rfl; exact absurd ((eF _ _).1 e) h2, by rw [if_neg (fun h => h.elim h1 h2)]⟩)
 obtain ⟨x, hx⟩ : ∃ x, xS nm = x := ⟨_, rfl⟩
 rw [hx] at hN
 have HT := Lib.hid (show dL xS (.mk op nm need ws kids) = .mk op x need ws (kids.map (dL xS)) by rw [dL, jJ, hx])
 obtain ⟨R, hR⟩ : ∃ R, dL xS (.mk op nm need ws kids) = R := ⟨_, rfl⟩
 rw [hR] at HT ⊢
 clear ih hw hk hl h hss hkl hsz G hx hR E e1 hr2 f0
 go_enter Tryz.func52, Tryz.ntmps52
 rcases hN with ⟨n1, n2⟩ | ⟨n1, n3, n2⟩ | ⟨n1, n3, n2⟩
 all_goals
  have N2 := Lib.hid n2
  clear n2
  go_upto_region 1 with fail
  rw [← hW]
  clear hW
  go_wp2
  go_loopw [3, 4] (fun v y wr => ∃ k : Nat, k ≤ kids.length ∧ y = .int .i64 k ∧ Hid (wr.heap[w.heap.size]? = some (.cells #[.int .i64 op, .string x, .int .i64 need, .slice wA ws.length cw, .slice kA kids.length kc] 39 (0, 0))) ∧ Hid (wr.heap[w.heap.size + 1]? = some (.cells #[.int .i64 0, .string ⟨#[]⟩, .int .i64 0, .slice none 0 0, .slice none 0 0] 39 (0, 0))) ∧
   Hid (fE eG wr (fun g => S g ∨ w.heap.size + 2 ≤ g) (w.heap.size + 2) 39 5 v ((kids.take k).map (dL xS))) ∧ Below w.heap.size w wr ∧ w.heap.size + 2 ≤ wr.heap.size) (fun _ y _ => kids.length - (intOf y).toNat)
  case atStart =>
   refine ⟨0, Nat.zero_le _, rfl, ?_, ?_, fE.nil _ _ _ _ _, ?_, ?_⟩
   ·rw [N2.out]; first | exact HR2.out.1 | exact aQ HR2.out.1 _
   ·first | exact HR2.out.2 | exact ah (aF (aJ _ _) _ _) HR2.out.2 (by omega)
   ·first | exact hb | exact hb.trans (below_grown (aF (aJ _ _) _ _) (Nat.le_refl _) hb.size)
   ·simp [hs2]
  case round =>
  clear HR2 c0 c1 c2 c3 c4 f1 hb hs2
  obtain ⟨k, hk, rfl, hX, hZ, hrow, hb, hsr⟩ := hrel
  obtain ⟨c0, c1, c2, c3, c4, f0⟩ := jF hX.out
  by_cases hlt : k < kids.length
  ·obtain ⟨g, o, op1, nm1, nd1, wA1, wn1, wc1, kA1, kn1, kc1, rfl, hSg, htm, k0, k1, k2, k3, k4, -⟩ := fQ (HL.out wr hb) hlt
   have hkI : (k : Int) < (kids.length : Int) := by omega
   have HC := Lib.hid (IH.out k hlt _ wr hb htm)
   have HE := Lib.hid (show (kids.take (k + 1)).map (dL xS) = (kids.take k).map (dL xS) ++ [dL xS kids[k]] by rw [List.take_succ_eq_append_getElem hlt, List.map_append]; rfl)
   have HK := Lib.hid (show ((kids.take k).map (dL xS)).length = k by rw [List.length_map, List.length_take]; omega)
   clear htm f0
   go_wp2_with fail
   refine HC.out.mono ?_
   rintro e W2 ⟨u, rfl, hu, h2⟩
   have hs2 := h2.size
   obtain ⟨op2, nm2, nd2, wA2, wn2, wc2, kA2, kn2, kc2, rfl⟩ := hu.form
   have hrow2 := Lib.hid (hrow.out.keep dM (aP h2) (fun g e => h2.block g (hrow.out.lt g e).2))
   obtain ⟨us, l1, hown, hall⟩ := hrow2.out
   have HU := Lib.hid hu
   have HALL := Lib.hid hall
   rw [HK.out] at hown
   clear hu hall k0 k1 k2 k3 k4 c0 c1 c2 c3 c4
   go_wp2_with (at_builtin; refine zF W2 rfl (.tmp 24) (.tmp 31) rfl (w.heap.size + 2) _ _ _ hown rfl op2 nm2 nd2 wA2 wn2 wc2 kA2 kn2 kc2 rfl (by omega) (by omega) ?_; intro v' W3 hown3 hg3 hv3)
   go_roundw
   case rel =>
    refine ⟨k + 1, by omega, by go_num, jL hg3 hown (by omega) ((h2.block _ (by omega)).trans hX.out), jL hg3 hown (by omega) ((h2.block _ (by omega)).trans hZ.out), ?_, hb.trans ((h2.mono hb.size).trans ((aM hown hg3 (by omega)).mono (by omega))), by have := hg3.size; omega⟩
    rw [HE.out]
    exact fE.push l1 HALL.out dM rfl (HU.out.mono (fun g hg _ => ⟨hg.imp id (fun h => by omega), fun e => absurd (hrow.out.lt g e.symm) (fun h8 => hg.elim (fun h => by have := hS g h; omega) (fun h => by omega))⟩)) (by rw [HK.out]; exact hown3) hg3 hv3
   case measure => simp [intOf]; omega
  ·obtain rfl : k = kids.length := by omega
   have hkI : ¬ (kids.length : Int) < (kids.length : Int) := by omega
   have f1 := f0 4
   rw [List.take_length] at hrow
   obtain ⟨A2, z2, rfl, hz2, hlist⟩ := hrow.out.list dM
   have HLI := Lib.hid hlist
   have HC2 := Lib.hid hz2
   clear hlist hz2 f0
   have HX4 := Lib.hid (aQ hX.out (i := 4) (.slice A2 kids.length z2))
   have hg4 : wr.grownBy (wr.setCell ⟨w.heap.size, 4, none⟩ (.slice A2 kids.length z2)) (some w.heap.size) := aF (aJ _ _) _ _
   have HZ4 := Lib.hid (ah hg4 hZ.out (by omega))
   go_upto_region 9 with fail
   obtain ⟨W4, hW4⟩ : ∃ W4, W4 = wr.setCell ⟨w.heap.size, 4, none⟩ (.slice A2 kids.length z2) := ⟨_, rfl⟩
   rw [← hW4] at HX4 hg4 HZ4 ⊢
   obtain ⟨d0, d1, d2, d3, d4, -⟩ := jF HX4.out
   obtain ⟨r0, r1, r2, r3, r4, rf⟩ := jF HZ4.out
   have rf0 := rf 0
   have rf1 := rf 1
   have rf2 := rf 2
   have rf3 := rf 3
   have rf4 := rf 4
   clear rf hW4 c0 c1 c2 c3 c4
   go_wp2
   obtain ⟨hbR, hgR⟩ := BJ HZ4.out (.int .i64 op) (.string x) (.int .i64 need) (.slice wA ws.length cw) (.slice A2 kids.length z2)
   refine gL rfl rfl rfl hbR ?_
   obtain ⟨us, l1, s1, h1⟩ := HLI.out
   have hk5 := ((ax hg4).mono (fun g (h : S g ∨ w.heap.size + 2 ≤ g) => h.elim (fun h => by have := hS g h; omega) (fun h => by omega))).trans ((ax hgR).mono (fun g (h : S g ∨ w.heap.size + 2 ≤ g) => h.elim (fun h => by have := hS g h; omega) (fun h => by omega))) hg4.size
   refine ⟨_, rfl, ?_, hb.trans ((below_grown hg4 (Nat.le_refl _) hb.size).trans (below_grown hgR (by omega) (by have := hg4.size; omega)))⟩
   rw [HT.out]
   have ht := eG.mk op x need ws (kids.map (dL xS)) wA A2 cw z2 us ((((HWS.out wr hb).mono (fun g hg _ => Or.inl hg) (by decide)).keep hk5).mono (fun g hg _ => hg.imp id (fun h => by omega)) (by decide)) hwc ((((s1.mono (fun g hg _ => Or.inr hg) (by decide))).keep hk5).mono (fun g (hg : S g ∨ w.heap.size + 2 ≤ g) _ => hg.imp id (fun h => by omega)) (by decide)) HC2.out l1 (fun i t v h2 h3 => ((h1 i t v h2 h3).keep hk5).mono (fun g hg _ => hg.imp id (fun h => by omega)))
   rw [List.length_map] at ht
   exact ht.mono fun g hg _ => hg.imp id (fun h => by omega)
end Go.Proofs.YtbmglebipepdmaaGreatDoor
namespace Go.Proofs.YtbmglebipepdmaaGreatDoor
open Go.RowKit
theorem Ip : ∀ (n : Nat) (t : Tm), au t ≤ n → RenOk t := by
 intro n
 induction n with
 |zero => intro t h; cases t; simp [au] at h
 |succ n ih => exact fun t h => Fx t fun k hk => ih k (by have := bI hk; have := dU t; omega)
def MW (T : Array Value) : Value := .agg #[T[0]!, T[1]!, T[2]!, T[3]!, T[4]!]
def oq (kd li : Int) (nm : ByteArray) (ns fs : Value) (T : Array Value) (pr : ByteArray) (R X : Array Value) (us : ByteArray) : Array Value :=
 #[.int .i64 kd, .int .i64 li, .string nm, ns, fs, T[0]!, T[1]!, T[2]!, T[3]!, T[4]!, .string pr, R[0]!, R[1]!, R[2]!, R[3]!, R[4]!, X[0]!, X[1]!, X[2]!, X[3]!, X[4]!, .string us]
theorem I6 {w : World} {S : Nat → Prop} {t : Tm} {v : Value} (h : eG w S t v) : ∃ T : Array Value, v = MW T ∧ (#[T[0]!, T[1]!, T[2]!, T[3]!, T[4]!] : Array Value).all (·.oneCell') = true := by
 obtain ⟨o1, m1, d1, wA1, wn1, wc1, kA1, kn1, kc1, rfl⟩ := h.form
 exact ⟨#[.int .i64 o1, .string m1, .int .i64 d1, .slice wA1 wn1 wc1, .slice kA1 kn1 kc1], rfl, by simp [Value.oneCell']⟩
theorem zo : (Tryz.prog.info? 39).map (·.size) = some 5 := by kernel_rfl
theorem yZ {W : World} {r o n : Nat} {cs : Array Value} {t : TypeId} (h : W.heap[r]? = some (.cells cs t (0, 0))) (ho : o + n ≤ cs.size) : W.there r o n := fun j hj => ⟨by rw [cell_of_row W r (o + j) _ _ _ h]; simp [show o + j < cs.size by omega], frozen_of_row _ _ _ _ _ h⟩
theorem zx {W : World} {r : Nat} (o : Nat) {cs : Array Value} {t : TypeId} {fr : Nat × Nat} (h : W.heap[r]? = some (.cells cs t fr)) (a b c d e : Value) :
  (W.setCells r o [a, b, c, d, e]).heap[r]? = some (.cells (((((cs.setIfInBounds o a).setIfInBounds (o + 1) b).setIfInBounds (o + 2) c).setIfInBounds (o + 3) d).setIfInBounds (o + 4) e) t fr) :=
 aQ (aQ (aQ (aQ (aQ h a) b) c) d) e
theorem row_terms {W : World} {r : Nat} {kd li : Int} {nm : ByteArray} {ns fs : Value} {T : Array Value} {pr : ByteArray} {R X : Array Value} {us : ByteArray} {t : TypeId} (h : W.heap[r]? = some (.cells (oq kd li nm ns fs T pr R X us) t (0, 0))) :
  W.cell? ⟨r, 5, none⟩ = some T[0]! ∧ W.cell? ⟨r, 6, none⟩ = some T[1]! ∧ W.cell? ⟨r, 7, none⟩ = some T[2]! ∧ W.cell? ⟨r, 8, none⟩ = some T[3]! ∧ W.cell? ⟨r, 9, none⟩ = some T[4]! ∧
  W.cell? ⟨r, 11, none⟩ = some R[0]! ∧ W.cell? ⟨r, 12, none⟩ = some R[1]! ∧ W.cell? ⟨r, 13, none⟩ = some R[2]! ∧ W.cell? ⟨r, 14, none⟩ = some R[3]! ∧ W.cell? ⟨r, 15, none⟩ = some R[4]! ∧
  W.cell? ⟨r, 16, none⟩ = some X[0]! ∧ W.cell? ⟨r, 17, none⟩ = some X[1]! ∧ W.cell? ⟨r, 18, none⟩ = some X[2]! ∧ W.cell? ⟨r, 19, none⟩ = some X[3]! ∧ W.cell? ⟨r, 20, none⟩ = some X[4]! :=
 ⟨ai h 5 _ rfl, ai h 6 _ rfl, ai h 7 _ rfl, ai h 8 _ rfl, ai h 9 _ rfl, ai h 11 _ rfl, ai h 12 _ rfl, ai h 13 _ rfl, ai h 14 _ rfl, ai h 15 _ rfl, ai h 16 _ rfl, ai h 17 _ rfl, ai h 18 _ rfl, ai h 19 _ rfl, ai h 20 _ rfl⟩
theorem jM {S : Nat → Prop} {r : Nat} (W : World) (o : Nat) (vs : List Value) (hS : ∀ g, S g → ¬ g = r) : Kept S W (W.setCells r o vs) := (But.setCells vs o W W (But.refl (fun g => g = r) W)).kept hS
theorem rows3 (kd li : Int) (nm : ByteArray) (ns fs : Value) (T : Array Value) (pr : ByteArray) (R X : Array Value) (us : ByteArray) (T1 R1 X1 : Array Value) :
  ((((((((((((((((((oq kd li nm ns fs T pr R X us).setIfInBounds 5 T1[0]!).setIfInBounds (5 + 1) T1[1]!).setIfInBounds (5 + 2) T1[2]!).setIfInBounds (5 + 3) T1[3]!).setIfInBounds (5 + 4) T1[4]!)).setIfInBounds 11 R1[0]!).setIfInBounds (11 + 1) R1[1]!).setIfInBounds (11 + 2) R1[2]!).setIfInBounds (11 + 3) R1[3]!).setIfInBounds (11 + 4) R1[4]!)).setIfInBounds 16 X1[0]!).setIfInBounds (16 + 1) X1[1]!).setIfInBounds (16 + 2) X1[2]!).setIfInBounds (16 + 3) X1[3]!).setIfInBounds (16 + 4) X1[4]!) = oq kd li nm ns fs T1 pr R1 X1 us := by
 simp only [oq, List.setIfInBounds_toArray, List.set_cons_succ, List.set_cons_zero, Nat.reduceAdd]
theorem But.low {T : Nat → Prop} {a b c : World} (h : But T a b) (k : Below a.heap.size b c) : But T a c :=
 ⟨k.os.trans h.os, k.tape.trans h.tape, k.output.trans h.output, Nat.le_trans h.size k.size, fun g hg hl => (k.block g hl).trans (h.block g hg hl)⟩
theorem one5 {w : World} {S : Nat → Prop} {t : Tm} {T : Array Value} (h : eG w S t (MW T)) : T[0]!.oneCell' = true ∧ T[1]!.oneCell' = true ∧ T[2]!.oneCell' = true ∧ T[3]!.oneCell' = true ∧ T[4]!.oneCell' = true := by
 obtain ⟨T', e, h1⟩ := I6 h
 unfold MW at e
 injection e with e
 rw [← e] at h1
 simpa using h1
theorem K5 (w : World) {ops : Array Oper} {rest : List Oper} {o : Oper} {a : Act} {Q : Exit → Act → World → Prop} (hgd : o.guard = none) (s x : Operand)
  (ho : o.op = .call { callee := .builtin .append, args := #[s, x], argTypes := #[22, 22] })
  (base : Nat) (v : Value) (n : Nat) (xs : List Value) (hown : w.ownsRow base 41 22 v n xs) (hs : a.eval s = v)
  (row : Array Value) (hx : a.eval x = .slice (some ⟨w.heap.size, 0, none⟩) 1 1) (hl : row.toList.length = 22) (h1 : ∀ u ∈ row.toList, u.oneCell' = true)
  (hlim : n ≤ 100000000000) (hbase : base ≤ w.heap.size)
  (h : ∀ v' w', w'.ownsRow base 41 22 v' (n + 1) (xs ++ row.toList) → w.grownBy w' v.ownBlock → (v'.ownBlock = v.ownBlock ∨ v'.ownBlock = some (w.heap.size + 1)) → wpList Tryz.prog ops Q rest (a.put o.dst v') w') :
  wpList Tryz.prog ops Q (o :: rest) a (w.alloc (.cells row 41)) := by
 obtain ⟨i0, hi, hz0, hz1, hz2⟩ := info_parts Ai
 have := iq w hgd s x _ ho base 41 i0 _ 22 352 Tryz.underlying22 hi hz0 hz1 hz2 rfl (by decide) v n xs hown hs row.toList hx hl h1 (by omega) (by omega) hbase h
 rwa [Array.toArray_toList] at this
theorem sQ {l : List ByteArray} {n : Nat} (h : bf l ≤ n) : l.length ≤ n ∧ ∀ y ∈ l, y.size ≤ n := by
 induction l with
 |nil => exact ⟨Nat.zero_le _, fun y h => by cases h⟩
 |cons a r ih =>
  have e : bf (a :: r) = a.size + 1 + bf r := by simp [bf]
  have := ih (by omega)
  have h5 : r.length ≤ bf r := gN r
  exact ⟨by rw [List.length_cons]; omega, fun y hy => by rcases List.mem_cons.1 hy with rfl | hy; omega; exact this.2 y hy⟩
theorem dc_parts {d : Dc} {n : Nat} (h : bE d ≤ n) : d.name.size ≤ n ∧ d.use.size ≤ n ∧ bf d.names ≤ n ∧ au d.term ≤ n ∧ au d.read ≤ n ∧ au d.write ≤ n ∧ d.faults.length ≤ n ∧ ∀ f ∈ d.faults, f.name.size ≤ n ∧ bf f.ay ≤ n ∧ bf f.ak ≤ n := by
 have e1 : bE d = d.name.size + bf d.names + (d.faults.map fC).sum + au d.term + d.proto.size + au d.read + au d.write + d.use.size + 1 := rfl
 have e3 := fts_len d.faults
 exact ⟨by omega, by omega, by omega, by omega, by omega, by omega, by omega, fun f hf => by have := wJ hf; have e2 : fC f = f.name.size + bf f.ay + bf f.ak + 1 := rfl; exact ⟨by omega, by omega, by omega⟩⟩
theorem xE_or (y : ByteArray) : (y.toList.isEmpty = true ∧ xE y = y) ∨ (y.toList.isEmpty = false ∧ xE y = ⟨#[120]⟩ ++ y) := by
 rw [← jC]
 unfold xE
 by_cases h : y.size = 0
 ·exact .inl ⟨by simp [h], if_pos h⟩
 ·exact .inr ⟨by simp [h], if_neg h⟩
set_option maxRecDepth 100000 in
set_option maxHeartbeats 16000000 in
theorem Im (l : List Dc) (A : Option Addr) (c : Nat) (w : World) (S : Nat → Prop) (hl : aT (fo w S) w S 22 A l) (hS : ∀ g, S g → g < w.heap.size) (hsz : (l.map bE).sum ≤ 1100000) :
  Calls Tryz.prog 23 #[.slice A l.length c] w fun e w' => ∃ v, e = .returned v ∧ fE fo w' (fun g => S g ∨ w.heap.size ≤ g) w.heap.size 41 22 v (l.map dcX) ∧ Below w.heap.size w w' := by
 have HL := Lib.hid hl
 have HSZ := Lib.hid (fun d (hd : d ∈ l) => dc_parts (Nat.le_trans (qj hd) hsz))
 have hll := iD l
 have hln : l.length ≤ 1100000 := by omega
 clear hl hsz hll
 go_enter Tryz.func23, Tryz.ntmps23
 go_wp2
 go_loopw [3, 4] (fun v x wr => ∃ k : Nat, k ≤ l.length ∧ x = .int .i64 k ∧ Hid (fE fo wr (fun g => S g ∨ w.heap.size ≤ g) w.heap.size 41 22 v ((l.take k).map dcX)) ∧ Below w.heap.size w wr) (fun _ x _ => l.length - (intOf x).toNat)
 case atStart => exact ⟨0, Nat.zero_le _, rfl, fE.nil _ _ _ _ _, Below.refl _ _⟩
 case round =>
 obtain ⟨k, hk, rfl, hrow, hb⟩ := hrel
 rename World => w0
 have hsr := hb.size
 by_cases hlt : k < l.length
 ·obtain ⟨g, o, v2, rfl, hSg, hp, hc⟩ := fJ (fun _ _ h => jE h) (HL.out.keep (P' := fo w0 S) (aA hb hS) (fun _ _ h => h.keep (aA hb hS))) hlt
  have hone := dc_one hp
  obtain ⟨d, hd⟩ : ∃ d, d = l[k] := ⟨_, rfl⟩
  rw [← hd] at hp
  obtain ⟨q1, q2, q3, q4, q5, q6, q8, q7⟩ := HSZ.out d (by rw [hd]; exact List.getElem_mem hlt)
  have HTK := Lib.hid (show (l.take (k + 1)).map dcX = (l.take k).map dcX ++ [dcX d] by rw [List.take_succ_eq_append_getElem hlt, List.map_append, hd]; rfl)
  clear hd
  obtain ⟨nA, nc, fA, fc, vt, vr, vw, rfl, h1, h2, h3, h4, h5, h6, h7⟩ := hp
  obtain ⟨T, rfl, -⟩ := I6 h5
  obtain ⟨R, rfl, -⟩ := I6 h6
  obtain ⟨X, rfl, -⟩ := I6 h7
  obtain ⟨cs, hcs⟩ : ∃ cs : List Value, cs = (oq d.kind d.line d.name (.slice nA d.names.length nc) (.slice fA d.faults.length fc) T d.proto R X d.use).toList := ⟨_, rfl⟩
  have hcs' : ∀ u, u ∈ cs → u.oneCell' = true := fun u hu => hone u (by rw [hcs] at hu; simpa [cellsOf, Value.cells, oq, MW] using hu)
  have hrange : w0.rangeAt g (o + k * 22) cs := fun j u hu => hc j u (by rw [hcs] at hu; simpa [cellsOf, Value.cells, oq, MW] using hu)
  have hc22 : cs.toArray.size = 22 := by rw [hcs]; rfl
  have ru : (Tryz.prog.info? 41).map (·.size) = some cs.length := by rw [show cs.length = 22 from hc22]; exact dJ
  have HCS := Lib.hid hc22
  have yA := Lib.hid (all_oneCell_toArray hcs')
  have HEQ := Lib.hid hcs
  have hkI : (k : Int) < (l.length : Int) := by omega
  have hk0 : (0 : Int) ≤ (k : Int) := by omega
  clear hc hone hcs hcs' hc22
  have HO := Lib.hid (fun (W : World) (hk : Kept S w0 W) (hz : w0.heap.size ≤ W.heap.size) => sM d.names S nA nc W (h1.keep hk) (fun g hg => by have := hS g hg; omega) (by have := (sQ q3).1; omega) (fun y hy => by have := (sQ q3).2 y hy; omega))
  have HR := fun (t : Tm) (T : Array Value) (h : eG w0 S t (MW T)) (hz : au t ≤ 1000000000) (W : World) (hk : Kept S w0 W) (hw : w0.heap.size ≤ W.heap.size) => Ip _ t (Nat.le_refl _) (.agg #[T[0]!, T[1]!, T[2]!, T[3]!, T[4]!]) W S (h.keep hk) (fun g hg => by have := hS g hg; omega) hz
  have HR1 := Lib.hid (HR _ _ h5 (by omega))
  have HR2 := Lib.hid (HR _ _ h6 (by omega))
  have HR3 := Lib.hid (HR _ _ h7 (by omega))
  have H3 := Lib.hid h3
  clear HR h1 h3 h5 h6 h7
  have hSr : ∀ g, S g → ¬ g = w0.heap.size := fun g hg => by have := hS g hg; omega
  go_upto_if 21 with (first
   |(with_reducible refine wpList_load_mid rfl 41 (.tmp 17) rfl g (o + k * 22) rfl cs _ hrange Tryz.underlying41 rfl ru ?_)
   |(with_reducible refine eU _ rfl rfl (.tmp 5) (.tmp 18) rfl w0.heap.size cs.toArray rfl rfl _ (heap_alloc_new w0 _) rfl HCS.out yA.out ?_; intro W1 hr1 hg1; rw [HEQ.out, Array.toArray_toList] at hr1; have c2 := ai hr1 2 (.string d.name) rfl; have f2 : W1.frozen? ⟨w0.heap.size, 2, none⟩ = false := frozen_of_row _ _ _ _ _ hr1))
  have hx : But (fun g => g = w0.heap.size) w0 W1 := (But.of_below ((Below.refl _ _).alloc (Nat.le_refl _) _)).trans (But.eY hg1 rfl)
  have hz1 : w0.heap.size < W1.heap.size := lt_of_block hr1
  have HR0 := Lib.hid hr1
  clear hr1 hg1 hrange ru HCS yA HEQ
  go_cut [] (fun wx => Hid (wx.heap[w0.heap.size]? = some (.cells (oq d.kind d.line (xE d.name) (.slice nA d.names.length nc) (.slice fA d.faults.length fc) T d.proto R X d.use) 41 (0, 0))) ∧ But (fun g => g = w0.heap.size) w0 wx)
  case first =>
   rcases xE_or d.name with ⟨e1, e2⟩ | ⟨e1, e2⟩
   all_goals
    have E := Lib.hid e2
    rw [e1]
    go_wp2
    go_meet
    refine ⟨Lib.hid ?_, ?_⟩
    ·rw [E.out]; first | exact HR0.out | exact aQ HR0.out _
    ·first | exact hx | exact hx.setCell rfl _ _
  case rest =>
  obtain ⟨hr, hx⟩ := hcut
  clear c2 f2 HR0
  have c21 := ai hr.out 21 (.string d.use) rfl
  have f21 : wc.frozen? ⟨w0.heap.size, 21, none⟩ = false := frozen_of_row _ _ _ _ _ hr.out
  go_upto_if 28 with fail
  go_cut [] (fun wx => Hid (wx.heap[w0.heap.size]? = some (.cells (oq d.kind d.line (xE d.name) (.slice nA d.names.length nc) (.slice fA d.faults.length fc) T d.proto R X (xE d.use)) 41 (0, 0))) ∧ But (fun g => g = w0.heap.size) w0 wx)
  case first =>
   rcases xE_or d.use with ⟨e1, e2⟩ | ⟨e1, e2⟩
   all_goals
    have E := Lib.hid e2
    rw [e1]
    go_wp2
    go_meet
    refine ⟨Lib.hid ?_, ?_⟩
    ·rw [E.out]; first | exact hr.out | exact aQ hr.out _
    ·first | exact hx | exact hx.setCell rfl _ _
  case rest =>
  obtain ⟨hr, hx⟩ := hcut
  clear c21 f21
  have c3 := ai hr.out 3 (.slice nA d.names.length nc) rfl
  have hzc := lt_of_block hr.out
  go_upto_region 11 with ((with_reducible refine (HO.out _ (hx.kept hSr) hx.size).mono ?_); rintro e W4 ⟨v3, rfl, hown3, hb3⟩; obtain ⟨A3, n3, rfl, hc3⟩ := aS hown3; have hr := Lib.hid ((hb3.block _ (lt_of_block hr.out)).trans hr.out); have c3 := ai hr.out 3 (.slice nA d.names.length nc) rfl; have f3 : W4.frozen? ⟨w0.heap.size, 3, none⟩ = false := frozen_of_row _ _ _ _ _ hr.out)
  obtain ⟨W5, hW5⟩ : ∃ W5, W5 = W4.setCell ⟨w0.heap.size, 3, none⟩ (.slice A3 d.names.length n3) := ⟨_, rfl⟩
  have hx5 : But (fun g => g = w0.heap.size) w0 W5 := by rw [hW5]; exact (hx.trans (.of_below hb3)).setCell rfl _ _
  have hr5 : W5.heap[w0.heap.size]? = some (.cells (oq d.kind d.line (xE d.name) (.slice A3 d.names.length n3) (.slice fA d.faults.length fc) T d.proto R X (xE d.use)) 41 (0, 0)) := by rw [hW5]; exact aQ hr.out _
  have HN5 := Lib.hid (show aL W5 (fun g => S g ∨ w0.heap.size < g) 1 A3 d.names.length (aC (d.names.map xA)) by
   rw [hW5]
   exact ((aL.own hown3).mono (fun g hg _ => Or.inr (Nat.lt_of_lt_of_le hzc hg)) (by decide)).keep (((But.refl (fun g => g = w0.heap.size) W4).setCell rfl 3 _).kept (fun g hg h => hg.elim (fun h9 => hSr g h9 h) (fun h9 => by omega))))
  rw [← hW5]
  clear hW5 c3 f3 hr hown3 hb3 hx
  have hx := hx5
  have hzr := lt_of_block hr5
  have hSn : ∀ g, (S g ∨ w0.heap.size < g) → ¬ g = w0.heap.size := fun g hg h => hg.elim (fun h9 => hSr g h9 h) (fun h9 => by omega)
  have HR5 := Lib.hid hr5
  go_cut [] (fun wx => ∃ T1 R1 X1 : Array Value, Hid (wx.heap[w0.heap.size]? = some (.cells (oq d.kind d.line (xE d.name) (.slice A3 d.names.length n3) (.slice fA d.faults.length fc) T1 d.proto R1 X1 (xE d.use)) 41 (0, 0))) ∧ Hid (eG wx (fun g => S g ∨ w0.heap.size < g) (dL xS d.term) (MW T1)) ∧ Hid (eG wx (fun g => S g ∨ w0.heap.size < g) (dL xS d.read) (MW R1)) ∧ Hid (eG wx (fun g => S g ∨ w0.heap.size < g) (dL xS d.write) (MW X1)) ∧ But (fun g => g = w0.heap.size) W5 wx)
  case first =>
   refine aZ.start (fun W' => W'.heap[w0.heap.size]? = some (.cells (oq d.kind d.line (xE d.name) (.slice A3 d.names.length n3) (.slice fA d.faults.length fc) T d.proto R X (xE d.use)) 41 (0, 0)) ∧ But (fun g => g = w0.heap.size) W5 W') [10, 12, 14] [0, 1, 3, 4, 6, 7, 9, 11, 13] (by kernel_rfl) ⟨hr5, ⟨rfl, rfl, rfl, Nat.le_refl _, fun _ _ _ => rfl⟩⟩ (fun hHeld => ?_)
   obtain ⟨g, bx⟩ := hHeld
   repeat
    refine aZ.take (v := ?_) rfl (by decide +kernel) (by rfl) (fun _ _ _ h => h) ⟨g, bx⟩ ?_ ?_
    rotate_left
    focus
     intro w9 h9
     obtain ⟨k5, k6, k7, k8, k9, k11, k12, k13, k14, k15, k16, k17, k18, k19, k20⟩ := row_terms h9.1
     go_simp
     (try with_reducible rfl)
     done
    simp only [Act.put, List.getElem_toArray, List.getElem_cons_succ, List.getElem_cons_zero, List.setIfInBounds_toArray, List.set_cons_zero, List.set_cons_succ]
   repeat'
    first
    |refine aZ.pure (v := ?_) rfl (by decide +kernel) (by rfl) (fun _ _ _ h => h) (by first | exact fun h => absurd h (by decide) | exact fun _ => ⟨g, bx⟩) ?_ ?_
     rotate_left
     focus
      intro w9
      go_simp
      (try with_reducible rfl)
      done
     simp only [Act.put, List.getElem_toArray, List.getElem_cons_succ, List.getElem_cons_zero, List.setIfInBounds_toArray, List.set_cons_zero, List.set_cons_succ]
    |refine aZ.one 2 rfl (by decide +kernel) (by rfl) (fun K hK => ?_)
    |refine aZ.one 5 rfl (by decide +kernel) (by rfl) (fun K hK => ?_)
    |refine aZ.one 8 rfl (by decide +kernel) (by rfl) (fun K hK => ?_)
    |refine aZ.one 10 rfl (by decide +kernel) (by rfl) (fun K hK => ?_)
    |refine aZ.one 12 rfl (by decide +kernel) (by rfl) (fun K hK => ?_)
    |refine aZ.one 14 rfl (by decide +kernel) (by rfl) (fun K hK => ?_)
    |refine aZ.two 5 10 rfl rfl (by decide +kernel) (by rfl) (by rfl) (fun K hK => ?_) (fun K hK => ?_)
    |refine aZ.two 8 10 rfl rfl (by decide +kernel) (by rfl) (by rfl) (fun K hK => ?_) (fun K hK => ?_)
    |refine aZ.two 8 12 rfl rfl (by decide +kernel) (by rfl) (by rfl) (fun K hK => ?_) (fun K hK => ?_)
    |refine wp_store_mid 39 (.tmp 46) (.tmp 39) rfl w0.heap.size 5 #[T1[0]!, T1[1]!, T1[2]!, T1[3]!, T1[4]!] rfl rfl (yZ g (by simp [oq])) zo t1 ?_
     have g := zx 5 g T1[0]!  T1[1]!  T1[2]!  T1[3]!  T1[4]!
     have hu1 := hu1.keep (jM _ 5 [T1[0]!, T1[1]!, T1[2]!, T1[3]!, T1[4]!] hSn)
     try have hu2 := hu2.keep (jM _ 5 [T1[0]!, T1[1]!, T1[2]!, T1[3]!, T1[4]!] hSn)
     try have hu3 := hu3.keep (jM _ 5 [T1[0]!, T1[1]!, T1[2]!, T1[3]!, T1[4]!] hSn)
     have bx := But.setCells [T1[0]!, T1[1]!, T1[2]!, T1[3]!, T1[4]!] 5 _ _ bx
     refine hK.out _ _ (fun h => absurd h (by decide)) ?_
     clear hK K
    |refine wp_store_mid 39 (.tmp 47) (.tmp 42) rfl w0.heap.size 11 #[R1[0]!, R1[1]!, R1[2]!, R1[3]!, R1[4]!] rfl rfl (yZ g (by simp [oq])) zo t2 ?_
     have g := zx 11 g R1[0]!  R1[1]!  R1[2]!  R1[3]!  R1[4]!
     have hu1 := hu1.keep (jM _ 11 [R1[0]!, R1[1]!, R1[2]!, R1[3]!, R1[4]!] hSn)
     try have hu2 := hu2.keep (jM _ 11 [R1[0]!, R1[1]!, R1[2]!, R1[3]!, R1[4]!] hSn)
     try have hu3 := hu3.keep (jM _ 11 [R1[0]!, R1[1]!, R1[2]!, R1[3]!, R1[4]!] hSn)
     have bx := But.setCells [R1[0]!, R1[1]!, R1[2]!, R1[3]!, R1[4]!] 11 _ _ bx
     refine hK.out _ _ (fun h => absurd h (by decide)) ?_
     clear hK K
    |refine wp_store_mid 39 (.tmp 48) (.tmp 45) rfl w0.heap.size 16 #[X1[0]!, X1[1]!, X1[2]!, X1[3]!, X1[4]!] rfl rfl (yZ g (by simp [oq])) zo t3 ?_
     have g := zx 16 g X1[0]!  X1[1]!  X1[2]!  X1[3]!  X1[4]!
     have hu1 := hu1.keep (jM _ 16 [X1[0]!, X1[1]!, X1[2]!, X1[3]!, X1[4]!] hSn)
     try have hu2 := hu2.keep (jM _ 16 [X1[0]!, X1[1]!, X1[2]!, X1[3]!, X1[4]!] hSn)
     try have hu3 := hu3.keep (jM _ 16 [X1[0]!, X1[1]!, X1[2]!, X1[3]!, X1[4]!] hSn)
     have bx := But.setCells [X1[0]!, X1[1]!, X1[2]!, X1[3]!, X1[4]!] 16 _ _ bx
     refine hK.out _ _ (fun h => absurd h (by decide)) ?_
     clear hK K
    |go_simp
     go_at_call 52
     first
     |(with_reducible refine (HR1.out _ ((hx.trans bx).kept hSr) (hx.trans bx).size).mono ?_); rintro e Y1 ⟨u, rfl, hu, hb⟩; obtain ⟨T1, rfl, t1⟩ := I6 hu; have hu1 := hu.mono (S' := fun g => S g ∨ w0.heap.size < g) (fun g hg _ => hg.imp id (fun h => Nat.lt_of_lt_of_le hzr (Nat.le_trans bx.size h))); clear hu
     |(with_reducible refine (HR2.out _ ((hx.trans bx).kept hSr) (hx.trans bx).size).mono ?_); rintro e Y2 ⟨u, rfl, hu, hb⟩; obtain ⟨R1, rfl, t2⟩ := I6 hu; have hu2 := hu.mono (S' := fun g => S g ∨ w0.heap.size < g) (fun g hg _ => hg.imp id (fun h => Nat.lt_of_lt_of_le hzr (Nat.le_trans bx.size h))); clear hu; have hu1 := hu1.keep (aP hb)
     |(with_reducible refine (HR3.out _ ((hx.trans bx).kept hSr) (hx.trans bx).size).mono ?_); rintro e Y3 ⟨u, rfl, hu, hb⟩; obtain ⟨X1, rfl, t3⟩ := I6 hu; have hu3 := hu.mono (S' := fun g => S g ∨ w0.heap.size < g) (fun g hg _ => hg.imp id (fun h => Nat.lt_of_lt_of_le hzr (Nat.le_trans bx.size h))); clear hu; have hu1 := hu1.keep (aP hb); have hu2 := hu2.keep (aP hb)
     have g := (hb.block _ (lt_of_block g)).trans g
     have bx := bx.trans (.of_below hb)
     try go_simp
     refine hK.out _ _ (by first | exact fun h => absurd h (by decide) | exact fun _ => ⟨g, bx⟩) ?_
     clear hK K
   all_goals
    refine aZ.done (by decide +kernel) ?_
    go_wp2_with fail
    go_meet
    rw [rows3] at g
    exact ⟨T1, R1, X1, Lib.hid g, Lib.hid hu1, Lib.hid hu2, Lib.hid hu3, bx⟩
  case rest =>
  obtain ⟨T1, R1, X1, hr, hT1, hR1, hX1, hx2⟩ := hcut
  rename World => w1
  have HN6 := Lib.hid (HN5.out.keep (hx2.kept hSn))
  have hx := hx.trans hx2
  have hwc := lt_of_block hr.out
  obtain ⟨row, Bf⟩ : ∃ row, row = oq d.kind d.line (xE d.name) (.slice A3 d.names.length n3) (.slice fA d.faults.length fc) T1 d.proto R1 X1 (xE d.use) := ⟨_, rfl⟩
  have hr : Hid (w1.heap[w0.heap.size]? = some (.cells row 41 (0, 0))) := by rw [Bf]; exact hr
  have hrow4 : row[4]? = some (.slice fA d.faults.length fc) := by rw [Bf]; rfl
  have HROW := Lib.hid Bf
  clear Bf HN5 HO HR1 HR2 HR3 hx2 hx5 hr5 HR5 hzr hzc hz1
  go_wp2
  go_loopw [6, 7] (fun v y wr => ∃ j : Nat, j ≤ d.faults.length ∧ y = .int .i64 j ∧ Hid (wr.heap[w0.heap.size]? = some (.cells row 41 (0, 0))) ∧ Hid (fE lm wr (fun g => S g ∨ w1.heap.size ≤ g) w1.heap.size 82 6 v ((d.faults.take j).map ftX)) ∧ But (fun g => g = w0.heap.size) w1 wr) (fun _ y _ => d.faults.length - (intOf y).toNat)
  case atStart => exact ⟨0, Nat.zero_le _, rfl, hr, fE.nil _ _ _ _ _, But.refl _ _⟩
  case round =>
  obtain ⟨j, hj, rfl, hrf, LQ, hbf⟩ := hrel
  have c4 := ai hrf.out 4 _ hrow4
  have hsf := hbf.size
  by_cases hlj : j < d.faults.length
  ·obtain ⟨g2, o2, v2, rfl, hSg2, hp, hcf⟩ := fJ (fun x v h => by obtain ⟨bA, bc, cA, cc, rfl, -⟩ := h; rfl) (H3.out.keep (P' := lm wr S) ((hx.trans hbf).kept hSr) (fun _ _ h => h.keep ((hx.trans hbf).kept hSr))) hlj
   obtain ⟨f, hf⟩ : ∃ f, f = d.faults[j] := ⟨_, rfl⟩
   rw [← hf] at hp
   obtain ⟨p1, p2, p3⟩ := q7 f (by rw [hf]; exact List.getElem_mem hlj)
   have HTK2 := Lib.hid (show (d.faults.take (j + 1)).map ftX = (d.faults.take j).map ftX ++ [ftX f] by rw [List.take_succ_eq_append_getElem hlj, List.map_append, hf]; rfl)
   clear hf
   obtain ⟨bA, bc, cA, cc, rfl, s1, s2, s3, s4⟩ := hp
   have k0 := hcf 0 _ rfl
   have k1 := hcf 1 _ rfl
   have k2 := hcf 2 _ rfl
   have k3 := hcf 3 _ rfl
   have k4 := hcf 4 _ rfl
   have k5 := hcf 5 _ rfl
   simp only [Nat.add_zero] at k0
   have hjI : (j : Int) < (d.faults.length : Int) := by omega
   have hj0 : (0 : Int) ≤ (j : Int) := by omega
   have HB := Lib.hid (fun (W : World) (hk : Kept S wr W) (hz : wr.heap.size ≤ W.heap.size) => sM f.ay S bA bc W (s1.keep hk) (fun g hg => by have := hS g hg; omega) (by have := (sQ p2).1; omega) (fun y hy => by have := (sQ p2).2 y hy; omega))
   have HC := Lib.hid (fun (W : World) (hk : Kept S wr W) (hz : wr.heap.size ≤ W.heap.size) => sM f.ak S cA cc W (s3.keep hk) (fun g hg => by have := hS g hg; omega) (by have := (sQ p3).1; omega) (fun y hy => by have := (sQ p3).2 y hy; omega))
   clear s1 s3 hcf
   have hSq : ∀ g, S g → ¬ g = wr.heap.size := fun g hg => by have := hS g hg; omega
   go_upto_if 63 with fail
   obtain ⟨W7, hW7⟩ : ∃ W7 : World, W7 = wr.alloc (.cells #[.int .i64 f.op, .string f.name, .int .i64 f.byz, .int .i64 f.je, .slice bA f.ay.length bc, .slice cA f.ak.length cc] 82) := ⟨_, rfl⟩
   rw [← hW7]
   have hf7 : W7.heap[wr.heap.size]? = some (.cells #[.int .i64 f.op, .string f.name, .int .i64 f.byz, .int .i64 f.je, .slice bA f.ay.length bc, .slice cA f.ak.length cc] 82 (0, 0)) := by rw [hW7]; exact heap_alloc_new wr _
   have hx7 : But (fun g => g = wr.heap.size) wr W7 := by rw [hW7]; exact But.of_below ((Below.refl _ _).alloc (Nat.le_refl _) _)
   have c1 := ai hf7 1 (.string f.name) rfl
   have f1 : W7.frozen? ⟨wr.heap.size, 1, none⟩ = false := frozen_of_row _ _ _ _ _ hf7
   have HF7 := Lib.hid hf7
   clear hW7 hf7 c4 k0 k1 k2 k3 k4 k5
   go_cut [] (fun wx => Hid (wx.heap[wr.heap.size]? = some (.cells #[.int .i64 f.op, .string (xE f.name), .int .i64 f.byz, .int .i64 f.je, .slice bA f.ay.length bc, .slice cA f.ak.length cc] 82 (0, 0))) ∧ But (fun g => g = wr.heap.size) wr wx)
   case first =>
    rcases xE_or f.name with ⟨e1, e2⟩ | ⟨e1, e2⟩
    all_goals
     have E := Lib.hid e2
     rw [e1]
     go_wp2
     go_meet
     refine ⟨Lib.hid ?_, ?_⟩
     ·rw [E.out]; first | exact HF7.out | exact aQ HF7.out _
     ·first | exact hx7 | exact hx7.setCell rfl _ _
   case rest =>
   obtain ⟨hq, hx8⟩ := hcut
   clear c1 f1 HF7 hx7
   have hqz := lt_of_block hq.out
   go_upto_region 19 with fail
   go_cut [] (fun wx => ∃ b1 n1 b2 n2, Hid (wx.heap[wr.heap.size]? = some (.cells #[.int .i64 f.op, .string (xE f.name), .int .i64 f.byz, .int .i64 f.je, .slice b1 f.ay.length n1, .slice b2 f.ak.length n2] 82 (0, 0))) ∧ Hid (aL wx (fun g => wr.heap.size < g) 1 b1 f.ay.length (aC (f.ay.map xA)) ∧ f.ay.length ≤ n1 ∧ aL wx (fun g => wr.heap.size < g) 1 b2 f.ak.length (aC (f.ak.map xA)) ∧ f.ak.length ≤ n2) ∧ But (fun g => g = wr.heap.size) wr wx)
   case first =>
    have hgt : ∀ g, wr.heap.size < g → ¬ g = wr.heap.size := fun g h e => by omega
    refine aZ.start (fun W' => W'.heap[wr.heap.size]? = some (.cells #[.int .i64 f.op, .string (xE f.name), .int .i64 f.byz, .int .i64 f.je, .slice bA f.ay.length bc, .slice cA f.ak.length cc] 82 (0, 0)) ∧ But (fun g => g = wr.heap.size) wr W') [7, 9] [0, 1, 3, 4, 6, 8] (by kernel_rfl) ⟨hq.out, hx8.trans ⟨rfl, rfl, rfl, Nat.le_refl _, fun _ _ _ => rfl⟩⟩ (fun hHeld => ?_)
    obtain ⟨g, bx⟩ := hHeld
    repeat
     refine aZ.take (v := ?_) rfl (by decide +kernel) (by rfl) (fun _ _ _ h => h) ⟨g, bx⟩ ?_ ?_
     rotate_left
     focus
      intro w9 h9
      have k4 := ai h9.1 4 _ rfl
      have k5 := ai h9.1 5 _ rfl
      go_simp
      (try with_reducible rfl)
      done
     simp only [Act.put, List.getElem_toArray, List.getElem_cons_succ, List.getElem_cons_zero, List.setIfInBounds_toArray, List.set_cons_zero, List.set_cons_succ]
    repeat'
     first
     |refine aZ.pure (v := ?_) rfl (by decide +kernel) (by rfl) (fun _ _ _ h => h) (by first | exact fun h => absurd h (by decide) | exact fun _ => ⟨g, bx⟩) ?_ ?_
      rotate_left
      focus
       intro w9
       go_simp
       (try with_reducible rfl)
       done
      simp only [Act.put, List.getElem_toArray, List.getElem_cons_succ, List.getElem_cons_zero, List.setIfInBounds_toArray, List.set_cons_zero, List.set_cons_succ]
     |refine aZ.one 2 rfl (by decide +kernel) (by rfl) (fun K hK => ?_)
     |refine aZ.one 5 rfl (by decide +kernel) (by rfl) (fun K hK => ?_)
     |refine aZ.one 7 rfl (by decide +kernel) (by rfl) (fun K hK => ?_)
     |refine aZ.one 9 rfl (by decide +kernel) (by rfl) (fun K hK => ?_)
     |refine aZ.two 5 7 rfl rfl (by decide +kernel) (by rfl) (by rfl) (fun K hK => ?_) (fun K hK => ?_)
     |have z4 := ai g 4 _ rfl
      have z5 := ai g 5 _ rfl
      have y4 := frozen_of_row _ _ 4 _ _ g
      have y5 := frozen_of_row _ _ 5 _ _ g
      go_simp
      first
      |go_at_call 24
       first
       |(with_reducible refine (HB.out _ (bx.kept hSq) bx.size).mono ?_); rintro e Y1 ⟨v, rfl, hown, hb⟩; obtain ⟨b1, n1, rfl, hn1⟩ := aS hown; have hs1 := (aL.own hown).mono (S' := fun g => wr.heap.size < g) (fun g9 hg _ => Nat.lt_of_lt_of_le (lt_of_block g) hg) (by decide)
       |(with_reducible refine (HC.out _ (bx.kept hSq) bx.size).mono ?_); rintro e Y2 ⟨v, rfl, hown, hb⟩; obtain ⟨b2, n2, rfl, hn2⟩ := aS hown; have hs2 := (aL.own hown).mono (S' := fun g => wr.heap.size < g) (fun g9 hg _ => Nat.lt_of_lt_of_le (lt_of_block g) hg) (by decide); have hs1 := hs1.keep (aP hb)
       have g := (hb.block _ (lt_of_block g)).trans g
       have bx := bx.trans (.of_below hb)
       try go_simp
       refine hK.out _ _ (by first | exact fun h => absurd h (by decide) | exact fun _ => ⟨g, bx⟩) ?_
       clear hK K hown z4 z5 y4 y5
      |refine hK.out _ (World.setCell _ ⟨wr.heap.size, 4, none⟩ _) (fun h => absurd h (by decide)) ?_
       have hs1 := hs1.keep (((But.refl (fun g => g = wr.heap.size) _).setCell rfl 4 (.slice b1 f.ay.length n1)).kept hgt)
       try have hs2 := hs2.keep (((But.refl (fun g => g = wr.heap.size) _).setCell rfl 4 (.slice b1 f.ay.length n1)).kept hgt)
       have g := aQ g (i := 4) (.slice b1 f.ay.length n1)
       have bx := bx.setCell rfl 4 (.slice b1 f.ay.length n1)
       clear hK K z4 z5 y4 y5
      |refine hK.out _ (World.setCell _ ⟨wr.heap.size, 5, none⟩ _) (fun h => absurd h (by decide)) ?_
       have hs1 := hs1.keep (((But.refl (fun g => g = wr.heap.size) _).setCell rfl 5 (.slice b2 f.ak.length n2)).kept hgt)
       try have hs2 := hs2.keep (((But.refl (fun g => g = wr.heap.size) _).setCell rfl 5 (.slice b2 f.ak.length n2)).kept hgt)
       have g := aQ g (i := 5) (.slice b2 f.ak.length n2)
       have bx := bx.setCell rfl 5 (.slice b2 f.ak.length n2)
       clear hK K z4 z5 y4 y5
    all_goals
     refine aZ.done (by decide +kernel) ?_
     go_wp2_with fail
     go_meet
     exact ⟨b1, n1, b2, n2, Lib.hid g, Lib.hid ⟨hs1, hn1, hs2, hn2⟩, bx⟩
   case rest =>
   obtain ⟨b1, n1, b2, n2, hq, hss, hx9⟩ := hcut
   have d0 := ai hq.out 0 _ rfl
   have d1 := ai hq.out 1 _ rfl
   have d2 := ai hq.out 2 _ rfl
   have d3 := ai hq.out 3 _ rfl
   have d4 := ai hq.out 4 _ rfl
   have d5 := ai hq.out 5 _ rfl
   have hk9 : Kept (fun g => S g ∨ w1.heap.size ≤ g) wr wc := fun g _ hl => hx9.block g (fun e => by omega) hl
   have hrow9 := LQ.out.keep mZ hk9 (fun g e => hx9.block g (fun e9 => by have := (LQ.out.lt g e).2; omega) (LQ.out.lt g e).2)
   have HK := Lib.hid (show ((d.faults.take j).map ftX).length = j by rw [List.length_map, List.length_take]; omega)
   obtain ⟨us, l1, hown, hall⟩ := hrow9
   have HALL := Lib.hid hall
   rw [HK.out] at hown
   have hz9 := hx9.size
   have hqz9 := lt_of_block hq.out
   clear hall
   go_wp2_with (at_builtin; refine K7 wc rfl (.tmp 76) (.tmp 78) rfl w1.heap.size _ _ _ hown rfl f.op (xE f.name) f.byz f.je b1 f.ay.length n1 b2 f.ak.length n2 rfl (by omega) (by omega) ?_; intro v' W10 hown10 hg10 hv10)
   go_roundw
   case rel =>
    refine ⟨j + 1, by omega, by go_num, Lib.hid (jL hg10 hown (by omega) ((hx9.block _ (by omega) (by omega)).trans hrf.out)), Lib.hid ?_, (hbf.low ((hx9.below (B := w1.heap.size) (fun g e => by omega) (by omega)).trans (aM hown hg10 (by omega))))⟩
    rw [HTK2.out]
    obtain ⟨s1, s2, s3, s4⟩ := hss.out
    have e1 : (ftX f).ay.length = f.ay.length := List.length_map ..
    have e2 : (ftX f).ak.length = f.ak.length := List.length_map ..
    have hS9 : ∀ g, wr.heap.size < g → g < wc.heap.size → (S g ∨ w1.heap.size ≤ g) ∧ some g ≠ Value.ownBlock _ := fun g hg _ => ⟨Or.inr (by omega), fun e => by have := (LQ.out.lt g e.symm).2; omega⟩
    exact fE.push l1 HALL.out mZ rfl ⟨b1, n1, b2, n2, by rw [e1, e2], by rw [e1]; exact s1.mono hS9 (by decide), by rw [e1]; exact s2, by rw [e2]; exact s3.mono hS9 (by decide), by rw [e2]; exact s4⟩ (by rw [HK.out]; exact hown10) hg10 hv10
   case measure => simp [intOf]; omega
  obtain rfl : j = d.faults.length := by omega
  have hjI : ¬ (d.faults.length : Int) < (d.faults.length : Int) := by omega
  rw [List.take_length] at LQ
  obtain ⟨A4, n4, rfl, hn4, hlist⟩ := LQ.out.list mZ
  have f4 : wr.frozen? ⟨w0.heap.size, 4, none⟩ = false := frozen_of_row _ _ _ _ _ hrf.out
  rw [List.length_map] at hn4
  have HLI := Lib.hid hlist
  have HN4 := Lib.hid hn4
  clear hlist hn4
  go_upto_region 22 with fail
  obtain ⟨W11, M5⟩ : ∃ W11, W11 = wr.setCell ⟨w0.heap.size, 4, none⟩ (.slice A4 d.faults.length n4) := ⟨_, rfl⟩
  have bx11 : But (fun g => g = w0.heap.size) w0 W11 := by rw [M5]; exact (hx.trans hbf).setCell rfl _ _
  have hr11 : W11.heap[w0.heap.size]? = some (.cells (oq d.kind d.line (xE d.name) (.slice A3 d.names.length n3) (.slice A4 d.faults.length n4) T1 d.proto R1 X1 (xE d.use)) 41 (0, 0)) := by
   have h9 := aQ hrf.out (i := 4) (.slice A4 d.faults.length n4)
   rw [HROW.out] at h9
   rw [M5]; exact h9
  have k11 : Kept (fun g => S g ∨ w0.heap.size < g) w1 W11 := by rw [M5]; exact (hbf.setCell rfl 4 _).kept hSn
  have kf : Kept (fun g => S g ∨ w1.heap.size ≤ g) wr W11 := by rw [M5]; exact ((But.refl (fun g => g = w0.heap.size) wr).setCell rfl 4 _).kept (fun g hg => hSn g (hg.imp id (fun h => by omega)))
  rw [← M5]
  have e1 : (dcX d).names.length = d.names.length := List.length_map ..
  have e2 : (dcX d).faults.length = d.faults.length := List.length_map ..
  have HD := Lib.hid (show fo W11 (fun g => S g ∨ w0.heap.size < g) (dcX d) (.agg (oq d.kind d.line (xE d.name) (.slice A3 d.names.length n3) (.slice A4 d.faults.length n4) T1 d.proto R1 X1 (xE d.use))) from ⟨A3, n3, A4, n4, MW T1, MW R1, MW X1, by rw [e1, e2]; simp [oq, MW, Value.cells, dcX], by rw [e1]; exact HN6.out.keep k11, by rw [e1]; exact hc3,
   (HLI.out.keep (P' := lm W11 (fun g => S g ∨ w1.heap.size ≤ g)) (kf.mono fun g h => Or.inr h) (fun _ _ h => h.keep kf)).mono (fun g hg _ => Or.inr (by omega)) (by decide) (fun _ _ h => h.mono fun g hg _ => hg.imp id (fun h => by omega)), by rw [e2]; exact HN4.out, hT1.out.keep k11, hR1.out.keep k11, hX1.out.keep k11⟩)
  have hone11 : ∀ u ∈ (oq d.kind d.line (xE d.name) (.slice A3 d.names.length n3) (.slice A4 d.faults.length n4) T1 d.proto R1 X1 (xE d.use)).toList, u.oneCell' = true := by
   have h1 := one5 hT1.out
   have h2 := one5 hR1.out
   have h3 := one5 hX1.out
   have a1 : ∀ (k : IntKind) n, (Value.int k n).oneCell' = true := fun _ _ => rfl
   have a2 : ∀ s, (Value.string s).oneCell' = true := fun _ => rfl
   have a3 : ∀ A n c, (Value.slice A n c).oneCell' = true := fun _ _ _ => rfl
   simp [oq, a1, a2, a3, h1, h2, h3]
  have yA := Lib.hid hone11
  obtain ⟨a0, a1, a2, a3, a4, a5, a6, a7, a8, a9, a10, a11, a12, a13, a14, a15, a16, a17, a18, a19, a20, a21, hrw2⟩ : ∃ a0 a1 a2 a3 a4 a5 a6 a7 a8 a9 a10 a11 a12 a13 a14 a15 a16 a17 a18 a19 a20 a21 : Value, oq d.kind d.line (xE d.name) (.slice A3 d.names.length n3) (.slice A4 d.faults.length n4) T1 d.proto R1 X1 (xE d.use) = #[a0, a1, a2, a3, a4, a5, a6, a7, a8, a9, a10, a11, a12, a13, a14, a15, a16, a17, a18, a19, a20, a21] := ⟨_, _, _, _, _, _, _, _, _, _, _, _, _, _, _, _, _, _, _, _, _, _, rfl⟩
  rw [hrw2] at hr11 HD yA
  clear hrw2
  have hrow11 := hrow.out.keep ng (w' := W11) (fun g _ hl => bx11.block g (by omega) hl) (fun g e => bx11.block g (by have := (hrow.out.lt g e).2; omega) (hrow.out.lt g e).2)
  have HK := Lib.hid (show ((l.take k).map dcX).length = k by rw [List.length_map, List.length_take]; omega)
  obtain ⟨us, l1, hown, hall⟩ := hrow11
  have HALL := Lib.hid hall
  rw [HK.out] at hown
  have hz11 := bx11.size
  clear hall hone11 M5 k11 kf e1 e2 HLI HN4 HROW hT1 hR1 hX1 c4 f4
  go_wp2_with (first
   |(with_reducible refine eD _ rfl (.tmp 5) rfl w0.heap.size rfl _ hr11 rfl ?_)
   |(at_builtin; refine K5 W11 rfl (.tmp 82) (.tmp 84) rfl w.heap.size _ _ _ hown rfl _ rfl rfl yA.out (by omega) (by omega) ?_; intro v' W12 hown12 hg12 hv12))
  go_roundw
  case rel =>
   refine ⟨k + 1, by omega, by go_num, Lib.hid ?_, (hb.trans (bx11.below (fun g e => by omega) hsr)).trans (aM hown hg12 (by omega))⟩
   rw [HTK.out]
   exact fE.push l1 HALL.out ng rfl (HD.out.mono fun g hg _ => ⟨hg.imp id (fun h => by omega), fun e => by have := hrow.out.lt g e.symm; exact hg.elim (fun h => by have := hS g h; omega) (fun h => by omega)⟩) (by rw [HK.out]; exact hown12) hg12 hv12
  case measure => simp [intOf]; omega
 ·obtain rfl : k = l.length := by omega
  have hkI : ¬ (l.length : Int) < (l.length : Int) := by omega
  rw [List.take_length] at hrow
  go_wp2
  go_ret
  exact ⟨_, rfl, hrow.out, hb⟩
end Go.Proofs.YtbmglebipepdmaaGreatDoor
namespace Go.Proofs.YtbmglebipepdmaaGreatDoor
open Go.RowKit
def ysOf (d : Dc) : List ByteArray := lu d ++ [d.name] ++ d.names
def rH (d : Dc) : Bool := (ysOf d).all fun y => decide (y.size < 24)
attribute [local go_sem ↓] qf in
set_option maxRecDepth 100000 in
set_option maxHeartbeats 8000000 in
theorem short_ref (l : List Dc) (A : Option Addr) (c : Nat) (w : World) (S : Nat → Prop) (hl : aT (fo w S) w S 22 A l) (hS : ∀ g, S g → g < w.heap.size) (hsz : (l.map bE).sum ≤ 1100000) :
  Calls Tryz.prog 21 #[.slice A l.length c, .int .i64 24] w fun e w' => e = .returned (.bool (l.all rH)) ∧ Below w.heap.size w w' := by
 have HL := Lib.hid hl
 have hll := iD l
 clear hl
 go_enter Tryz.func21, Tryz.ntmps21
 go_wp2
 go_loopw [5] (fun x wr => ∃ k : Nat, k ≤ l.length ∧ x = .int .i64 k ∧ Below w.heap.size w wr ∧ Hid (l.all rH = (l.drop k).all rH)) (fun x _ => l.length - (intOf x).toNat)
 case atStart => exact ⟨0, Nat.zero_le _, rfl, Below.refl _ _, rfl⟩
 case round =>
 obtain ⟨k, hk, rfl, hb, hdr⟩ := hrel
 rename World => w0
 have hsr := hb.size
 by_cases hlt : k < l.length
 ·obtain ⟨g, o, v2, rfl, hSg, hp, hc⟩ := fJ (fun _ _ h => jE h) HL.out hlt
  have hgs : g < w.heap.size := hS g hSg
  obtain ⟨d, hd⟩ : ∃ d, d = l[k] := ⟨_, rfl⟩
  have hmem : d ∈ l := by rw [hd]; exact List.getElem_mem hlt
  have HDR := Lib.hid (show (l.drop k).all rH = (rH d && (l.drop (k + 1)).all rH) by rw [List.drop_eq_getElem_cons hlt, List.all_cons, hd])
  rw [← hd] at hp
  have hp2 := hp
  obtain ⟨cs, nA, nc, hcl, hone, rfl, c0, -, c2, c3, -, hsn, hnc⟩ := jU hp2
  have hrange : w.rangeAt g (o + k * 22) cs := fun j u hu => hc j u (by simpa [cellsOf, Value.cells] using hu)
  have HRG := Lib.hid (fun (W : World) (hW : Below w.heap.size w W) => nu hrange hW hgs)
  have HSN := Lib.hid (fun (W : World) (hW : Below w.heap.size w W) => hsn.keep (aA hW hS))
  have HCL := Lib.hid hcl
  have C2 := Lib.hid c2
  have C3 := Lib.hid c3
  have hul := CZ (l := l) (by omega) hmem
  have HUS := Lib.hid (fun (W : World) (hW : Below w.heap.size w W) => JC d _ W S (hp.keep (aA hW hS)) (fun g hg => by have := hS g hg; have := hW.size; omega) hul.1 hul.2.1 hul.2.2.1 hul.2.2.2)
  have hub := yR (l := l) (by omega) hmem
  have hnl := hul.2.2.1
  have HYS := Lib.hid (show rH d = (ysOf d).all fun y => decide (y.size < 24) from rfl)
  obtain ⟨ys, hys⟩ : ∃ ys, ys = ysOf d := ⟨_, rfl⟩
  have hyl : ys.length = (lu d).length + 1 + d.names.length := by rw [hys]; simp [ysOf]; omega
  have HY2 := Lib.hid (show aC ys = aC (lu d) ++ aC [d.name] ++ aC d.names by rw [hys]; simp [ysOf, aC])
  rw [← hys] at HYS
  obtain ⟨us, hus⟩ : ∃ us, us = lu d := ⟨_, rfl⟩
  rw [← hus] at HUS hub hyl HY2
  have hkI : (k : Int) < (l.length : Int) := by omega
  have hk0 : (0 : Int) ≤ (k : Int) := by omega
  clear hd hp hp2 hc hcl c0 c2 c3 hone hsn hul hys hus hrange hmem
  go_upto_region 4 with fail
  go_cut [6] (fun v wx => ∃ B n, v = .slice B ys.length n ∧ Hid (aL wx (fun g => g < wx.heap.size) 1 B ys.length (aC ys)) ∧ Below w0.heap.size w0 wx)
  case first =>
   refine aZ.start (fun W' => Below w0.heap.size w0 W') [] [0, 1, 2, 3, 5, 6, 7, 8, 9, 12, 13, 14, 15, 16, 18] (by kernel_rfl) (Below.refl _ _).drew (fun bx => ?_)
   repeat
    refine aZ.take (v := ?_) rfl (by decide +kernel) (by rfl) (fun _ _ _ h => h) bx ?_ ?_
    rotate_left
    focus
     intro w9 h9
     have hrg := HRG.out w9 (hb.trans (h9.mono hsr))
     have ra := pG w9 g (o + k * 22) cs hrg HCL.out
     have e2 := hrg 2 _ C2.out
     have e3 := hrg 3 _ C3.out
     first
     |(show Sem.run Tryz.prog (do pure (Next.value (← loadD (.pointer (some ⟨g, o + k * 22, none⟩))))) w9 = _; rw [Sem.run_bind, ra]; rfl)
     |go_simp; (try with_reducible rfl); done
    simp only [Act.put, List.getElem_toArray, List.getElem_cons_succ, List.getElem_cons_zero, List.setIfInBounds_toArray, List.set_cons_zero, List.set_cons_succ]
   repeat'
    first
    |refine aZ.two 4 10 rfl rfl (by decide +kernel) (by rfl) (by rfl) (fun K hK => ?_) (fun K hK => ?_)
    |refine aZ.one 4 rfl (by decide +kernel) (by rfl) (fun K hK => ?_)
    |refine aZ.one 10 rfl (by decide +kernel) (by rfl) (fun K hK => ?_)
    |refine aZ.one 11 rfl (by decide +kernel) (by rfl) (fun K hK => ?_)
    |refine aZ.one 17 rfl (by decide +kernel) (by rfl) (fun K hK => ?_)
    |refine aZ.one 18 rfl (by decide +kernel) (by rfl) (fun K hK => ?_)
    |refine xu _ rfl (.tmp 18) (.tmp 24) rfl _ _ us.length _ hown rfl _ _ 1 _ [d.name] rfl rfl hlit (by omega) (by simp) hbase ?_
     intro v7 W7 iA hg7 hv7
     have bx := bx.trans ((aM hown hg7 hbase).mono hb0)
     have hbase := Nat.le_trans hbase hg7.size
     refine hK.out _ _ (fun _ => bx) ?_
     clear hK K hown
    |refine xu _ rfl (.tmp 25) (.tmp 30) rfl _ _ (us.length + 1) _ iA rfl _ _ d.names.length _ d.names rfl rfl (HSN.out _ (hb.trans (bx.mono hsr))) (by omega) (by omega) hbase ?_
     intro v8 W8 mO hg8 hv8
     have bx := bx.trans ((aM iA hg8 hbase).mono hb0)
     refine hK.out _ _ (fun _ => bx) ?_
     clear hK K iA
    |go_simp
     first
     |go_at_call 48
      refine (HUS.out _ (hb.trans (bx.mono hsr))).mono ?_
      rintro e W6 ⟨v6, rfl, hown, hb6⟩
      have hbase := hb6.size
      have hb0 := bx.size
      have bx := bx.trans (hb6.mono bx.size)
      try have hlit := hlit.keep (aP hb6)
      try go_simp
      refine hK.out _ _ (fun _ => bx) ?_
      clear hK K
     |refine hK.out _ (World.alloc _ _) (fun _ => bx.alloc bx.size _) ?_
      have hlit := lit_of bx d.name
      try have hown := hown.alloc (.cells #[.string d.name] 9)
      try have hbase := Nat.le_trans hbase (size_le (.cells #[.string d.name] 9))
      have bx := bx.alloc bx.size (.cells #[.string d.name] 9)
      clear hK K
     |refine hK.out _ _ (fun _ => bx) ?_
      clear hK K
   all_goals
    obtain ⟨B, n, rfl, hn⟩ := aS mO
    refine aZ.done (by decide +kernel) ?_
    go_wp2_with fail
    go_meet
    exact ⟨B, n, by rw [hyl], Lib.hid (by rw [HY2.out, hyl]; exact (aL.own mO).mono (fun g _ h => h) (by decide)), bx⟩
  case rest =>
  obtain ⟨B, n, rfl, Cc, hb2⟩ := hcut
  have hb3 := hb.trans (hb2.mono hsr)
  go_wp2
  go_loop [7] (fun y => ∃ j : Nat, j ≤ ys.length ∧ y = .int .i64 j ∧ Hid ((ys.all fun y => decide (y.size < 24)) = (ys.drop j).all fun y => decide (y.size < 24))) (fun y => ys.length - (intOf y).toNat)
  case atStart => exact ⟨0, Nat.zero_le _, rfl, rfl⟩
  case round =>
  obtain ⟨j, hj, rfl, hda⟩ := hrel
  by_cases hlj : j < ys.length
  ·obtain ⟨g2, o2, rfl, hSg2, k1⟩ := one_cell (f := Value.string) Cc.out hlj
   have HD := Lib.hid (show ((ys.drop j).all fun y => decide (y.size < 24)) = (decide (ys[j].size < 24) && (ys.drop (j + 1)).all fun y => decide (y.size < 24)) by rw [List.drop_eq_getElem_cons hlj, List.all_cons])
   generalize ys[j] = u at k1 HD
   have hjI : (j : Int) < (ys.length : Int) := by omega
   have hj0 : (0 : Int) ≤ (j : Int) := by omega
   by_cases hu : u.size < 24
   ·have hge : ¬ (24 : Int) ≤ (u.size : Int) := by omega
    have E := Lib.hid (decide_eq_true hu)
    go_wp2
    go_round
    case rel => exact ⟨j + 1, by omega, by go_num, Lib.hid (by rw [hda.out, HD.out, E.out]; rfl)⟩
    case measure => simp [intOf]; omega
   ·have hge : (24 : Int) ≤ (u.size : Int) := by omega
    have E := Lib.hid (decide_eq_false hu)
    go_wp2
    go_ret
    exact ⟨by rw [hdr.out, HDR.out, HYS.out, hda.out, HD.out, E.out]; rfl, hb3⟩
  obtain rfl : j = ys.length := by omega
  have hjI : ¬ (ys.length : Int) < (ys.length : Int) := by omega
  go_wp2
  go_roundw
  case rel => exact ⟨k + 1, by omega, by go_num, hb3, Lib.hid (by rw [hdr.out, HDR.out, HYS.out, hda.out, List.drop_length]; rfl)⟩
  case measure => simp [intOf]; omega
 ·obtain rfl : k = l.length := by omega
  have hkI : ¬ (l.length : Int) < (l.length : Int) := by omega
  go_wp2
  go_ret
  exact ⟨by rw [hdr.out, List.drop_length]; rfl, hb⟩
end Go.Proofs.YtbmglebipepdmaaGreatDoor
