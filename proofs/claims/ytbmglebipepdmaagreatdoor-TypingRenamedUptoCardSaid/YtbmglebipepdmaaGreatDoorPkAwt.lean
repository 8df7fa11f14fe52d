/- The contracts of Check at any declarations, and of the law's check and awake: the examples of the chapter hold. Declarations of a size up to a bound. What the laws of typing share: a beginning of a list in memory, the lists as they are read in later worlds. No condition. -/
import Derived.Test.YtbmglebipepdmaaGreatDoorPkTyp
import Derived.Test.YtbmglebipepdmaaGreatDoorPkCheck
import Derived.Test.YtbmglebipepdmaaGreatDoorPkUses
import Derived.Test.YtbmglebipepdmaaGreatDoorPkRefd
import Derived.Test.YtbmglebipepdmaaGreatDoorPkNms
namespace Go.Proofs.YtbmglebipepdmaaGreatDoor
open Go.RowKit

theorem qg (ns : List ByteArray) (A1 A2 : Option Addr) (c1 c2 : Nat) (w : World) (S1 S2 : Nat → Prop) (h1 : aL w S1 1 A1 ns.length (aC ns)) (h2 : aL w S2 1 A2 ns.length (aC ns)) (hn : ns.length ≤ 1000000000) :
  Calls Tryz.prog 16 #[.slice A1 ns.length c1, .slice A2 ns.length c2] w fun e w' => e = .returned (.bool true) ∧ Below w.heap.size w w' := by
 rcases Nat.eq_zero_or_pos ns.length with h0 | h0
 ·rw [h0]
  refine (Tryz.slices_Equal_string_empty A1 A2 c1 0 c2 w (by omega)).mono fun e w' h => ⟨by rw [h.1]; rfl, by rw [h.2]; exact Below.refl _ _⟩
 ·obtain ⟨g1, o1, rfl, _, k1⟩ := h1.2 h0
  obtain ⟨g2, o2, rfl, _, k2⟩ := h2.2 h0
  refine (Tryz.slices_Equal_string g1 o1 ns.length c1 g2 o2 ns.length c2 ns ns w (Nat.le_refl _) (Nat.le_refl _) (by omega) (by omega) (fun j hj => k1 j _ (iW ns j hj)) (fun j hj => k2 j _ (iW ns j hj))).mono fun e w' h => ⟨by rw [h.1]; simp, ?_⟩
  obtain ⟨q, rfl⟩ := h.2
  exact below_drewN (Below.refl _ _) _
theorem Jm {d : Dc} (hs : bE d ≤ 2000000) (hf : aY d ≤ 30000) : TLim d := by
 have n1 := gN d.names
 have e1 : bE d = d.name.size + bf d.names + (d.faults.map fC).sum + au d.term + d.proto.size + au d.read + au d.write + d.use.size + 1 := rfl
 have e2 : aY d = au d.term + au d.read + au d.write + d.name.size + d.names.length + 10 * d.faults.length + d.proto.size + d.use.size := rfl
 have hft : ∀ f ∈ d.faults, f.ay.length + f.ak.length ≤ 2000000 := fun f h => by
  have := pV f
  have := wJ h
  omega
 exact ⟨by omega, by omega, fun f h => by have := hft f h; omega, by omega, by omega, by omega⟩
theorem Cx (l : List Dc) (A : Option Addr) (c : Nat) (w : World) (S : Nat → Prop) (hl : aT (fo w S) w S 22 A l) (hS : ∀ g, S g → g < w.heap.size) (hsz : (l.map bE).sum ≤ 2000000) (oo : (l.map aY).sum ≤ 30000) (hlk : l.length ≤ 1000000) (hpw : Pow w) :
  Calls Tryz.prog 12 #[.slice A l.length c] w fun e w' => e = .returned (.tuple #[.int .i64 (dP l).1, .int .i64 (dP l).2]) ∧ Below w.heap.size w w' := by
 exact check_any l A c w S hl hS hsz oo hlk (valid_any l A c w S hl hS (by omega) (fun d hd => Jm (by have := qj hd; omega) (by have := xI hd; omega)) (fun h => by have := wM l h; omega) hpw)
theorem nY (l : List Dc) (A : Option Addr) (c : Nat) (w : World) (S : Nat → Prop) (hl : aT (fo w S) w S 22 A l) (hS : ∀ g, S g → g < w.heap.size) (hsz : (l.map bE).sum ≤ 1100000) (oo : (l.map aY).sum ≤ 10000) (hlk : l.length ≤ 1000000) (hpw : Pow w) :
  Calls Tryz.prog 12 #[.slice A l.length c] w fun e w' => e = .returned (.tuple #[.int .i64 (dP l).1, .int .i64 (dP l).2]) ∧ Below w.heap.size w w' := Cx l A c w S hl hS (by omega) (by omega) hlk hpw
set_option maxHeartbeats 1000000 in
theorem wS (s : ByteArray) (l : List Dc) (hp : dQ 5 s.data.toList = (l, 0, 0)) (r : Int × Nat) (hr : dP l = r) (hsz : (l.map bE).sum ≤ 1000000) (oo : (l.map aY).sum ≤ 10000) (w : World) (hpw : Pow w) :
  Calls Tryz.prog 34 #[.string s] w fun e w' => e = .returned (.tuple #[.int .i64 r.1, .int .i64 r.2]) ∧ Below w.heap.size w w' := by
 have P := Lib.hid (show Calls Tryz.prog 14 #[.string s] w (GZ (l, 0, 0) w) by have h := Dv s w; rw [hp] at h; exact h)
 have C := Lib.hid (fun (W : World) (S : Nat → Prop) (A : Option Addr) (c : Nat) (hl : aT (fo W S) W S 22 A l) (hS : ∀ g, S g → g < W.heap.size) (hpw : Pow W) => nY l A c W S hl hS (by omega) oo (by have := iD l; omega) hpw)
 rw [hr] at C
 obtain ⟨r1, r2⟩ := r
 have HP := Lib.hid hpw
 clear hp hr hpw
 go_enter Tryz.func34, Tryz.ntmps34
 go_wp2_with fail
 refine P.out.mono ?_
 rintro e W1 ⟨A1, c1, rfl, hc1, hl1, hb1⟩
 have HC := Lib.hid (C.out W1 (fun g => w.heap.size ≤ g ∧ g < W1.heap.size) A1 c1 (hl1.mono (fun g h1 h2 => ⟨h1, h2⟩) (by decide) (fun _ _ h => h.mono fun g h1 h2 => ⟨h1, h2⟩)) (fun g hg => hg.2) (HP.out.below hb1))
 clear hl1
 go_wp2_with fail
 refine HC.out.mono ?_
 rintro e W2 ⟨rfl, hb2⟩
 go_wp2
 go_ret2
 exact ⟨rfl, hb1.trans (hb2.mono hb1.size)⟩
theorem pair0 {α : Type} {r : α × Nat × Nat} (h : r.2 = (0, 0)) : r = (r.1, 0, 0) := by rw [← h]
theorem JH : ((dQ 5 yV).1.map bE).sum ≤ 1000000 ∧ ((dQ 5 yV).1.map aY).sum ≤ 10000 := ⟨of_decide_eq_true (by kernel_rfl), of_decide_eq_true (by kernel_rfl)⟩
theorem JG : ((dQ 5 yU).1.map bE).sum ≤ 1000000 ∧ ((dQ 5 yU).1.map aY).sum ≤ 10000 := ⟨of_decide_eq_true (by kernel_rfl), of_decide_eq_true (by kernel_rfl)⟩
theorem JF : ((dQ 5 yT).1.map bE).sum ≤ 1000000 ∧ ((dQ 5 yT).1.map aY).sum ≤ 10000 := ⟨of_decide_eq_true (by kernel_rfl), of_decide_eq_true (by kernel_rfl)⟩
theorem JE : ((dQ 5 yS).1.map bE).sum ≤ 1000000 ∧ ((dQ 5 yS).1.map aY).sum ≤ 10000 := ⟨of_decide_eq_true (by kernel_rfl), of_decide_eq_true (by kernel_rfl)⟩
theorem ty_size5 : ((dQ 5 ug).1.map bE).sum ≤ 10000000 ∧ (dQ 5 ug).1.length ≤ 10000000 := ⟨of_decide_eq_true (by kernel_rfl), of_decide_eq_true (by kernel_rfl)⟩

set_option maxRecDepth 100000 in
set_option maxHeartbeats 4000000 in
theorem kE (w : World) (hpw : Pow w) : Calls Tryz.prog 10 #[] w fun e w' => e = .returned (.bool true) ∧ Below w.heap.size w w' := by
 have HP := Lib.hid hpw
 have P1 := Lib.hid (fun (W : World) (hW : Below w.heap.size w W) => wS (bs yV) _ (by rw [eZ]; exact pair0 ty_parse1) (0, 0) ty_check1 JH.1 JH.2 W (HP.out.below hW))
 have P2 := Lib.hid (fun (W : World) (hW : Below w.heap.size w W) => wS (bs yU) _ (by rw [eZ]; exact pair0 ty_parse2) (3, 11) ty_check2 JG.1 JG.2 W (HP.out.below hW))
 have P3 := Lib.hid (fun (W : World) (hW : Below w.heap.size w W) => wS (bs yT) _ (by rw [eZ]; exact pair0 ty_parse3) (4, 12) ty_check3 JF.1 JF.2 W (HP.out.below hW))
 have P4 := Lib.hid (fun (W : World) (hW : Below w.heap.size w W) => wS (bs yS) _ (by rw [eZ]; exact pair0 ty_parse4) (4, 5) ty_check4 JE.1 JE.2 W (HP.out.below hW))
 obtain ⟨l5, hl5⟩ : ∃ l5, l5 = (dQ 5 ug).1 := ⟨_, rfl⟩
 have P5 := Lib.hid (fun (W : World) => show Calls Tryz.prog 14 #[.string (bs ug)] W (GZ (l5, 0, 0) W) by have h := Dv (bs ug) W; rw [eZ, pair0 ty_parse5, ← hl5] at h; exact h)
 have hz5 := ty_size5
 have hu5 := ty_uses
 rw [← hl5] at hz5 hu5
 have HU := Lib.hid (fun (W : World) (S : Nat → Prop) (A : Option Addr) (c : Nat) (hl : aT (fo W S) W S 22 A l5) (hS : ∀ g, S g → g < W.heap.size) => show Calls Tryz.prog 17 #[.slice A l5.length c, .string (bs [113])] W (fun e w' => ∃ v, e = .returned v ∧ w'.ownsRow W.heap.size 9 1 v 1 (aC [bs [99, 49]]) ∧ Below W.heap.size W w') by
  have h := CY l5 A c (bs [113]) W S hl hS hz5.1 hz5.2
  unfold tK at h
  rw [hu5] at h
  exact h)
 clear hpw hl5 hz5 hu5
 go_enter Tryz.func10, Tryz.ntmps10
 go_wp2_with fail
 refine (P1.out w (Below.refl _ _)).mono ?_
 rintro e W1 ⟨rfl, hb1⟩
 go_wp2_with fail
 refine (P2.out W1 hb1).mono ?_
 rintro e W2 ⟨rfl, hb2⟩
 have hw2 := hb1.trans (hb2.mono hb1.size)
 clear hb1 hb2
 go_wp2_with fail
 refine (P3.out W2 hw2).mono ?_
 rintro e W3 ⟨rfl, hb3⟩
 have hw3 := hw2.trans (hb3.mono hw2.size)
 clear hw2 hb3
 go_wp2_with fail
 refine (P4.out W3 hw3).mono ?_
 rintro e W4 ⟨rfl, hb4⟩
 have hw4 := hw3.trans (hb4.mono hw3.size)
 clear hw3 hb4
 go_wp2_with fail
 refine (P5.out W4).mono ?_
 rintro e W5 ⟨A5, c5, rfl, hc5, hl5, hb5⟩
 have hw5 := hw4.trans (hb5.mono hw4.size)
 have HU5 := Lib.hid (HU.out W5 (fun g => W4.heap.size ≤ g ∧ g < W5.heap.size) A5 c5 (hl5.mono (fun g h1 h2 => ⟨h1, h2⟩) (by decide) (fun _ _ h => h.mono fun g h1 h2 => ⟨h1, h2⟩)) (fun g hg => hg.2))
 clear hw4 hb5 hl5
 go_wp2_with fail
 refine HU5.out.mono ?_
 rintro e W6 ⟨v6, rfl, hown6, hb6⟩
 obtain ⟨A6, c6, rfl, hc6⟩ := aS hown6
 have hw6 := hw5.trans (hb6.mono hw5.size)
 have hrow : (W6.alloc (.cells #[.string (bs [99, 49])] 9 (0, 0))).heap[W6.heap.size]? = some (.cells #[.string (bs [99, 49])] 9 (0, 0)) := heap_alloc_new W6 _
 have HE := Lib.hid (qg [bs [99, 49]] A6 (some ⟨W6.heap.size, 0, none⟩) c6 1 (W6.alloc (.cells #[.string (bs [99, 49])] 9 (0, 0))) _ (fun g => g = W6.heap.size) ((aL.own hown6).keep (aP ((Below.refl _ _).alloc (Nat.le_refl _) _)))
  ⟨by simp [aC], fun _ => ⟨W6.heap.size, 0, rfl, rfl, fun j u hu => by rw [cell_of_row _ _ (0 + j) _ _ _ hrow]; simpa [aC] using hu⟩⟩ (by simp))
 clear hown6 hb6 hrow
 go_wp2_with fail
 refine HE.out.mono ?_
 rintro e W7 ⟨rfl, hb7⟩
 go_wp2
 go_ret
 exact ⟨rfl, (hw6.alloc hw6.size _).trans (hb7.mono (by have := hw6.size; simp; omega))⟩
end Go.Proofs.YtbmglebipepdmaaGreatDoor
namespace Go.Proofs.YtbmglebipepdmaaGreatDoor
open Go.RowKit

theorem cells_len {l : List Value} {size : Nat} (h : ∀ u ∈ l, (cellsOf u).length = size) : (l.flatMap cellsOf).length = l.length * size := by
 induction l with
 |nil => simp
 |cons x r ih => rw [List.flatMap_cons, List.length_append, ih (fun u hu => h u (List.mem_cons_of_mem _ hu)), h x (List.mem_cons_self ..), List.length_cons, Nat.succ_mul]; omega
theorem aT.first {α : Type} {P : α → Value → Prop} {w : World} {S : Nat → Prop} {size : Nat} {A : Option Addr} {l : List α} (h : aT P w S size A l) (hP : ∀ x v, P x v → (cellsOf v).length = size) (m : Nat) : aT P w S size A (l.take m) := by
 obtain ⟨vs, h1, h2, h3⟩ := h
 have hv : ∀ u ∈ vs, (cellsOf u).length = size := fun u hu => by
  obtain ⟨i, hi, rfl⟩ := List.getElem_of_mem hu
  exact hP _ _ (h3 i (l[i]'(by omega)) vs[i] (List.getElem?_eq_getElem _) (List.getElem?_eq_getElem _))
 refine ⟨vs.take m, by simp [h1], ⟨?_, fun h0 => ?_⟩, fun i x v hx hu => ?_⟩
 ·rw [cells_len (fun u hu => hv u (List.mem_of_mem_take hu))]; simp [h1]
 ·obtain ⟨g, o, e, hS, hc⟩ := h2.cells (by rw [List.length_take] at h0; omega)
  refine ⟨g, o, e, hS, fun j u hu => hc j u ?_⟩
  rw [← List.take_append_drop m vs, List.flatMap_append, List.getElem?_append_left (List.getElem?_eq_some_iff.1 hu).1]
  exact hu
 ·rw [List.getElem?_take] at hx hu
  split at hx
  ·rw [if_pos (by assumption)] at hu; exact h3 i x v hx hu
  ·cases hx
theorem addr_zero (a : Addr) : a.add 0 = a := by unfold Addr.add; split <;> simp_all
theorem Ff {α : Type} (f : α → Nat) (l : List α) (k : Nat) : ((l.take k).map f).sum ≤ (l.map f).sum := by
 conv => rhs; rw [← List.take_append_drop k l, List.map_append, List.sum_append]
 omega
end Go.Proofs.YtbmglebipepdmaaGreatDoor
