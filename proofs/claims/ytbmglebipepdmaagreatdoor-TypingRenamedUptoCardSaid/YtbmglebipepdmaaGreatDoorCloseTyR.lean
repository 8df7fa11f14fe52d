/- The walk of the statement TypingRenamed: it returns true. Declarations of a size up to a bound. TypingRenamed: declarations whose names are all renamed have the same error, for all declarations; up to a bulk of 1048576 (the second form), the listed tables as the program's text lays them. -/
import Derived.Test.YtbmglebipepdmaaGreatDoorPkPlain
import Derived.Test.YtbmglebipepdmaaGreatDoorPkRound
import Derived.Test.YtbmglebipepdmaaGreatDoorPkTyp
import Derived.Test.YtbmglebipepdmaaGreatDoorPkMem
import Derived.Test.YtbmglebipepdmaaGreatDoorPkPara
import Derived.Test.YtbmglebipepdmaaGreatDoorPkParb
import Derived.Test.YtbmglebipepdmaaGreatDoorPkLex
import Derived.Test.YtbmglebipepdmaaGreatDoorPkPare
import Derived.Test.YtbmglebipepdmaaGreatDoorPkVala
import Derived.Test.YtbmglebipepdmaaGreatDoorPkValb
import Derived.Test.YtbmglebipepdmaaGreatDoorPkValc
import Derived.Test.YtbmglebipepdmaaGreatDoorPkFmta
import Derived.Test.YtbmglebipepdmaaGreatDoorPkFmtb
import Derived.Test.YtbmglebipepdmaaGreatDoorPkNms
import Derived.Test.YtbmglebipepdmaaGreatDoorPkTya
import Derived.Test.YtbmglebipepdmaaGreatDoorPkTyb
import Derived.Test.YtbmglebipepdmaaGreatDoorPkOpen
import Derived.Test.YtbmglebipepdmaaGreatDoorPkCheck
import Derived.Test.YtbmglebipepdmaaGreatDoorPkRefl
import Derived.Test.YtbmglebipepdmaaGreatDoorPkRefa
import Derived.Test.YtbmglebipepdmaaGreatDoorPkRefb
import Derived.Test.YtbmglebipepdmaaGreatDoorPkRefc
import Derived.Test.YtbmglebipepdmaaGreatDoorPkRefd
import Derived.Test.YtbmglebipepdmaaGreatDoorPkEq
import Derived.Test.YtbmglebipepdmaaGreatDoorPkHead
import Derived.Test.YtbmglebipepdmaaGreatDoorPkUses
import Derived.Test.YtbmglebipepdmaaGreatDoorPkAwt
import Derived.Test.YtbmglebipepdmaaGreatDoorRemTyR3
namespace Go.Proofs.YtbmglebipepdmaaGreatDoor
open Go.RowKit

theorem Lb {y : ByteArray} (h : bG y = true) : 0 < y.size := Nat.pos_of_ne_zero (oI h).2.2
theorem xA_size (y : ByteArray) : (xA y).size = y.size + 1 := by
 show (bs [120] ++ y).size = _
 rw [ByteArray.size_append]
 show 1 + y.size = _
 omega
theorem IE {l : List ByteArray} (h : bg l = true) : 2 * bf (l.map xA) ≤ 3 * bf l := by
 induction l with
 |nil => exact Nat.zero_le _
 |cons a r ih =>
  have h1 := Lb (List.all_eq_true.1 h a (List.mem_cons_self ..))
  have h2 := ih (List.all_eq_true.2 fun y hy => List.all_eq_true.1 h y (List.mem_cons_of_mem _ hy))
  have e1 : bf (a :: r) = a.size + 1 + bf r := by simp [bf]
  have e2 : bf ((a :: r).map xA) = (xA a).size + 1 + bf (r.map xA) := by simp [bf]
  rw [e1, e2, xA_size]
  omega
theorem ft_x {f : Ft} (h : jG f = true) : 2 * fC (ftX f) ≤ 3 * fC f := by
 obtain ⟨-, h2, h3⟩ := Km h
 have n1 := IE h2
 have n2 := IE h3
 have e1 : fC f = f.name.size + bf f.ay + bf f.ak + 1 := rfl
 have e2 : fC (ftX f) = (xE f.name).size + bf (f.ay.map xA) + bf (f.ak.map xA) + 1 := rfl
 have e3 : (xE f.name).size ≤ f.name.size + 1 ∧ (f.name.size = 0 → (xE f.name).size = 0) := by
  unfold xE
  split
  ·exact ⟨by omega, fun h => h⟩
  ·exact ⟨Nat.le_of_eq (xA_size _), fun h9 => by omega⟩
 rcases Nat.eq_zero_or_pos f.name.size with h0 | h0
 ·have := e3.2 h0; omega
 ·have := e3.1; omega
theorem fts_x {l : List Ft} (h : l.all jG = true) : 2 * ((l.map ftX).map fC).sum ≤ 3 * (l.map fC).sum := by
 induction l with
 |nil => exact Nat.zero_le _
 |cons a r ih =>
  rw [List.all_cons, Bool.and_eq_true] at h
  have h1 := ft_x h.1
  have h2 := ih h.2
  simp only [List.map_cons, List.sum_cons]
  omega
theorem dc_x {d : Dc} (h : jK d = true) : 2 * bE (dcX d) ≤ 3 * bE d + aY d ∧ aY (dcX d) ≤ 2 * aY d := by
 have ho := wO h
 have n1 := IE ho.names
 have n2 := fts_x ho.faults
 have n3 := xE_size d.name
 have n4 := xE_size d.use
 have n5 := Da _ d.term (Nat.le_refl _)
 have n6 := Da _ d.read (Nat.le_refl _)
 have n7 := Da _ d.write (Nat.le_refl _)
 have e1 : bE d = d.name.size + bf d.names + (d.faults.map fC).sum + au d.term + d.proto.size + au d.read + au d.write + d.use.size + 1 := rfl
 have e2 : aY d = au d.term + au d.read + au d.write + d.name.size + d.names.length + 10 * d.faults.length + d.proto.size + d.use.size := rfl
 have e3 : bE (dcX d) = (xE d.name).size + bf (d.names.map xA) + ((d.faults.map ftX).map fC).sum + au (dL xS d.term) + d.proto.size + au (dL xS d.read) + au (dL xS d.write) + (xE d.use).size + 1 := rfl
 have e4 : aY (dcX d) = au (dL xS d.term) + au (dL xS d.read) + au (dL xS d.write) + (xE d.name).size + (d.names.map xA).length + 10 * (d.faults.map ftX).length + d.proto.size + (xE d.use).size := rfl
 rw [List.length_map, List.length_map] at e4
 exact ⟨by omega, by omega⟩
theorem dcs_x {l : List Dc} (h : l.all jK = true) : 2 * ((l.map dcX).map bE).sum ≤ 3 * (l.map bE).sum + (l.map aY).sum ∧ ((l.map dcX).map aY).sum ≤ 2 * (l.map aY).sum := by
 induction l with
 |nil => exact ⟨Nat.zero_le _, Nat.zero_le _⟩
 |cons a r ih =>
  rw [List.all_cons, Bool.and_eq_true] at h
  have h1 := dc_x h.1
  have h2 := ih h.2
  simp only [List.map_cons, List.sum_cons]
  exact ⟨by omega, by omega⟩
theorem short_of {l : List Dc} (h : l.all rH = true) : ∀ d ∈ l, KD d := by
 intro d hd y hy
 have h1 := List.all_eq_true.1 h d hd
 have h2 : y ∈ ysOf d := by
  unfold ysOf
  rcases List.mem_cons.1 (by simpa [nJ] using hy : y ∈ d.name :: (d.names ++ fq d)) with rfl | hy
  ·simp
  rcases List.mem_append.1 hy with hy | hy
  ·simp [hy]
  ·have h3 : (lu d).contains y = true := by rw [tQ]; exact (nZ _ _).2 hy
   have := (nZ _ _).1 h3
   simp [this]
 have := of_decide_eq_true (List.all_eq_true.1 h1 y h2)
 omega
theorem Ht (l : List Dc) (A : Option Addr) (c : Nat) (w : World) (hf : Calls Tryz.prog 13 #[.slice A l.length c] w fun e w' => e = .returned (.tuple #[.string (bs (bH l).1), .int .i64 (bH l).2]) ∧ Below w.heap.size w w') :
  Calls Tryz.prog 22 #[.slice A l.length c] w fun e w' => e = .returned (.int .i64 (bH l).2) ∧ Below w.heap.size w w' := by
 have HF := Lib.hid hf
 clear hf
 go_enter Tryz.func22, Tryz.ntmps22
 go_wp2_with fail
 refine HF.out.mono ?_
 rintro e W1 ⟨rfl, h⟩
 go_wp2
 go_ret
 exact ⟨rfl, h⟩
theorem dc_ilim24 {d : Dc} (hs : bE d ≤ 1100000) (hf : aY d ≤ 10000) : ILim d := by
 have n1 := gN d.names
 have e1 : bE d = d.name.size + bf d.names + (d.faults.map fC).sum + au d.term + d.proto.size + au d.read + au d.write + d.use.size + 1 := rfl
 have e2 : aY d = au d.term + au d.read + au d.write + d.name.size + d.names.length + 10 * d.faults.length + d.proto.size + d.use.size := rfl
 exact ⟨by omega, by omega, fun f h => by have := pV f; have := wJ h; exact ⟨by omega, by omega⟩, by omega, by omega, by omega⟩
theorem Dq (l : List Dc) (h1 : (l.map aY).sum ≤ 10000) (h2 : l.all rH = true) (h3 : (bH l).2 = 0) (hsz : (l.map bE).sum ≤ 1100000) :
  dP (l.map dcX) = dP l ∧ fZ (l.map dcX) = (fZ l).map xA ∧ ((l.map dcX).map bE).sum ≤ 2000000 ∧ ((l.map dcX).map aY).sum ≤ 30000 := by
 have hok : l.all jK = true := by
  unfold bH at h3
  by_cases ho : l.all jK = true
  ·exact ho
  ·rw [if_neg ho] at h3; simp at h3
 have hx := dcs_x hok
 rw [map_dcX hok] at hx ⊢
 exact ⟨check_ren h3 (short_of h2), KJ h3, by omega, by omega⟩
set_option maxRecDepth 100000 in
set_option maxHeartbeats 8000000 in
theorem Io (l : List Dc) (A : Option Addr) (c : Nat) (w : World) (S : Nat → Prop) (hl : aT (fo w S) w S 22 A l) (hS : ∀ g, S g → g < w.heap.size) (hsz : (l.map bE).sum ≤ 1100000) (hpw : Pow w) :
  Calls Tryz.prog 6 #[.slice A l.length c] w fun e w' => e = .returned (.bool true) ∧ Below w.heap.size w w' := by
 have hll := iD l
 have hL := fun (W : World) (hW : Below w.heap.size w W) => (⟨hl.keep (P' := fo W S) (aA hW hS) (fun _ _ h => h.keep (aA hW hS)), fun g hg => by have := hS g hg; have := hW.size; omega⟩ : aT (fo W S) W S 22 A l ∧ ∀ g, S g → g < W.heap.size)
 have HFW := Lib.hid (fun (W : World) (hW : Below w.heap.size w W) => uM l A c W S (hL W hW).1 (hL W hW).2 hsz)
 have HAW := Lib.hid (fun (W : World) (hW : Below w.heap.size w W) => kE W (hpw.below hW))
 have HSH := Lib.hid (fun (W : World) (hW : Below w.heap.size w W) => short_ref l A c W S (hL W hW).1 (hL W hW).2 hsz)
 have HVA := Lib.hid (fun (h : decide ((l.map aY).sum ≤ 10000) = true) (W : World) (hW : Below w.heap.size w W) => Ht l A c W (Cj l A c W S (hL W hW).1 (hL W hW).2 hsz (fun d hd => by have := qj hd; have := xI hd; rw [decide_eq_true_eq] at h; exact ⟨Jm (by omega) (by omega), dc_ilim24 (by omega) (by omega)⟩) (hpw.below hW)))
 have HRN := Lib.hid (fun (W : World) (hW : Below w.heap.size w W) => Im l A c W S (hL W hW).1 (hL W hW).2 hsz)
 have HC1 := Lib.hid (fun (h : decide ((l.map aY).sum ≤ 10000) = true) (hn : ¬ (20 : Int) < (l.length : Int)) (W : World) (hW : Below w.heap.size w W) => nY l A c W S (hL W hW).1 (hL W hW).2 hsz (of_decide_eq_true h) (by omega) (hpw.below hW))
 have HU1 := Lib.hid (fun (W : World) (hW : Below w.heap.size w W) => sF l A c W S (hL W hW).1 (hL W hW).2 (by omega) (by omega))
 have HRP := Lib.hid (fun (h : decide ((l.map aY).sum ≤ 10000) = true) (h2 : l.all rH = true) (h3 : (bH l).2 = 0) => Dq l (of_decide_eq_true h) h2 h3 hsz)
 have HUL := Lib.hid (show (fZ l).length ≤ 1000000000 ∧ ∀ y ∈ fZ l, y.size ≤ 1000000000 from by
  have hu := lW l l
  unfold gB at hu
  refine ⟨by unfold fZ; omega, fun y hy => ?_⟩
  unfold fZ at hy
  obtain ⟨d, hd, hy⟩ := List.mem_flatMap.1 hy
  have hds := qj hd
  have e1 : bE d = d.name.size + bf d.names + (d.faults.map fC).sum + au d.term + d.proto.size + au d.read + au d.write + d.use.size + 1 := rfl
  split at hy
  ·rw [List.mem_singleton.1 hy]; omega
  ·cases hy)
 have HP := Lib.hid hpw
 generalize hz1 : decide ((l.map aY).sum ≤ 10000) = z1 at HFW HVA HC1 HRP
 generalize hz2 : l.all rH = z2 at HSH HRP
 obtain ⟨fe, hfe⟩ : ∃ fe, (bH l).2 = fe := ⟨_, rfl⟩
 rw [hfe] at HVA HRP
 have hw := Below.refl w.heap.size w
 clear hl hL hpw hz1 hz2 hfe
 go_enter Tryz.func6, Tryz.ntmps6
 rcases (by omega : (20 : Int) < (l.length : Int) ∨ ¬ (20 : Int) < (l.length : Int)) with h20 | h20
 case' inr => cases z1
 case' inr.true => cases z2
 case' inr.true.true => rcases Nat.eq_zero_or_pos fe with rfl | hfp
 case' inr.true.true.inr => have hne : ((fe : Int) != 0) = true := gY (show fe ≠ 0 by omega)
 case' inl | inr.false | inr.true.false | inr.true.true.inr =>
  go_wp2_with (first
   |((with_reducible refine (HAW.out _ hw).mono ?_); rintro e W1 ⟨rfl, h⟩; have hw := hw.trans (h.mono hw.size))
   |((with_reducible refine (HFW.out _ hw).mono ?_); rintro e W1 ⟨rfl, h⟩; have hw := hw.trans (h.mono hw.size))
   |((with_reducible refine (HSH.out _ hw).mono ?_); rintro e W1 ⟨rfl, h⟩; have hw := hw.trans (h.mono hw.size))
   |((with_reducible refine (HVA.out (by trivial) _ hw).mono ?_); rintro e W1 ⟨rfl, h⟩; have hw := hw.trans (h.mono hw.size)))
  go_ret
  exact ⟨rfl, hw⟩
 go_upto_region 4 with (first
   |((with_reducible refine (HAW.out _ hw).mono ?_); rintro e W1 ⟨rfl, h⟩; have hw := hw.trans (h.mono hw.size))
   |((with_reducible refine (HFW.out _ hw).mono ?_); rintro e W1 ⟨rfl, h⟩; have hw := hw.trans (h.mono hw.size))
   |((with_reducible refine (HSH.out _ hw).mono ?_); rintro e W1 ⟨rfl, h⟩; have hw := hw.trans (h.mono hw.size))
   |((with_reducible refine (HVA.out (by trivial) _ hw).mono ?_); rintro e W1 ⟨rfl, h⟩; have hw := hw.trans (h.mono hw.size))
   |((with_reducible refine (HRN.out _ hw).mono ?_); rintro e W3 ⟨v3, rfl, hrow, h⟩; obtain ⟨B, n3, rfl, hn3, hlist⟩ := hrow.list ng; have hw3 := hw.trans (h.mono hw.size)))
 obtain ⟨p1, p2, p3, p4⟩ := HRP.out (by trivial) (by trivial) (by trivial)
 have HL3 := Lib.hid (show aT (fo W3 (fun g => g < W3.heap.size)) W3 (fun g => g < W3.heap.size) 22 B (l.map dcX) from hlist.mono (fun g _ h => h) (by decide) (fun _ _ h => h.mono fun g _ h => h))
 have HC2 := Lib.hid (fun (W : World) (hW : Below W3.heap.size W3 W) => Cx (l.map dcX) B n3 W (fun g => g < W3.heap.size) (HL3.out.keep (P' := fo W (fun g => g < W3.heap.size)) (aP hW) (fun _ _ h => h.keep (aP hW))) (fun g hg => by have := hW.size; omega) p3 p4 (by rw [List.length_map]; omega) (HP.out.below (hw3.trans (hW.mono hw3.size))))
 have HU2 := Lib.hid (fun (W : World) (hW : Below W3.heap.size W3 W) => sF (l.map dcX) B n3 W (fun g => g < W3.heap.size) (HL3.out.keep (P' := fo W (fun g => g < W3.heap.size)) (aP hW) (fun _ _ h => h.keep (aP hW))) (fun g hg => by have := hW.size; omega) (by omega) (by rw [List.length_map]; omega))
 have HC1 := Lib.hid (HC1.out (by trivial) (by omega))
 unfold qo at HU1 HU2
 rw [p1, List.length_map] at HC2
 rw [p2, List.length_map, List.length_map] at HU2
 obtain ⟨⟨ck, ek⟩, hck⟩ : ∃ r, dP l = r := ⟨_, rfl⟩
 rw [hck] at HC1 HC2
 generalize fZ l = us at HU1 HU2 HUL
 have hul := HUL.out.1
 clear hlist hrow hck p1 p2 p3 p4 HRP HFW HSH HVA HRN HAW hw h hn3
 have h3 := Below.refl W3.heap.size W3
 go_wp2_with (first
  |((with_reducible refine (HC1.out _ (hw3.trans (h3.mono hw3.size))).mono ?_); rintro e W4 ⟨rfl, h⟩; have h3 := h3.trans (h.mono h3.size))
  |((with_reducible refine (HC2.out _ h3).mono ?_); rintro e W5 ⟨rfl, h⟩; have h3 := h3.trans (h.mono h3.size))
  |((with_reducible refine (HU1.out _ (hw3.trans (h3.mono hw3.size))).mono ?_); rintro e W6 ⟨v6, rfl, hown6, h⟩; obtain ⟨A6, n6, rfl, hn6⟩ := aS hown6; have h3 := h3.trans (h.mono h3.size); have HOT := Lib.hid (sM us (fun g => g < W6.heap.size) A6 n6 W6 ((aL.own hown6).mono (fun g _ h => h) (by decide)) (fun g hg => hg) hul HUL.out.2); clear hown6)
  |((with_reducible refine HOT.out.mono ?_); rintro e W7 ⟨v7, rfl, iA, h⟩; obtain ⟨A7, n7, rfl, hn7⟩ := aS iA; have h3 := h3.trans (h.mono h3.size); have HS7 := Lib.hid ((aL.own iA).mono (S' := fun g => g < W7.heap.size) (fun g _ h => h) (by decide)); clear iA HOT)
  |((with_reducible refine (HU2.out _ h3).mono ?_); rintro e W8 ⟨v8, rfl, mO, h8⟩; obtain ⟨A8, n8, rfl, hn8⟩ := aS mO; have h3 := h3.trans (h8.mono h3.size); have HEQ := Lib.hid (qg (us.map xA) A7 A8 n7 n8 W8 (fun g => g < W7.heap.size) _ (by rw [List.length_map]; exact HS7.out.keep (aP h8)) (by rw [List.length_map]; exact aL.own mO) (by rw [List.length_map]; exact hul)); rw [List.length_map] at HEQ; clear mO HS7)
  |((with_reducible refine HEQ.out.mono ?_); rintro e W9 ⟨rfl, h⟩; have h3 := h3.trans (h.mono h3.size)))
 go_ret
 exact ⟨by simp, hw3.trans (h3.mono hw3.size)⟩
end Go.Proofs.YtbmglebipepdmaaGreatDoor
namespace Go.Proofs.YtbmglebipepdmaaGreatDoor.tyrenamed
open Go.ChangeShapes Go.WideShapes Go.ChangeAt Go.RowKit

set_option maxRecDepth 100000 in
theorem contract (H : Type) (enc : TypeId × Value → H) (W : World) (base : Nat) (args : Array Value) (ds gs : List (DataW H)) (before : List MemPlace)
  (hval : ∀ (j : Nat) t v, Tryz.f6.params[j]? = some t → args[j]? = some v → Value.okWide Tryz.prog W .any base t v)
  (hW : DataW.Whole enc Tryz.prog Tryz.f6.params.toList Rows.typingRenamedSpec.vars false W args.toList ds gs before) (hL : laidMetH Tryz.prog Rows.typingRenamedUptoRow.laid W) (hk : Rows.uptoSmall H (ds ++ gs) = true) :
  Calls Tryz.prog 6 args W fun e W' => ∃ v, e = .returned v ∧ Rows.typingRenamedSpec.post enc Tryz.prog Tryz.f6 false true false false W args v W' := by
 have hW' := hW
 obtain ⟨p, q, hA0, hV, rfl, hfz, hnd⟩ := hW
 have hA : DataW.TrodAll enc Tryz.prog W 0 (fun _ => true) true Tryz.f6.params.toList args.toList ds p := hA0
 rw [Tryz.params6] at hA hval
 obtain ⟨v0, vs0, d0, ds0, p0, q0, hargs, rfl, rfl, h0, r0⟩ := trodAll_cons hA
 obtain ⟨rfl, rfl, rfl⟩ := trodAll_nil r0
 obtain rfl : args = #[v0] := by cases args; simp_all
 obtain ⟨rfl, rfl⟩ := trodVars_none hV
 clear hA0
 have o0 := hval 0 22 v0 rfl rfl
 obtain ⟨A, c, l, rfl, hl, hlc, hsz⟩ := pJ o0 h0
 have hbk := lN hk
 simp only [List.append_nil, Rows.uptoBulkAll] at hbk
 refine (Io l A c W (· < W.heap.size) hl (fun g h => h) (by omega) (kC hL)).mono fun e W' hh => ?_
 rw [hh.1]
 exact ⟨_, rfl, nX (by kernel_rfl) rfl rfl hW' rfl hh.2⟩

set_option maxRecDepth 100000 in
theorem reads (os : Os) {H : Type} (enc : TypeId × Value → H) : ∃ places, DataW.whole enc Tryz.prog ((gW os).forCall (fun _ _ => 0) ⟨#[], #[.slice none 0 0], []⟩).memory Tryz.f6.params.toList Rows.typingRenamedSpec.vars false (#[.slice none 0 0] : Array Value).toList 8 = some ([.nil], [], places) :=
 ⟨[], by kernel_rfl⟩

set_option maxRecDepth 100000 in
theorem lifted (os : Os) (started : os.Started) (H : Type) (enc : TypeId × Value → H) (F : Stop.Interp) :
  ReturnsInHanded {} Tryz.checked os 6 .any ((Rows.OpenSpec.upto Rows.typingRenamedSpec).preRow enc Tryz.prog Tryz.f6 Rows.typingRenamedUptoRow.domain false Rows.typingRenamedUptoRow.laid) (((Rows.OpenSpec.upto Rows.typingRenamedSpec).at F).post enc Tryz.prog Tryz.f6 false true false false) := by
 obtain ⟨places, hx⟩ := reads os enc
 refine returnsInHanded_of_row (C := Tryz.checked) (s := Rows.OpenSpec.upto Rows.typingRenamedSpec) qH started (by kernel_rfl) Tryz.func6
  (witness_row_at (enc := enc) (C := Tryz.checked) false (gW os) #[.slice none 0 0] rfl (by kernel_rfl) (by kernel_rfl) (by kernel_rfl)
   (OpenSpec.preRow_of_cond 8 hx (by kernel_rfl) (fun k hk => by cases hk; kernel_rfl) (by kernel_rfl) (qK os _))) ?_
 intro W base args ds gs before hval hW _ hcond _ hL _ _
 exact contract H enc W base args ds gs before hval hW hL (hcond _ rfl)

theorem said : Rows.TypingRenamedUptoSaid :=
 OpenClaim.holds_of_cond 6 Tryz.f6 rfl rfl rfl rfl rfl rfl rfl ⟨rfl, rfl, rfl, rfl, rfl⟩ rfl rfl rfl rfl rfl (by kernel_rfl) Tryz.func6 (by kernel_rfl)
  (of_decide_eq_true (by kernel_rfl)) (by unfold Func.isWrapper; first | (rw [if_pos (by decide +kernel)]; kernel_rfl) | (rw [if_neg (by decide +kernel)]; exact ⟨rfl, rfl⟩))
  (fun os started H enc _ F => by rw [OpenClaim.pre_eq_preRow]; exact lifted os started H enc F)

set_option maxRecDepth 100000 in
theorem plain (f : FuncId) (fn : Func) (hf : Tryz.pinned.checked.prog.funcNamed "sederunt/sederuntlaw24.TypingRenamed" = some f) (hfn : Tryz.pinned.checked.prog.funcs[f]? = some fn) :
  false = Tryz.pinned.checked.prog.looks [] ∧ ∀ (j : Nat) t, fn.params[j]? = some t → Tryz.pinned.checked.prog.wantsStandIn t = false := by
 obtain rfl : f = 6 := Option.some.inj ((show Tryz.prog.funcNamed "sederunt/sederuntlaw24.TypingRenamed" = some 6 by kernel_rfl).symm.trans hf) |>.symm
 obtain rfl : fn = Tryz.f6 := (Option.some.inj (Tryz.func6.symm.trans hfn)).symm
 refine ⟨by kernel_rfl, fun j t ht => ?_⟩
 rw [Tryz.params6] at ht
 have hm : t ∈ [22] := by simpa using Array.mem_of_getElem? ht
 have hall : ([22].all fun u => !Tryz.prog.wantsStandIn u) = true := by kernel_rfl
 exact (show Tryz.prog.wantsStandIn t = false by simpa using List.all_eq_true.1 hall t hm)

theorem card : Rows.TypingRenamedUptoCardSaid :=
 Claim7.holds_tied_plain_at .later [] _ _ _ _ said (fun _ h => by cases h) (by kernel_rfl) (fun _ h => by cases h) typingRenamedUpto_row_tie rfl ⟨rfl, rfl⟩ (by kernel_rfl) rfl plain (by kernel_rfl)
#print axioms card
end Go.Proofs.YtbmglebipepdmaaGreatDoor.tyrenamed
