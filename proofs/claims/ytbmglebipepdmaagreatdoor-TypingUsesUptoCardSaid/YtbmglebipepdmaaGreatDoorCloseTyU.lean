/- The walk of the statement TypingUses: it returns true. Declarations of a size up to a bound. gZ by gen_tylaws.py. TypingUses: Uses returns what uses a name, and Unused what nothing uses, as the reference does, for all declarations and names; up to a bulk of 1048576 (the second form), the listed tables as the program's text lays them. -/
import Derived.Test.YtbmglebipepdmaaGreatDoorPkPlain
import Derived.Test.YtbmglebipepdmaaGreatDoorPkRound
import Derived.Test.YtbmglebipepdmaaGreatDoorPkTyp
import Derived.Test.YtbmglebipepdmaaGreatDoorPkMem
import Derived.Test.YtbmglebipepdmaaGreatDoorPkPara
import Derived.Test.YtbmglebipepdmaaGreatDoorPkParb
import Derived.Test.YtbmglebipepdmaaGreatDoorPkLex
import Derived.Test.YtbmglebipepdmaaGreatDoorPkPare
import Derived.Test.YtbmglebipepdmaaGreatDoorPkVala
import Derived.Test.YtbmglebipepdmaaGreatDoorPkValb
import Derived.Test.YtbmglebipepdmaaGreatDoorPkValc
import Derived.Test.YtbmglebipepdmaaGreatDoorPkFmta
import Derived.Test.YtbmglebipepdmaaGreatDoorPkFmtb
import Derived.Test.YtbmglebipepdmaaGreatDoorPkNms
import Derived.Test.YtbmglebipepdmaaGreatDoorPkTya
import Derived.Test.YtbmglebipepdmaaGreatDoorPkTyb
import Derived.Test.YtbmglebipepdmaaGreatDoorPkOpen
import Derived.Test.YtbmglebipepdmaaGreatDoorPkCheck
import Derived.Test.YtbmglebipepdmaaGreatDoorPkRefl
import Derived.Test.YtbmglebipepdmaaGreatDoorPkRefa
import Derived.Test.YtbmglebipepdmaaGreatDoorPkRefb
import Derived.Test.YtbmglebipepdmaaGreatDoorPkRefc
import Derived.Test.YtbmglebipepdmaaGreatDoorPkRefd
import Derived.Test.YtbmglebipepdmaaGreatDoorPkEq
import Derived.Test.YtbmglebipepdmaaGreatDoorPkHead
import Derived.Test.YtbmglebipepdmaaGreatDoorPkUses
import Derived.Test.YtbmglebipepdmaaGreatDoorPkAwt
import Derived.Test.YtbmglebipepdmaaGreatDoorRemTyU
namespace Go.Proofs.YtbmglebipepdmaaGreatDoor
open Go.RowKit

set_option maxRecDepth 100000 in
set_option maxHeartbeats 8000000 in
theorem uses_law24 (l : List Dc) (A : Option Addr) (c : Nat) (name : ByteArray) (w : World) (S : Nat → Prop) (hl : bG (jE w S) w S 22 A l) (_ : l.length ≤ c) (hS : ∀ g, S g → g < w.heap.size) (hsz : (l.map d9).sum ≤ 1100000) (hpw : Pow w) :
    Calls Tryz.prog 5 #[.slice A l.length c, .string name] w fun e w' => e = .returned (.bool true) ∧ Below w.heap.size w w' := by
  have HP := Lib.hid hpw
  have hL := fun (W : World) (hW : Below w.heap.size w W) => (⟨hl.keep (P' := jE W S) (aF hW hS) (fun _ _ h => h.keep (aF hW hS)), fun g hg => by have := hS g hg; have := hW.size; omega⟩ : bG (jE W S) W S 22 A l ∧ ∀ g, S g → g < W.heap.size)
  have HFW := Lib.hid (fun (W : World) (hW : Below w.heap.size w W) => few_ref l A c W S (hL W hW).1 (hL W hW).2 hsz)
  have HAW := Lib.hid (fun (W : World) (hW : Below w.heap.size w W) => IZ W (HP.out.below hW))
  by_cases h20 : l.length ≤ 20
  · have hI20 : ¬ ((20 : Int) < (l.length : Int)) := by omega
    by_cases Ak : (l.map dF).sum ≤ 10000
    · rw [decide_eq_true Ak] at HFW
      have hll := uh l
      have HU1 := Lib.hid (fun (W : World) (hW : Below w.heap.size w W) => Jd l A c name W S (hL W hW).1 (hL W hW).2 (by omega) (by omega))
      have HU2 := Lib.hid (fun (W : World) (hW : Below w.heap.size w W) => Ja l A c name W S (hL W hW).1 (hL W hW).2 (by omega) (by omega))
      have HV1 := Lib.hid (fun (W : World) (hW : Below w.heap.size w W) => unused_any l A c W S (hL W hW).1 (hL W hW).2 (by omega) (by omega))
      have HV2 := Lib.hid (fun (W : World) (hW : Below w.heap.size w W) => unused_ref l A c W S (hL W hW).1 (hL W hW).2 (by omega) (by omega))
      obtain ⟨us, hus⟩ : ∃ us, us = tyUses l name := ⟨_, rfl⟩
      obtain ⟨vs, hvs⟩ : ∃ vs, vs = mQ l := ⟨_, rfl⟩
      unfold Ka at HU1 HU2
      unfold Mj at HV1 HV2
      rw [← hus] at HU1 HU2
      rw [← hvs] at HV1 HV2
      have hul : us.length ≤ 1100000 := by rw [hus]; have := uses_len l name; omega
      have hvl : vs.length ≤ 1100000 := by rw [hvs]; have := Ec l l; unfold mP at this; unfold mQ; omega
      clear hl hsz hpw hL Ak hus hvs hll
      go_enter Tryz.func5, Tryz.ntmps5
      go_wp2_with fail
      refine (HAW.out _ (Below.refl _ _)).mono ?_
      rintro e W1 ⟨rfl, hb1⟩
      go_wp2_with fail
      refine (HFW.out W1 hb1).mono ?_
      rintro e W2 ⟨rfl, hb2⟩
      have hw2 := hb1.trans (hb2.mono hb1.size)
      clear hb1 hb2
      go_wp2_with fail
      refine (HU1.out W2 hw2).mono ?_
      rintro e W3 ⟨v3, rfl, hown3, hb3⟩
      obtain ⟨A3, c3, rfl, hc3⟩ := bV hown3
      have hw3 := hw2.trans (hb3.mono hw2.size)
      go_wp2_with fail
      refine (HU2.out W3 hw3).mono ?_
      rintro e W4 ⟨v4, rfl, kS, hb4⟩
      obtain ⟨A4, c4, rfl, hc4⟩ := bV kS
      have hw4 := hw3.trans (hb4.mono hw3.size)
      have HE := Lib.hid (LG us A3 A4 c3 c4 W4 _ _ ((aV.own hown3).keep (aW hb4)) (aV.own kS) (by omega))
      clear hown3 kS
      go_wp2_with fail
      refine HE.out.mono ?_
      rintro e W5 ⟨rfl, hb5⟩
      have hw5 := hw4.trans (hb5.mono hw4.size)
      go_wp2_with fail
      refine (HV1.out W5 hw5).mono ?_
      rintro e W6 ⟨v6, rfl, hown6, hb6⟩
      obtain ⟨A6, c6, rfl, hc6⟩ := bV hown6
      have hw6 := hw5.trans (hb6.mono hw5.size)
      go_wp2_with fail
      refine (HV2.out W6 hw6).mono ?_
      rintro e W7 ⟨v7, rfl, Ik, hb7⟩
      obtain ⟨A7, c7, rfl, hc7⟩ := bV Ik
      have hw7 := hw6.trans (hb7.mono hw6.size)
      have HE2 := Lib.hid (LG vs A6 A7 c6 c7 W7 _ _ ((aV.own hown6).keep (aW hb7)) (aV.own Ik) (by omega))
      clear hown6 Ik
      go_wp2_with fail
      refine HE2.out.mono ?_
      rintro e W8 ⟨rfl, hb8⟩
      go_wp2
      go_ret
      exact ⟨rfl, hw7.trans (hb8.mono hw7.size)⟩
    · rw [decide_eq_false Ak] at HFW
      clear hl hsz hpw hL Ak
      go_enter Tryz.func5, Tryz.ntmps5
      go_wp2_with fail
      refine (HAW.out _ (Below.refl _ _)).mono ?_
      rintro e W1 ⟨rfl, hb1⟩
      go_wp2_with fail
      refine (HFW.out W1 hb1).mono ?_
      rintro e W2 ⟨rfl, hb2⟩
      have hw2 := hb1.trans (hb2.mono hb1.size)
      go_wp2_with fail
      refine (HAW.out W2 hw2).mono ?_
      rintro e W3 ⟨rfl, hb3⟩
      go_wp2
      go_ret
      exact ⟨rfl, hw2.trans (hb3.mono hw2.size)⟩
  · have hI20 : (20 : Int) < (l.length : Int) := by omega
    clear hl hsz hpw hL HFW
    go_enter Tryz.func5, Tryz.ntmps5
    go_wp2_with fail
    refine (HAW.out _ (Below.refl _ _)).mono ?_
    rintro e W1 ⟨rfl, hb1⟩
    go_wp2_with fail
    refine (HAW.out W1 hb1).mono ?_
    rintro e W3 ⟨rfl, hb3⟩
    go_wp2
    go_ret
    exact ⟨rfl, hb1.trans (hb3.mono hb1.size)⟩
end Go.Proofs.YtbmglebipepdmaaGreatDoor
namespace Go.Proofs.YtbmglebipepdmaaGreatDoor.tyuses
open Go.ChangeShapes Go.WideShapes Go.ChangeAt Go.RowKit

set_option maxRecDepth 100000 in
theorem contract (H : Type) (enc : TypeId × Value → H) (W : World) (base : Nat) (args : Array Value) (ds gs : List (DataW H)) (before : List MemPlace)
    (hval : ∀ (j : Nat) t v, Tryz.f5.params[j]? = some t → args[j]? = some v → Value.okWide Tryz.prog W .any base t v)
    (hW : DataW.Whole enc Tryz.prog Tryz.f5.params.toList Rows.typingUsesSpec.vars false W args.toList ds gs before) (hL : laidMetH Tryz.prog Rows.typingUsesUptoRow.laid W) (hk : Rows.uptoSmall H (ds ++ gs) = true) :
    Calls Tryz.prog 5 args W fun e W' => ∃ v, e = .returned v ∧ Rows.typingUsesSpec.post enc Tryz.prog Tryz.f5 false true false false W args v W' := by
  have hW' := hW
  obtain ⟨p, q, hA0, hV, rfl, hfz, hnd⟩ := hW
  have hA : DataW.TrodAll enc Tryz.prog W 0 (fun _ => true) true Tryz.f5.params.toList args.toList ds p := hA0
  rw [Tryz.params5] at hA hval
  obtain ⟨v0, vs0, d0, ds0, p0, q0, hargs, rfl, rfl, h0, r0⟩ := trodAll_cons hA
  obtain ⟨v1, vs1, d1, ds1, p1, q1, rfl, rfl, rfl, h1, r1⟩ := trodAll_cons r0
  obtain ⟨rfl, rfl, rfl⟩ := trodAll_nil r1
  obtain rfl : args = #[v0, v1] := by cases args; simp_all
  obtain ⟨rfl, rfl⟩ := trodVars_none hV
  clear hA0
  have o0 := hval 0 22 v0 rfl rfl
  have o1 := hval 1 9 v1 rfl rfl
  obtain ⟨A, c, l, rfl, hl, hlc, hsz⟩ := KD o0 h0
  obtain ⟨s, rfl, rfl, rfl, ws⟩ := Go.ChangeMaps.open_string Tryz.underlying9 o1 h1
  have hbk := Mg hk
  simp only [List.cons_append, List.nil_append, Rows.uptoBulkAll] at hbk
  refine (uses_law24 l A c s W (· < W.heap.size) hl hlc (fun g h => h) (by omega) (He hL)).mono fun e W' hh => ?_
  rw [hh.1]
  exact ⟨_, rfl, close_law (by kernel_rfl) rfl rfl hW' rfl hh.2⟩

set_option maxRecDepth 100000 in
theorem reads (os : Os) {H : Type} (enc : TypeId × Value → H) : ∃ places, DataW.whole enc Tryz.prog ((zB os).forCall (fun _ _ => 0) ⟨#[], #[.slice none 0 0, .string ⟨#[]⟩], []⟩).memory Tryz.f5.params.toList Rows.typingUsesSpec.vars false (#[.slice none 0 0, .string ⟨#[]⟩] : Array Value).toList 8 = some ([.nil, .lit (.string [])], [], places) :=
  ⟨[], by kernel_rfl⟩

set_option maxRecDepth 100000 in
theorem lifted (os : Os) (started : os.Started) (H : Type) (enc : TypeId × Value → H) (F : Stop.Interp) :
    ReturnsInHanded {} Tryz.checked os 5 .any ((Rows.OpenSpec.upto Rows.typingUsesSpec).preRow enc Tryz.prog Tryz.f5 Rows.typingUsesUptoRow.domain false Rows.typingUsesUptoRow.laid) (((Rows.OpenSpec.upto Rows.typingUsesSpec).at F).post enc Tryz.prog Tryz.f5 false true false false) := by
  obtain ⟨places, hx⟩ := reads os enc
  refine returnsInHanded_of_row (C := Tryz.checked) (s := Rows.OpenSpec.upto Rows.typingUsesSpec) own_knob started (by kernel_rfl) Tryz.func5
    (witness_row_at (enc := enc) (C := Tryz.checked) false (zB os) #[.slice none 0 0, .string ⟨#[]⟩] rfl (by kernel_rfl) (by kernel_rfl) (by kernel_rfl)
      (OpenSpec.preRow_of_cond 8 hx (by kernel_rfl) (fun k hk => by cases hk; kernel_rfl) (by kernel_rfl) (laid_met os _))) ?_
  intro W base args ds gs before hval hW _ hcond _ hL _ _
  exact contract H enc W base args ds gs before hval hW hL (hcond _ rfl)

theorem said : Rows.TypingUsesUptoSaid :=
  OpenClaim.holds_of_cond 5 Tryz.f5 rfl rfl rfl rfl rfl rfl rfl ⟨rfl, rfl, rfl, rfl, rfl⟩ rfl rfl rfl rfl rfl (by kernel_rfl) Tryz.func5 (by kernel_rfl)
    (of_decide_eq_true (by kernel_rfl)) (by unfold Func.isWrapper; first | (rw [if_pos (by decide +kernel)]; kernel_rfl) | (rw [if_neg (by decide +kernel)]; exact ⟨rfl, rfl⟩))
    (fun os started H enc _ F => by rw [OpenClaim.pre_eq_preRow]; exact lifted os started H enc F)

set_option maxRecDepth 100000 in
theorem plain (f : FuncId) (fn : Func) (hf : Tryz.pinned.checked.prog.funcNamed "sederunt/sederuntlaw24.TypingUses" = some f) (hfn : Tryz.pinned.checked.prog.funcs[f]? = some fn) :
    false = Tryz.pinned.checked.prog.looks [] ∧ ∀ (j : Nat) t, fn.params[j]? = some t → Tryz.pinned.checked.prog.wantsStandIn t = false := by
  obtain rfl : f = 5 := Option.some.inj ((show Tryz.prog.funcNamed "sederunt/sederuntlaw24.TypingUses" = some 5 by kernel_rfl).symm.trans hf) |>.symm
  obtain rfl : fn = Tryz.f5 := (Option.some.inj (Tryz.func5.symm.trans hfn)).symm
  refine ⟨by kernel_rfl, fun j t ht => ?_⟩
  rw [Tryz.params5] at ht
  have hm : t ∈ [22, 9] := by simpa using Array.mem_of_getElem? ht
  have hall : ([22, 9].all fun u => !Tryz.prog.wantsStandIn u) = true := by kernel_rfl
  exact (show Tryz.prog.wantsStandIn t = false by simpa using List.all_eq_true.1 hall t hm)

theorem card : Rows.TypingUsesUptoCardSaid :=
  Claim7.holds_tied_plain_at .later [] _ _ _ _ said (fun _ h => by cases h) (by kernel_rfl) (fun _ h => by cases h) typingUsesUpto_row_tie rfl ⟨rfl, rfl⟩ (by kernel_rfl) rfl plain (by kernel_rfl)
#print axioms card
end Go.Proofs.YtbmglebipepdmaaGreatDoor.tyuses
