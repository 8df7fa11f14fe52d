/- The walk of the statement TypingBeginning: it returns true. Declarations of a size up to a bound. gZ by gen_tylaws.py. TypingBeginning: each beginning of declarations without an error has no error but DV, for all declarations and numbers; up to a bulk of 1048576 (the second form), the listed tables as the program's text lays them. -/
import Derived.Test.YtbmglebipepdmaaGreatDoorPkPlain
import Derived.Test.YtbmglebipepdmaaGreatDoorPkRound
import Derived.Test.YtbmglebipepdmaaGreatDoorPkTyp
import Derived.Test.YtbmglebipepdmaaGreatDoorPkMem
import Derived.Test.YtbmglebipepdmaaGreatDoorPkPara
import Derived.Test.YtbmglebipepdmaaGreatDoorPkParb
import Derived.Test.YtbmglebipepdmaaGreatDoorPkLex
import Derived.Test.YtbmglebipepdmaaGreatDoorPkPare
import Derived.Test.YtbmglebipepdmaaGreatDoorPkVala
import Derived.Test.YtbmglebipepdmaaGreatDoorPkValb
import Derived.Test.YtbmglebipepdmaaGreatDoorPkValc
import Derived.Test.YtbmglebipepdmaaGreatDoorPkFmta
import Derived.Test.YtbmglebipepdmaaGreatDoorPkFmtb
import Derived.Test.YtbmglebipepdmaaGreatDoorPkNms
import Derived.Test.YtbmglebipepdmaaGreatDoorPkTya
import Derived.Test.YtbmglebipepdmaaGreatDoorPkTyb
import Derived.Test.YtbmglebipepdmaaGreatDoorPkOpen
import Derived.Test.YtbmglebipepdmaaGreatDoorPkCheck
import Derived.Test.YtbmglebipepdmaaGreatDoorPkRefl
import Derived.Test.YtbmglebipepdmaaGreatDoorPkRefa
import Derived.Test.YtbmglebipepdmaaGreatDoorPkRefb
import Derived.Test.YtbmglebipepdmaaGreatDoorPkRefc
import Derived.Test.YtbmglebipepdmaaGreatDoorPkRefd
import Derived.Test.YtbmglebipepdmaaGreatDoorPkEq
import Derived.Test.YtbmglebipepdmaaGreatDoorPkHead
import Derived.Test.YtbmglebipepdmaaGreatDoorPkUses
import Derived.Test.YtbmglebipepdmaaGreatDoorPkAwt
import Derived.Test.YtbmglebipepdmaaGreatDoorRemTyB
namespace Go.Proofs.YtbmglebipepdmaaGreatDoor
open Go.RowKit

set_option maxRecDepth 100000 in
set_option maxHeartbeats 8000000 in
theorem DF (l : List Dc) (A : Option Addr) (c : Nat) (n : Nat) (hn : n ≤ 255) (w : World) (S : Nat → Prop) (hl : bG (jE w S) w S 22 A l) (hlc : l.length ≤ c) (hS : ∀ g, S g → g < w.heap.size) (hsz : (l.map d9).sum ≤ 1100000) (hpw : Pow w) :
    Calls Tryz.prog 3 #[.slice A l.length c, .int .u8 n] w fun e w' => e = .returned (.bool true) ∧ Below w.heap.size w w' := by
  have HP := Lib.hid hpw
  have hL := fun (W : World) (hW : Below w.heap.size w W) => (⟨hl.keep (P' := jE W S) (aF hW hS) (fun _ _ h => h.keep (aF hW hS)), fun g hg => by have := hS g hg; have := hW.size; omega⟩ : bG (jE W S) W S 22 A l ∧ ∀ g, S g → g < W.heap.size)
  have HFW := Lib.hid (fun (W : World) (hW : Below w.heap.size w W) => few_ref l A c W S (hL W hW).1 (hL W hW).2 hsz)
  have HAW := Lib.hid (fun (W : World) (hW : Below w.heap.size w W) => IZ W (HP.out.below hW))
  by_cases h20 : l.length ≤ 20
  · have hI20 : ¬ ((20 : Int) < (l.length : Int)) := by omega
    by_cases Ak : (l.map dF).sum ≤ 10000
    · rw [decide_eq_true Ak] at HFW
      have HC := Lib.hid (fun (W : World) (hW : Below w.heap.size w W) => zX l A c W S (hL W hW).1 (hL W hW).2 hsz Ak (by omega) (hpw.below hW))
      obtain ⟨m, hm⟩ : ∃ m, m = n % (l.length + 1) := ⟨_, rfl⟩
      have hml : m ≤ l.length := by have := Nat.mod_lt n (show 0 < l.length + 1 by omega); omega
      have hlen : (l.take m).length = m := by rw [List.length_take]; omega
      have HC2 := Lib.hid (fun (W : World) (hW : Below w.heap.size w W) (c : Nat) => zX (l.take m) A c W S ((hL W hW).1.first (fun _ _ h => qB h) m) (hL W hW).2 (Nat.le_trans (Eo d9 l m) hsz) (Nat.le_trans (Eo dF l m) Ak) (by omega) (hpw.below hW))
      rw [hlen] at HC2
      have HBO := Lib.hid (fun (h : (fZ l).2 = 0) => begin_ok h m)
      obtain ⟨r, hr⟩ : ∃ r, r = fZ l := ⟨_, rfl⟩
      obtain ⟨r2, hr2⟩ : ∃ r2, r2 = fZ (l.take m) := ⟨_, rfl⟩
      rw [← hr] at HC HBO
      rw [← hr2] at HC2 HBO
      obtain ⟨a, b⟩ := r
      have hI1 : IntKind.i64.wrap ((l.length : Int) + 1) = (l.length : Int) + 1 := IntWalk.i64_in _ (by omega)
      have hI2 : ((n : Int) % ((l.length : Int) + 1)) = (m : Int) := by rw [hm]; first | exact (Int.natCast_emod n (l.length + 1)).symm | rfl
      have hIm : (m : Int) ≤ (c : Int) := by omega
      have hIn : (0 : Int) ≤ (n : Int) ∧ (n : Int) ≤ 255 := by omega
      have HM := Lib.hid hI2
      have hA0 : (if c = 0 then A else Option.map (fun x : Addr => x.add (0 * 22)) A) = A := by
        split
        · rfl
        · cases A with
          | none => rfl
          | some a => rw [Option.map_some, Nat.zero_mul, addr_zero]
      have HA0 := Lib.hid hA0
      clear hl hsz hpw hL Ak hr hr2 hm hlen hI2 hI1 hA0
      go_enter Tryz.func3, Tryz.ntmps3
      go_wp2_with fail
      refine (HAW.out _ (Below.refl _ _)).mono ?_
      rintro e W1 ⟨rfl, hb1⟩
      go_wp2_with fail
      refine (HFW.out W1 hb1).mono ?_
      rintro e W2 ⟨rfl, hb2⟩
      have hw2 := hb1.trans (hb2.mono hb1.size)
      clear hb1 hb2
      go_wp2_with fail
      refine (HC.out W2 hw2).mono ?_
      rintro e W3 ⟨rfl, hb3⟩
      have hw3 := hw2.trans (hb3.mono hw2.size)
      by_cases hb : b = 0
      · subst hb
        have hbo := HBO.out rfl
        have hI2 := HM.out
        have hA0 := HA0.out
        go_wp2_with fail
        refine (HC2.out W3 hw3 c).mono ?_
        rintro e W4 ⟨rfl, hb4⟩
        rcases hbo with h | h
        · subst h
          go_wp2
          go_ret
          exact ⟨rfl, hw3.trans (hb4.mono hw3.size)⟩
        · subst h
          go_wp2
          go_ret
          exact ⟨rfl, hw3.trans (hb4.mono hw3.size)⟩
      · have hz : ((b : Int) != 0) = true := jA hb
        clear hb
        go_wp2
        go_ret
        exact ⟨rfl, hw3⟩
    · rw [decide_eq_false Ak] at HFW
      clear hl hsz hpw hL Ak
      go_enter Tryz.func3, Tryz.ntmps3
      go_wp2_with fail
      refine (HAW.out _ (Below.refl _ _)).mono ?_
      rintro e W1 ⟨rfl, hb1⟩
      go_wp2_with fail
      refine (HFW.out W1 hb1).mono ?_
      rintro e W2 ⟨rfl, hb2⟩
      have hw2 := hb1.trans (hb2.mono hb1.size)
      go_wp2_with fail
      refine (HAW.out W2 hw2).mono ?_
      rintro e W3 ⟨rfl, hb3⟩
      go_wp2
      go_ret
      exact ⟨rfl, hw2.trans (hb3.mono hw2.size)⟩
  · have hI20 : (20 : Int) < (l.length : Int) := by omega
    clear hl hsz hpw hL HFW
    go_enter Tryz.func3, Tryz.ntmps3
    go_wp2_with fail
    refine (HAW.out _ (Below.refl _ _)).mono ?_
    rintro e W1 ⟨rfl, hb1⟩
    go_wp2_with fail
    refine (HAW.out W1 hb1).mono ?_
    rintro e W3 ⟨rfl, hb3⟩
    go_wp2
    go_ret
    exact ⟨rfl, hb1.trans (hb3.mono hb1.size)⟩
end Go.Proofs.YtbmglebipepdmaaGreatDoor
namespace Go.Proofs.YtbmglebipepdmaaGreatDoor.beginning
open Go.ChangeShapes Go.WideShapes Go.ChangeAt Go.RowKit

set_option maxRecDepth 100000 in
theorem contract (H : Type) (enc : TypeId × Value → H) (W : World) (base : Nat) (args : Array Value) (ds gs : List (DataW H)) (before : List MemPlace)
    (hval : ∀ (j : Nat) t v, Tryz.f3.params[j]? = some t → args[j]? = some v → Value.okWide Tryz.prog W .any base t v)
    (hW : DataW.Whole enc Tryz.prog Tryz.f3.params.toList Rows.typingBeginningSpec.vars false W args.toList ds gs before) (hL : laidMetH Tryz.prog Rows.typingBeginningUptoRow.laid W) (hk : Rows.uptoSmall H (ds ++ gs) = true) :
    Calls Tryz.prog 3 args W fun e W' => ∃ v, e = .returned v ∧ Rows.typingBeginningSpec.post enc Tryz.prog Tryz.f3 false true false false W args v W' := by
  have hW' := hW
  obtain ⟨p, q, hA0, hV, rfl, hfz, hnd⟩ := hW
  have hA : DataW.TrodAll enc Tryz.prog W 0 (fun _ => true) true Tryz.f3.params.toList args.toList ds p := hA0
  rw [Tryz.params3] at hA hval
  obtain ⟨v0, vs0, d0, ds0, p0, q0, hargs, rfl, rfl, h0, r0⟩ := trodAll_cons hA
  obtain ⟨v1, vs1, d1, ds1, p1, q1, rfl, rfl, rfl, h1, r1⟩ := trodAll_cons r0
  obtain ⟨rfl, rfl, rfl⟩ := trodAll_nil r1
  obtain rfl : args = #[v0, v1] := by cases args; simp_all
  obtain ⟨rfl, rfl⟩ := trodVars_none hV
  clear hA0
  have o0 := hval 0 22 v0 rfl rfl
  have o1 := hval 1 5 v1 rfl rfl
  obtain ⟨A, c, l, rfl, hl, hlc, hsz⟩ := KD o0 h0
  obtain ⟨z, rfl, rfl, rfl, wz⟩ := open_int Tryz.underlying5 o1 h1
  have wz2 : 0 ≤ z ∧ z ≤ 255 := by simpa [Lit.wf, IntKind.min, IntKind.max, IntKind.signed, IntKind.bits] using wz
  obtain ⟨n, rfl⟩ : ∃ n : Nat, z = (n : Int) := ⟨z.toNat, by omega⟩
  have hbk := Mg hk
  simp only [List.cons_append, List.nil_append, Rows.uptoBulkAll] at hbk
  refine (DF l A c n (by omega) W (· < W.heap.size) hl hlc (fun g h => h) (by omega) (He hL)).mono fun e W' hh => ?_
  rw [hh.1]
  exact ⟨_, rfl, close_law (by kernel_rfl) rfl rfl hW' rfl hh.2⟩

set_option maxRecDepth 100000 in
theorem reads (os : Os) {H : Type} (enc : TypeId × Value → H) : ∃ places, DataW.whole enc Tryz.prog ((zB os).forCall (fun _ _ => 0) ⟨#[], #[.slice none 0 0, .int .u8 0], []⟩).memory Tryz.f3.params.toList Rows.typingBeginningSpec.vars false (#[.slice none 0 0, .int .u8 0] : Array Value).toList 8 = some ([.nil, .lit (.int .u8 0)], [], places) :=
  ⟨[], by kernel_rfl⟩

set_option maxRecDepth 100000 in
theorem lifted (os : Os) (started : os.Started) (H : Type) (enc : TypeId × Value → H) (F : Stop.Interp) :
    ReturnsInHanded {} Tryz.checked os 3 .any ((Rows.OpenSpec.upto Rows.typingBeginningSpec).preRow enc Tryz.prog Tryz.f3 Rows.typingBeginningUptoRow.domain false Rows.typingBeginningUptoRow.laid) (((Rows.OpenSpec.upto Rows.typingBeginningSpec).at F).post enc Tryz.prog Tryz.f3 false true false false) := by
  obtain ⟨places, hx⟩ := reads os enc
  refine returnsInHanded_of_row (C := Tryz.checked) (s := Rows.OpenSpec.upto Rows.typingBeginningSpec) own_knob started (by kernel_rfl) Tryz.func3
    (witness_row_at (enc := enc) (C := Tryz.checked) false (zB os) #[.slice none 0 0, .int .u8 0] rfl (by kernel_rfl) (by kernel_rfl) (by kernel_rfl)
      (OpenSpec.preRow_of_cond 8 hx (by kernel_rfl) (fun k hk => by cases hk; kernel_rfl) (by kernel_rfl) (laid_met os _))) ?_
  intro W base args ds gs before hval hW _ hcond _ hL _ _
  exact contract H enc W base args ds gs before hval hW hL (hcond _ rfl)

theorem said : Rows.TypingBeginningUptoSaid :=
  OpenClaim.holds_of_cond 3 Tryz.f3 rfl rfl rfl rfl rfl rfl rfl ⟨rfl, rfl, rfl, rfl, rfl⟩ rfl rfl rfl rfl rfl (by kernel_rfl) Tryz.func3 (by kernel_rfl)
    (of_decide_eq_true (by kernel_rfl)) (by unfold Func.isWrapper; first | (rw [if_pos (by decide +kernel)]; kernel_rfl) | (rw [if_neg (by decide +kernel)]; exact ⟨rfl, rfl⟩))
    (fun os started H enc _ F => by rw [OpenClaim.pre_eq_preRow]; exact lifted os started H enc F)

set_option maxRecDepth 100000 in
theorem plain (f : FuncId) (fn : Func) (hf : Tryz.pinned.checked.prog.funcNamed "sederunt/sederuntlaw24.TypingBeginning" = some f) (hfn : Tryz.pinned.checked.prog.funcs[f]? = some fn) :
    false = Tryz.pinned.checked.prog.looks [] ∧ ∀ (j : Nat) t, fn.params[j]? = some t → Tryz.pinned.checked.prog.wantsStandIn t = false := by
  obtain rfl : f = 3 := Option.some.inj ((show Tryz.prog.funcNamed "sederunt/sederuntlaw24.TypingBeginning" = some 3 by kernel_rfl).symm.trans hf) |>.symm
  obtain rfl : fn = Tryz.f3 := (Option.some.inj (Tryz.func3.symm.trans hfn)).symm
  refine ⟨by kernel_rfl, fun j t ht => ?_⟩
  rw [Tryz.params3] at ht
  have hm : t ∈ [22, 5] := by simpa using Array.mem_of_getElem? ht
  have hall : ([22, 5].all fun u => !Tryz.prog.wantsStandIn u) = true := by kernel_rfl
  exact (show Tryz.prog.wantsStandIn t = false by simpa using List.all_eq_true.1 hall t hm)

theorem card : Rows.TypingBeginningUptoCardSaid :=
  Claim7.holds_tied_plain_at .later [] _ _ _ _ said (fun _ h => by cases h) (by kernel_rfl) (fun _ h => by cases h) typingBeginningUpto_row_tie rfl ⟨rfl, rfl⟩ (by kernel_rfl) rfl plain (by kernel_rfl)
#print axioms card
end Go.Proofs.YtbmglebipepdmaaGreatDoor.beginning
