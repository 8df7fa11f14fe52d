/- The walk of the statement TypingTerm: it returns true. Declarations and terms of a size up to a bound. TypingTerm: Term returns the error of a term behind declarations as the reference does, for all declarations and terms; up to a bulk of 1048576 (the second form), the listed tables as the program's text lays them. -/
import Derived.Test.YtbmglebipepdmaaGreatDoorPkPlain
import Derived.Test.YtbmglebipepdmaaGreatDoorPkRound
import Derived.Test.YtbmglebipepdmaaGreatDoorPkTyp
import Derived.Test.YtbmglebipepdmaaGreatDoorPkMem
import Derived.Test.YtbmglebipepdmaaGreatDoorPkPara
import Derived.Test.YtbmglebipepdmaaGreatDoorPkParb
import Derived.Test.YtbmglebipepdmaaGreatDoorPkLex
import Derived.Test.YtbmglebipepdmaaGreatDoorPkPare
import Derived.Test.YtbmglebipepdmaaGreatDoorPkVala
import Derived.Test.YtbmglebipepdmaaGreatDoorPkValb
import Derived.Test.YtbmglebipepdmaaGreatDoorPkValc
import Derived.Test.YtbmglebipepdmaaGreatDoorPkFmta
import Derived.Test.YtbmglebipepdmaaGreatDoorPkFmtb
import Derived.Test.YtbmglebipepdmaaGreatDoorPkNms
import Derived.Test.YtbmglebipepdmaaGreatDoorPkTya
import Derived.Test.YtbmglebipepdmaaGreatDoorPkTyb
import Derived.Test.YtbmglebipepdmaaGreatDoorPkOpen
import Derived.Test.YtbmglebipepdmaaGreatDoorPkCheck
import Derived.Test.YtbmglebipepdmaaGreatDoorPkRefl
import Derived.Test.YtbmglebipepdmaaGreatDoorPkRefa
import Derived.Test.YtbmglebipepdmaaGreatDoorPkRefb
import Derived.Test.YtbmglebipepdmaaGreatDoorPkRefc
import Derived.Test.YtbmglebipepdmaaGreatDoorPkRefd
import Derived.Test.YtbmglebipepdmaaGreatDoorPkEq
import Derived.Test.YtbmglebipepdmaaGreatDoorPkHead
import Derived.Test.YtbmglebipepdmaaGreatDoorPkUses
import Derived.Test.YtbmglebipepdmaaGreatDoorPkAwt
import Derived.Test.YtbmglebipepdmaaGreatDoorRemTyT
namespace Go.Proofs.YtbmglebipepdmaaGreatDoor
open Go.RowKit

set_option maxRecDepth 100000 in
set_option maxHeartbeats 8000000 in
theorem term_law24 (l : List Dc) (A : Option Addr) (c : Nat) (t : Tm) (v : Value) (w : World) (S : Nat → Prop) (hl : bG (jE w S) w S 22 A l) (ht : gm w S t v) (hS : ∀ g, S g → g < w.heap.size) (hsz : (l.map d9).sum ≤ 1100000) (hst : au t ≤ 1100000) (hpw : Pow w) (hkd : ∀ d ∈ l, -9223372036854775808 ≤ d.kind ∧ d.kind ≤ 9223372036854775807) :
    Calls Tryz.prog 8 #[.slice A l.length c, v] w fun e w' => e = .returned (.bool true) ∧ Below w.heap.size w w' := by
  have HP := Lib.hid hpw
  have hbA : ∀ o, Below w.heap.size w (w.alloc o) := fun o => (Below.refl _ _).alloc (Nat.le_refl _) o
  have ht2 := ht
  obtain ⟨op, nm, nd, wA, wn, wc, kA, kn, kc, rfl⟩ := ht2.form
  have hL := fun (W : World) (hW : Below w.heap.size w W) => (⟨hl.keep (P' := jE W S) (aF hW hS) (fun _ _ h => h.keep (aF hW hS)), fun g hg => by have := hS g hg; have := hW.size; omega⟩ : bG (jE W S) W S 22 A l ∧ ∀ g, S g → g < W.heap.size)
  have HFW := Lib.hid (fun (W : World) (hW : Below w.heap.size w W) => few_ref l A c W S (hL W hW).1 (hL W hW).2 hsz)
  have HAW := Lib.hid (fun (W : World) (hW : Below w.heap.size w W) => IZ W (HP.out.below hW))
  have HSZ := Lib.hid (fun o => Cv t _ (w.alloc o) S (ht.keep (aW (hbA o))) (fun g hg => by have := hS g hg; simp; omega) (by omega))
  have hB : BOk l := bok_of hsz hkd
  have htb : (tab l).length ≤ 100000000 := Nat.le_trans (tab_nb l) hB.all
  have hll := uh l
  have HT1 := Lib.hid (fun (hs : au t ≤ 1000000) (W : World) (hW : Below w.heap.size w W) => term_any2 l A c t _ W S (hL W hW).1 (ht.keep (aF hW hS)) (hL W hW).2 hB hs (hpw.below hW))
  have HT2 := Lib.hid (fun (hs : au t ≤ 1000000) (W : World) (hW : Below w.heap.size w W) => term_ref2 l A c t _ W S (hL W hW).1 (ht.keep (aF hW hS)) (hL W hW).2 htb (by omega) hs (hpw.below hW))
  have hdl := AX t
  obtain ⟨n, hn⟩ : ∃ n, n = au t := ⟨_, rfl⟩
  obtain ⟨d, hd⟩ : ∃ d, d = dQ t := ⟨_, rfl⟩
  obtain ⟨r, hr⟩ : ∃ r, r = GU l t := ⟨_, rfl⟩
  rw [← hn, ← hd] at HSZ hdl
  rw [← hn] at HT1 HT2 hst
  rw [← hr] at HT1 HT2
  have hdb : d ≤ 1100000 := by omega
  clear hl ht ht2 hpw hL hn hd hr hB htb hll hkd hdl
  by_cases h20 : l.length ≤ 20
  · have hI20 : ¬ ((20 : Int) < (l.length : Int)) := by omega
    by_cases Ak : (l.map dF).sum ≤ 10000
    · rw [decide_eq_true Ak] at HFW
      clear hsz Ak
      by_cases h5 : n ≤ 500
      · have hI5 : ¬ ((500 : Int) < (n : Int)) := by omega
        have HX1 := Lib.hid (HT1.out (by omega))
        have HX2 := Lib.hid (HT2.out (by omega))
        clear HT1 HT2
        by_cases h6 : d ≤ 50
        · have hI6 : ¬ ((50 : Int) < (d : Int)) := by omega
          go_enter Tryz.func8, Tryz.ntmps8
          go_wp2_with fail
          refine (HSZ.out _).mono ?_
          rintro e W0 ⟨rfl, hb0⟩
          have hw0 : Below w.heap.size w W0 := (hbA _).trans (hb0.mono (by simp))
          go_wp2_with fail
          refine (HAW.out W0 hw0).mono ?_
          rintro e W1 ⟨rfl, hb1⟩
          have hw1 := hw0.trans (hb1.mono hw0.size)
          go_wp2_with fail
          refine (HFW.out W1 hw1).mono ?_
          rintro e W2 ⟨rfl, hb2⟩
          have hw2 := hw1.trans (hb2.mono hw1.size)
          have hr2 : W2.heap[w.heap.size]? = some (.cells #[.int .i64 op, .string nm, .int .i64 nd, .slice wA wn wc, .slice kA kn kc] 39 (0, 0)) := by
            have hz : w.heap.size < (w.alloc (.cells #[.int .i64 op, .string nm, .int .i64 nd, .slice wA wn wc, .slice kA kn kc] 39)).heap.size := by simp
            have h0 := hb0.size
            have h1 := hb1.size
            exact (hb2.block _ (by omega)).trans ((hb1.block _ (by omega)).trans ((hb0.block _ hz).trans (heap_alloc_new w _)))
          have hlt2 : w.heap.size < W2.heap.size := lt_of_block hr2
          obtain ⟨c0, c1, c2, c3, c4, -⟩ := iH hr2
          have HR2 := Lib.hid hr2
          clear hr2
          go_wp2_with fail
          go_region_held3 (fun w' => w'.cell? ⟨w.heap.size, 0, none⟩ = some (.int .i64 op) ∧ w'.cell? ⟨w.heap.size, 1, none⟩ = some (.string nm) ∧ w'.cell? ⟨w.heap.size, 2, none⟩ = some (.int .i64 nd) ∧ w'.cell? ⟨w.heap.size, 3, none⟩ = some (.slice wA wn wc) ∧ w'.cell? ⟨w.heap.size, 4, none⟩ = some (.slice kA kn kc)) (first | go_keep | exact hkeep3 | exact hkeep4)
            (first | (go_at_call 30; (refine (HX1.out _ (below_drewN hw2 _)).mono ?_; rintro e W3 ⟨rfl, hb3⟩; have hz3 : W2.heap.size ≤ W3.heap.size := hb3.size; have hbw3 : Below w.heap.size w W3 := (below_drewN hw2 _).trans (hb3.mono (show w.heap.size ≤ W2.heap.size from Nat.le_of_lt hlt2)); have hr3 := (hb3.block _ (show w.heap.size < W2.heap.size from hlt2)).trans HR2.out; have hkeep3 := BH hr3)) | (go_at_call 31; (refine (HX2.out _ hbw3).mono ?_; rintro e W4 ⟨rfl, hb4⟩; have hr4 := (hb4.block _ (lt_of_block hr3)).trans hr3; have hkeep4 := BH hr4)))
          all_goals (
            go_wp2
            go_ret
            exact ⟨by simp, hbw3.trans (hb4.mono hbw3.size)⟩)
        · have hI6 : (50 : Int) < (d : Int) := by omega
          go_enter Tryz.func8, Tryz.ntmps8
          go_wp2_with fail
          refine (HSZ.out _).mono ?_
          rintro e W0 ⟨rfl, hb0⟩
          have hw0 : Below w.heap.size w W0 := (hbA _).trans (hb0.mono (by simp))
          go_wp2_with fail
          refine (HAW.out W0 hw0).mono ?_
          rintro e W1 ⟨rfl, hb1⟩
          have hw1 := hw0.trans (hb1.mono hw0.size)
          go_wp2_with fail
          refine (HFW.out W1 hw1).mono ?_
          rintro e W2 ⟨rfl, hb2⟩
          have hw2 := hw1.trans (hb2.mono hw1.size)
          go_wp2_with fail
          refine (HAW.out _ hw2).mono ?_
          rintro e W3 ⟨rfl, hb3⟩
          go_wp2
          go_ret
          exact ⟨rfl, hw2.trans (hb3.mono hw2.size)⟩
      · have hI5 : (500 : Int) < (n : Int) := by omega
        clear HT1 HT2
        go_enter Tryz.func8, Tryz.ntmps8
        go_wp2_with fail
        refine (HSZ.out _).mono ?_
        rintro e W0 ⟨rfl, hb0⟩
        have hw0 : Below w.heap.size w W0 := (hbA _).trans (hb0.mono (by simp))
        go_wp2_with fail
        refine (HAW.out W0 hw0).mono ?_
        rintro e W1 ⟨rfl, hb1⟩
        have hw1 := hw0.trans (hb1.mono hw0.size)
        go_wp2_with fail
        refine (HFW.out W1 hw1).mono ?_
        rintro e W2 ⟨rfl, hb2⟩
        have hw2 := hw1.trans (hb2.mono hw1.size)
        go_wp2_with fail
        refine (HAW.out _ hw2).mono ?_
        rintro e W3 ⟨rfl, hb3⟩
        go_wp2
        go_ret
        exact ⟨rfl, hw2.trans (hb3.mono hw2.size)⟩
    · rw [decide_eq_false Ak] at HFW
      clear hsz Ak HT1 HT2
      go_enter Tryz.func8, Tryz.ntmps8
      go_wp2_with fail
      refine (HSZ.out _).mono ?_
      rintro e W0 ⟨rfl, hb0⟩
      have hw0 : Below w.heap.size w W0 := (hbA _).trans (hb0.mono (by simp))
      go_wp2_with fail
      refine (HAW.out W0 hw0).mono ?_
      rintro e W1 ⟨rfl, hb1⟩
      have hw1 := hw0.trans (hb1.mono hw0.size)
      go_wp2_with fail
      refine (HFW.out W1 hw1).mono ?_
      rintro e W2 ⟨rfl, hb2⟩
      have hw2 := hw1.trans (hb2.mono hw1.size)
      go_wp2_with fail
      refine (HAW.out _ hw2).mono ?_
      rintro e W3 ⟨rfl, hb3⟩
      go_wp2
      go_ret
      exact ⟨rfl, hw2.trans (hb3.mono hw2.size)⟩
  · have hI20 : (20 : Int) < (l.length : Int) := by omega
    clear hsz HFW HT1 HT2
    go_enter Tryz.func8, Tryz.ntmps8
    go_wp2_with fail
    refine (HSZ.out _).mono ?_
    rintro e W0 ⟨rfl, hb0⟩
    have hw0 : Below w.heap.size w W0 := (hbA _).trans (hb0.mono (by simp))
    go_wp2_with fail
    refine (HAW.out W0 hw0).mono ?_
    rintro e W1 ⟨rfl, hb1⟩
    have hw1 := hw0.trans (hb1.mono hw0.size)
    go_wp2_with fail
    refine (HAW.out _ hw1).mono ?_
    rintro e W3 ⟨rfl, hb3⟩
    go_wp2
    go_ret
    exact ⟨rfl, hw1.trans (hb3.mono hw1.size)⟩
end Go.Proofs.YtbmglebipepdmaaGreatDoor
namespace Go.Proofs.YtbmglebipepdmaaGreatDoor.tyterm
open Go.ChangeShapes Go.WideShapes Go.ChangeAt Go.RowKit

set_option maxRecDepth 100000 in
theorem contract (H : Type) (enc : TypeId × Value → H) (W : World) (base : Nat) (args : Array Value) (ds gs : List (DataW H)) (before : List MemPlace)
    (hval : ∀ (j : Nat) t v, Tryz.f8.params[j]? = some t → args[j]? = some v → Value.okWide Tryz.prog W .any base t v)
    (hW : DataW.Whole enc Tryz.prog Tryz.f8.params.toList Rows.typingTermSpec.vars false W args.toList ds gs before) (hL : laidMetH Tryz.prog Rows.typingTermUptoRow.laid W) (hk : Rows.uptoSmall H (ds ++ gs) = true) :
    Calls Tryz.prog 8 args W fun e W' => ∃ v, e = .returned v ∧ Rows.typingTermSpec.post enc Tryz.prog Tryz.f8 false true false false W args v W' := by
  have hW' := hW
  obtain ⟨p, q, hA0, hV, rfl, hfz, hnd⟩ := hW
  have hA : DataW.TrodAll enc Tryz.prog W 0 (fun _ => true) true Tryz.f8.params.toList args.toList ds p := hA0
  rw [Tryz.params8] at hA hval
  obtain ⟨v0, vs0, d0, ds0, p0, q0, hargs, rfl, rfl, h0, r0⟩ := trodAll_cons hA
  obtain ⟨v1, vs1, d1, ds1, p1, q1, rfl, rfl, rfl, h1, r1⟩ := trodAll_cons r0
  obtain ⟨rfl, rfl, rfl⟩ := trodAll_nil r1
  obtain rfl : args = #[v0, v1] := by cases args; simp_all
  obtain ⟨rfl, rfl⟩ := trodVars_none hV
  clear hA0
  have o0 := hval 0 22 v0 rfl rfl
  have o1 := hval 1 39 v1 rfl rfl
  obtain ⟨A, c, l, rfl, hl, hlc, hsz, hkd⟩ := open_decls2 o0 h0
  obtain ⟨t, ht, hst⟩ := open_term o1 h1
  have hbk := Mg hk
  simp only [List.cons_append, List.nil_append, Rows.uptoBulkAll] at hbk
  refine (term_law24 l A c t v1 W (· < W.heap.size) hl ht (fun g h => h) (by omega) (by omega) (He hL) hkd).mono fun e W' hh => ?_
  rw [hh.1]
  exact ⟨_, rfl, close_law (by kernel_rfl) rfl rfl hW' rfl hh.2⟩

set_option maxRecDepth 100000 in
theorem reads (os : Os) {H : Type} (enc : TypeId × Value → H) : ∃ places, DataW.whole enc Tryz.prog ((zB os).forCall (fun _ _ => 0) ⟨#[], #[.slice none 0 0, .agg #[.int .i64 0, .string ⟨#[]⟩, .int .i64 0, .slice none 0 0, .slice none 0 0]], []⟩).memory Tryz.f8.params.toList Rows.typingTermSpec.vars false (#[.slice none 0 0, .agg #[.int .i64 0, .string ⟨#[]⟩, .int .i64 0, .slice none 0 0, .slice none 0 0]] : Array Value).toList 8 = some ([.nil, .agg [.lit (.int .i64 0), .lit (.string []), .lit (.int .i64 0), .nil, .nil]], [], places) :=
  ⟨[], by kernel_rfl⟩

set_option maxRecDepth 100000 in
theorem lifted (os : Os) (started : os.Started) (H : Type) (enc : TypeId × Value → H) (F : Stop.Interp) :
    ReturnsInHanded {} Tryz.checked os 8 .any ((Rows.OpenSpec.upto Rows.typingTermSpec).preRow enc Tryz.prog Tryz.f8 Rows.typingTermUptoRow.domain false Rows.typingTermUptoRow.laid) (((Rows.OpenSpec.upto Rows.typingTermSpec).at F).post enc Tryz.prog Tryz.f8 false true false false) := by
  obtain ⟨places, hx⟩ := reads os enc
  refine returnsInHanded_of_row (C := Tryz.checked) (s := Rows.OpenSpec.upto Rows.typingTermSpec) own_knob started (by kernel_rfl) Tryz.func8
    (witness_row_at (enc := enc) (C := Tryz.checked) false (zB os) #[.slice none 0 0, .agg #[.int .i64 0, .string ⟨#[]⟩, .int .i64 0, .slice none 0 0, .slice none 0 0]] rfl (by kernel_rfl) (by kernel_rfl) (by kernel_rfl)
      (OpenSpec.preRow_of_cond 8 hx (by kernel_rfl) (fun k hk => by cases hk; kernel_rfl) (by kernel_rfl) (laid_met os _))) ?_
  intro W base args ds gs before hval hW _ hcond _ hL _ _
  exact contract H enc W base args ds gs before hval hW hL (hcond _ rfl)

theorem said : Rows.TypingTermUptoSaid :=
  OpenClaim.holds_of_cond 8 Tryz.f8 rfl rfl rfl rfl rfl rfl rfl ⟨rfl, rfl, rfl, rfl, rfl⟩ rfl rfl rfl rfl rfl (by kernel_rfl) Tryz.func8 (by kernel_rfl)
    (of_decide_eq_true (by kernel_rfl)) (by unfold Func.isWrapper; first | (rw [if_pos (by decide +kernel)]; kernel_rfl) | (rw [if_neg (by decide +kernel)]; exact ⟨rfl, rfl⟩))
    (fun os started H enc _ F => by rw [OpenClaim.pre_eq_preRow]; exact lifted os started H enc F)

set_option maxRecDepth 100000 in
theorem plain (f : FuncId) (fn : Func) (hf : Tryz.pinned.checked.prog.funcNamed "sederunt/sederuntlaw24.TypingTerm" = some f) (hfn : Tryz.pinned.checked.prog.funcs[f]? = some fn) :
    false = Tryz.pinned.checked.prog.looks [] ∧ ∀ (j : Nat) t, fn.params[j]? = some t → Tryz.pinned.checked.prog.wantsStandIn t = false := by
  obtain rfl : f = 8 := Option.some.inj ((show Tryz.prog.funcNamed "sederunt/sederuntlaw24.TypingTerm" = some 8 by kernel_rfl).symm.trans hf) |>.symm
  obtain rfl : fn = Tryz.f8 := (Option.some.inj (Tryz.func8.symm.trans hfn)).symm
  refine ⟨by kernel_rfl, fun j t ht => ?_⟩
  rw [Tryz.params8] at ht
  have hm : t ∈ [22, 39] := by simpa using Array.mem_of_getElem? ht
  have hall : ([22, 39].all fun u => !Tryz.prog.wantsStandIn u) = true := by kernel_rfl
  exact (show Tryz.prog.wantsStandIn t = false by simpa using List.all_eq_true.1 hall t hm)

theorem card : Rows.TypingTermUptoCardSaid :=
  Claim7.holds_tied_plain_at .later [] _ _ _ _ said (fun _ h => by cases h) (by kernel_rfl) (fun _ h => by cases h) typingTermUpto_row_tie rfl ⟨rfl, rfl⟩ (by kernel_rfl) rfl plain (by kernel_rfl)
#print axioms card
end Go.Proofs.YtbmglebipepdmaaGreatDoor.tyterm
