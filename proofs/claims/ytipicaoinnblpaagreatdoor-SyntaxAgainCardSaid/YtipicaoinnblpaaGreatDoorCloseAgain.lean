/- The contract of the statement SyntaxAgain: it returns true. SyntaxAgain: the declarations of a text that is read are valid, and their text is read as the same ones, apart from the lines, for every string. No condition but that the listed tables are as the program's text lays them. -/
import Derived.Test.YtipicaoinnblpaaGreatDoorPkAgain
import Derived.Test.YtipicaoinnblpaaGreatDoorPkAw
namespace Go.Proofs.YtipicaoinnblpaaGreatDoor
open Go.RowKit

set_option maxRecDepth 100000 in
set_option maxHeartbeats 4000000 in
theorem again_any (s : ByteArray) (w : World) (hpw : Pow w) : Calls Tryz.prog 6 #[.string s] w fun e w' => e = .returned (.bool true) ∧ Below w.heap.size w w' := by
  have HP := Lib.hid hpw
  have hsz : s.data.toList.length = s.size := by simp
  clear hpw
  go_enter Tryz.func6, Tryz.ntmps6
  go_wp2_with fail
  refine (awake23_any w HP.out).mono ?_
  rintro e W1 ⟨rfl, hb1⟩
  by_cases hlong : 700 < s.size
  · have hl : (700 : Int) < (s.size : Int) := by omega
    go_wp2_with fail
    refine (awake23_any W1 (HP.out.below hb1)).mono ?_
    rintro e W2 ⟨rfl, hb2⟩
    go_wp2
    go_ret
    exact ⟨rfl, hb1.trans (hb2.mono hb1.size)⟩
  · have hl : ¬ (700 : Int) < (s.size : Int) := by omega
    have HPA := Lib.hid (parse_any s W1)
    obtain ⟨l, ln, er, hR⟩ : ∃ l ln er, parseOf 4 s.data.toList = (l, ln, er) := ⟨_, _, _, rfl⟩
    rw [hR] at HPA
    have HR := Lib.hid hR
    have HLO := Lib.hid hlong
    have HSZ := Lib.hid hsz
    clear hR hlong hsz
    go_wp2_with fail
    refine HPA.out.mono ?_
    rintro e W2 ⟨A2, c2, rfl, hc2, hl2, hb2⟩
    simp only at hc2 hl2
    have hbw2 := hb1.trans (hb2.mono hb1.size)
    have hs2 := hb2.size
    by_cases he : er = 0
    · subst he
      obtain ⟨hok, hsized⟩ := again_plain 4 (by rw [HSZ.out]; have := HLO.out; omega) HR.out
      obtain ⟨hlims, hlt, hll⟩ := dcs_lims hok hsized
      have ef : formatOf l = (dcsText l, 0) := by unfold formatOf sizedOf; rw [hok, hsized]; rfl
      obtain ⟨l', hp, hun⟩ := parse_round 4 hok hsized
      have hl2b := hl2.mono (S' := fun g => W1.heap.size ≤ g ∧ g < W2.heap.size) (P' := DcAt W2 (fun g => W1.heap.size ≤ g ∧ g < W2.heap.size)) (fun g h1 h2 => ⟨h1, h2⟩) (by decide) (fun _ _ h => h.mono fun g h1 h2 => ⟨h1, h2⟩)
      have HF := Lib.hid (format_any l A2 c2 W2 (fun g => W1.heap.size ≤ g ∧ g < W2.heap.size) hl2b (fun g hg => hg.2) (by omega) (fun d hd => (hlims d hd).1) (fun _ => by omega) (HP.out.below hbw2))
      rw [ef] at HF
      have HL := Lib.hid hl2b
      have HU := Lib.hid hun
      have HQ := Lib.hid (fun d hd => (hlims d hd).2)
      have HPB := Lib.hid (fun (W : World) => show Calls Tryz.prog 12 #[.string (bs (dcsText l))] W (PfPost (l', 0, 0) W) by have h := parse_any (bs (dcsText l)) W; rw [bs_data, hp] at h; exact h)
      clear hl2 hl2b hok hsized hlims ef hp hun HR HPA
      go_wp2_with fail
      refine HF.out.mono ?_
      rintro e W3 ⟨rfl, hb3⟩
      have hs3 := hb3.size
      go_wp2_with fail
      refine (HPB.out W3).mono ?_
      rintro e W4 ⟨A4, c4, rfl, hc4, hl4, hb4⟩
      simp only at hc4 hl4
      have hb34 := hb3.trans (hb4.mono hs3)
      have hbw4 := hbw2.trans (hb34.mono hbw2.size)
      have HE := Lib.hid (equal_true l l' false A2 A4 c2 c4 W4 (fun g => W1.heap.size ≤ g ∧ g < W2.heap.size) (W3.heap.size ≤ ·) (HL.out.keep (kept_of hb34 (fun g hg => hg.2)) (fun _ _ h => h.keep (kept_of hb34 (fun g hg => hg.2)))) hl4 HU.out.symm (fun h => by cases h) (by omega) HQ.out)
      clear hl4
      go_wp2_with fail
      refine HE.out.mono ?_
      rintro e W5 ⟨rfl, hb5⟩
      go_wp2
      go_ret
      exact ⟨rfl, hbw4.trans (hb5.mono hbw4.size)⟩
    · have hz : ((er : Int) != 0) = true := natNeq he
      clear he
      go_wp2
      go_ret
      exact ⟨rfl, hbw2⟩
end Go.Proofs.YtipicaoinnblpaaGreatDoor
namespace Go.Proofs.YtipicaoinnblpaaGreatDoor.again
open Go.ChangeShapes Go.WideShapes Go.ChangeAt Go.RowKit

set_option maxRecDepth 100000 in
theorem contract (H : Type) (enc : TypeId × Value → H) (W : World) (base : Nat) (args : Array Value) (ds gs : List (DataW H)) (before : List MemPlace)
    (hval : ∀ (j : Nat) t v, Tryz.f6.params[j]? = some t → args[j]? = some v → Value.okWide Tryz.prog W .any base t v)
    (hW : DataW.Whole enc Tryz.prog Tryz.f6.params.toList Rows.syntaxAgainSpec.vars false W args.toList ds gs before) (hL : laidMetH Tryz.prog Rows.syntaxAgainRow.laid W) :
    Calls Tryz.prog 6 args W fun e W' => ∃ v, e = .returned v ∧ Rows.syntaxAgainSpec.post enc Tryz.prog Tryz.f6 false true false false W args v W' := by
  have hW' := hW
  obtain ⟨p, q, hA0, hV, rfl, hfz, hnd⟩ := hW
  have hA : DataW.TrodAll enc Tryz.prog W 0 (fun _ => true) true Tryz.f6.params.toList args.toList ds p := hA0
  rw [Tryz.params6] at hA hval
  obtain ⟨v0, vs0, d0, ds0, p0, q0, hargs, rfl, rfl, h0, r0⟩ := trodAll_cons hA
  obtain ⟨rfl, rfl, rfl⟩ := trodAll_nil r0
  obtain rfl : args = #[v0] := by cases args; simp_all
  obtain ⟨rfl, rfl⟩ := trodVars_none hV
  clear hA0
  have o0 := hval 0 9 v0 rfl rfl
  obtain ⟨s, rfl, rfl, rfl, ws⟩ := Go.ChangeMaps.open_string Tryz.underlying9 o0 h0
  refine (again_any s W (pow_of_laid hL)).mono fun e W' hh => ?_
  rw [hh.1]
  exact ⟨_, rfl, close_law (by kernel_rfl) rfl rfl hW' rfl hh.2⟩

set_option maxRecDepth 100000 in
theorem reads (os : Os) {H : Type} (enc : TypeId × Value → H) : ∃ places, DataW.whole enc Tryz.prog ((laidWorld os).forCall (fun _ _ => 0) ⟨#[], #[.string ⟨#[]⟩], []⟩).memory Tryz.f6.params.toList Rows.syntaxAgainSpec.vars false (#[.string ⟨#[]⟩] : Array Value).toList 8 = some ([.lit (.string [])], [], places) :=
  ⟨[], by kernel_rfl⟩

set_option maxRecDepth 100000 in
theorem lifted (os : Os) (started : os.Started) (H : Type) (enc : TypeId × Value → H) (F : Stop.Interp) :
    ReturnsInHanded {} Tryz.checked os 6 .any ((OpenSpec.ofChange Rows.syntaxAgainSpec).preRow enc Tryz.prog Tryz.f6 Rows.syntaxAgainRow.domain false Rows.syntaxAgainRow.laid) (((OpenSpec.ofChange Rows.syntaxAgainSpec).at F).post enc Tryz.prog Tryz.f6 false true false false) := by
  obtain ⟨places, hx⟩ := reads os enc
  refine returnsInHanded_of_row (C := Tryz.checked) (s := OpenSpec.ofChange Rows.syntaxAgainSpec) own_knob started (by kernel_rfl) Tryz.func6
    (witness_row_at (enc := enc) (C := Tryz.checked) false (laidWorld os) #[.string ⟨#[]⟩] rfl (by kernel_rfl) (by kernel_rfl) (by kernel_rfl)
      (OpenSpec.preRow_of_cond 8 hx (by kernel_rfl) (fun k hk => by cases hk) (by kernel_rfl) (laid_met os _))) ?_
  intro W base args ds gs before hval hW _ _ _ hL _ _
  exact contract H enc W base args ds gs before hval hW hL

theorem said : Rows.SyntaxAgainSaid :=
  OpenClaim.holds_of_cond 6 Tryz.f6 rfl rfl rfl rfl rfl rfl rfl ⟨rfl, rfl, rfl, rfl, rfl⟩ rfl rfl rfl rfl rfl (by kernel_rfl) Tryz.func6 (by kernel_rfl)
    (of_decide_eq_true (by kernel_rfl)) (by unfold Func.isWrapper; first | (rw [if_pos (by decide +kernel)]; kernel_rfl) | (rw [if_neg (by decide +kernel)]; exact ⟨rfl, rfl⟩))
    (fun os started H enc _ F => by rw [OpenClaim.pre_eq_preRow]; exact lifted os started H enc F)

set_option maxRecDepth 100000 in
theorem plain (f : FuncId) (fn : Func) (hf : Tryz.pinned.checked.prog.funcNamed "sederunt/sederuntlaw23.SyntaxAgain" = some f) (hfn : Tryz.pinned.checked.prog.funcs[f]? = some fn) :
    false = Tryz.pinned.checked.prog.looks [] ∧ ∀ (j : Nat) t, fn.params[j]? = some t → Tryz.pinned.checked.prog.wantsStandIn t = false := by
  obtain rfl : f = 6 := Option.some.inj ((show Tryz.prog.funcNamed "sederunt/sederuntlaw23.SyntaxAgain" = some 6 by kernel_rfl).symm.trans hf) |>.symm
  obtain rfl : fn = Tryz.f6 := (Option.some.inj (Tryz.func6.symm.trans hfn)).symm
  refine ⟨by kernel_rfl, fun j t ht => ?_⟩
  rw [Tryz.params6] at ht
  have hm : t ∈ [9] := by simpa using Array.mem_of_getElem? ht
  have hall : ([9].all fun u => !Tryz.prog.wantsStandIn u) = true := by kernel_rfl
  exact (show Tryz.prog.wantsStandIn t = false by simpa using List.all_eq_true.1 hall t hm)

theorem card : Rows.SyntaxAgainCardSaid :=
  Claim7.holds_tied_plain_at .later [] _ _ _ _ said (fun _ h => by cases h) (by kernel_rfl) (fun _ h => by cases h) syntaxAgain_row_tie rfl ⟨rfl, rfl⟩ (by kernel_rfl) rfl plain (by kernel_rfl)
#print axioms card
end Go.Proofs.YtipicaoinnblpaaGreatDoor.again
