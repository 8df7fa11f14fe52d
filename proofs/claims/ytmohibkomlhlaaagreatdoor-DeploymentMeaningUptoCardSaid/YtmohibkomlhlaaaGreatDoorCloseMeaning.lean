/- DeploymentMeaning: the expression of a term holds at the sets at which the aU Holds finds that the term holds, for all declarations, terms and sets; up to a bulk of 1048576 (the second form), the listed tables as the program's text lays them. -/
import Derived.Test.YtmohibkomlhlaaaGreatDoorPdl
import Derived.Test.YtmohibkomlhlaaaGreatDoorPkOpen
set_option maxRecDepth 100000
namespace Go.Proofs.YtmohibkomlhlaaaGreatDoor.meaning
open Go.ChangeShapes Go.WideShapes Go.ChangeAt Go.RowKit
open _root_.Go.Proofs.Tryz
theorem contract (H : Type) (enc : TypeId × Value → H) (W : World) (base : Nat) (args : Array Value) (ds gs : List (DataW H)) (before : List MemPlace)
  (hval : ∀ (j : Nat) t v, Tryz.f3.params[j]? = some t → args[j]? = some v → Value.okWide prog W .any base t v)
  (hW : DataW.Whole enc prog Tryz.f3.params.toList Rows.deploymentMeaningSpec.vars false W args.toList ds gs before) (hL : laidMetH prog Rows.deploymentMeaningUptoRow.laid W) (hk : Rows.uptoSmall H (ds ++ gs) = true) :
  Calls prog 3 args W fun e W' => ∃ v, e = .returned v ∧ Rows.deploymentMeaningSpec.post enc prog Tryz.f3 false true false false W args v W' := by
 have hW' := hW
 obtain ⟨p, q, hA0, hV, rfl, hfz, hnd⟩ := hW
 have hA : DataW.TrodAll enc prog W 0 (fun _ => true) true Tryz.f3.params.toList args.toList ds p := hA0
 rw [params3] at hA hval
 obtain ⟨v0, vs0, d0, ds0, p0, q0, hargs, rfl, rfl, h0, r0⟩ := trodAll_cons hA
 obtain ⟨v1, vs1, d1, ds1, p1, q1, rfl, rfl, rfl, h1, r1⟩ := trodAll_cons r0
 obtain ⟨v2, vs2, d2, ds2, p2, q2, rfl, rfl, rfl, h2, r2⟩ := trodAll_cons r1
 obtain ⟨rfl, rfl, rfl⟩ := trodAll_nil r2
 obtain rfl : args = #[v0, v1, v2] := by cases args; simp_all
 obtain ⟨rfl, rfl⟩ := trodVars_none hV
 clear hA0
 have o0 := hval 0 22 v0 rfl rfl
 have o1 := hval 1 26 v1 rfl rfl
 have o2 := hval 2 28 v2 rfl rfl
 obtain ⟨A, c, l, rfl, hl, hlc, hsz⟩ := FM o0 h0
 obtain ⟨t, ht, hst⟩ := open_term o1 h1
 obtain ⟨z, rfl, rfl, rfl, wz⟩ := open_int underlying28 o2 h2
 obtain ⟨s, hs, rfl⟩ := u16_of wz
 have hbk := Hg hk
 simp only [List.cons_append, List.nil_append, Rows.uptoBulkAll] at hbk
 refine (Dg l A c t v1 s W (· < W.heap.size) hl ht (fun g h => h) (by omega) (by omega) hs (CQ hL) (Fb hL)).mono fun e W' hh => ?_
 rw [hh.1]
 exact ⟨_, rfl, close_law (by kernel_rfl) rfl rfl hW' rfl hh.2⟩
theorem reads (os : Os) {H : Type} (enc : TypeId × Value → H) : ∃ places, DataW.whole enc prog ((uM os).forCall (fun _ _ => 0) ⟨#[], #[.slice none 0 0, .agg #[.int .i64 0, .string ⟨#[]⟩, .int .i64 0, .slice none 0 0, .slice none 0 0], .int .u16 0], []⟩).memory Tryz.f3.params.toList Rows.deploymentMeaningSpec.vars false (#[.slice none 0 0, .agg #[.int .i64 0, .string ⟨#[]⟩, .int .i64 0, .slice none 0 0, .slice none 0 0], .int .u16 0] : Array Value).toList 8 = some ([.nil, .agg [.lit (.int .i64 0), .lit (.string []), .lit (.int .i64 0), .nil, .nil], .lit (.int .u16 0)], [], places) :=
 ⟨[], by kernel_rfl⟩
theorem lifted (os : Os) (started : os.Started) (H : Type) (enc : TypeId × Value → H) (F : Stop.Interp) :
  ReturnsInHanded {} Tryz.checked os 3 .any ((Rows.OpenSpec.upto Rows.deploymentMeaningSpec).preRow enc prog Tryz.f3 Rows.deploymentMeaningUptoRow.domain false Rows.deploymentMeaningUptoRow.laid) (((Rows.OpenSpec.upto Rows.deploymentMeaningSpec).at F).post enc prog Tryz.f3 false true false false) := by
 obtain ⟨places, hx⟩ := reads os enc
 refine returnsInHanded_of_row (C := Tryz.checked) (s := Rows.OpenSpec.upto Rows.deploymentMeaningSpec) own_knob started (by kernel_rfl) func3
  (witness_row_at (enc := enc) (C := Tryz.checked) false (uM os) #[.slice none 0 0, .agg #[.int .i64 0, .string ⟨#[]⟩, .int .i64 0, .slice none 0 0, .slice none 0 0], .int .u16 0] rfl (by kernel_rfl) (by kernel_rfl) (by kernel_rfl)
   (OpenSpec.preRow_of_cond 8 hx (by kernel_rfl) (fun k hk => by cases hk; kernel_rfl) (by kernel_rfl) (laid_met os _))) ?_
 intro W base args ds gs before hval hW _ hcond _ hL _ _
 exact contract H enc W base args ds gs before hval hW hL (hcond _ rfl)
theorem said : Rows.DeploymentMeaningUptoSaid :=
 OpenClaim.holds_of_cond 3 Tryz.f3 rfl rfl rfl rfl rfl rfl rfl ⟨rfl, rfl, rfl, rfl, rfl⟩ rfl rfl rfl rfl rfl (by kernel_rfl) func3 (by kernel_rfl)
  (of_decide_eq_true (by kernel_rfl)) (by unfold Func.isWrapper; first | (rw [if_pos (by decide +kernel)]; kernel_rfl) | (rw [if_neg (by decide +kernel)]; exact ⟨rfl, rfl⟩))
  (fun os started H enc _ F => by rw [OpenClaim.pre_eq_preRow]; exact lifted os started H enc F)
theorem plain (f : FuncId) (fn : Func) (hf : Tryz.pinned.checked.prog.funcNamed "sederunt/sederuntlaw25.DeploymentMeaning" = some f) (hfn : Tryz.pinned.checked.prog.funcs[f]? = some fn) :
  false = Tryz.pinned.checked.prog.looks [] ∧ ∀ (j : Nat) t, fn.params[j]? = some t → Tryz.pinned.checked.prog.wantsStandIn t = false := by
 obtain rfl : f = 3 := Option.some.inj ((show prog.funcNamed "sederunt/sederuntlaw25.DeploymentMeaning" = some 3 by kernel_rfl).symm.trans hf) |>.symm
 obtain rfl : fn = Tryz.f3 := (Option.some.inj (func3.symm.trans hfn)).symm
 refine ⟨by kernel_rfl, fun j t ht => ?_⟩
 rw [params3] at ht
 have hm : t ∈ [22, 26, 28] := by simpa using Array.mem_of_getElem? ht
 have hall : ([22, 26, 28].all fun u => !prog.wantsStandIn u) = true := by kernel_rfl
 exact (show prog.wantsStandIn t = false by simpa using List.all_eq_true.1 hall t hm)
theorem card : Rows.DeploymentMeaningUptoCardSaid :=
 Claim7.holds_tied_plain_at .later [] _ _ _ _ said (fun _ h => by cases h) (by kernel_rfl) (fun _ h => by cases h) deploymentMeaningUpto_row_tie rfl ⟨rfl, rfl⟩ (by kernel_rfl) rfl plain (by kernel_rfl)
#print axioms card
end Go.Proofs.YtmohibkomlhlaaaGreatDoor.meaning
