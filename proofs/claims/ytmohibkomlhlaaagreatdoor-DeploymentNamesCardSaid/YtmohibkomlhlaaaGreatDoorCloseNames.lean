/- DeploymentNames: Config and Server return what has a name, or ErrNotFound, and Equal compares, for all deployments and names. No condition but that the listed tables are as the program's text lays them. -/
import Derived.Test.YtmohibkomlhlaaaGreatDoorPne
set_option maxRecDepth 100000
namespace Go.Proofs.YtmohibkomlhlaaaGreatDoor.dnames
open Go.ChangeShapes Go.WideShapes Go.ChangeAt Go.RowKit
open _root_.Go.Proofs.Tryz
theorem contract (H : Type) (enc : TypeId × Value → H) (W : World) (base : Nat) (args : Array Value) (ds gs : List (DataW H)) (before : List MemPlace)
  (hval : ∀ (j : Nat) t v, Tryz.f5.params[j]? = some t → args[j]? = some v → Value.okWide prog W .any base t v)
  (hW : DataW.Whole enc prog Tryz.f5.params.toList Rows.deploymentNamesSpec.vars false W args.toList ds gs before) (hL : laidMetH prog Rows.deploymentNamesRow.laid W) :
  Calls prog 5 args W fun e W' => ∃ v, e = .returned v ∧ Rows.deploymentNamesSpec.post enc prog Tryz.f5 false true false false W args v W' := by
 have hW' := hW
 obtain ⟨p, q, hA0, hV, rfl, hfz, hnd⟩ := hW
 have hA : DataW.TrodAll enc prog W 0 (fun _ => true) true Tryz.f5.params.toList args.toList ds p := hA0
 rw [params5] at hA hval
 obtain ⟨v0, vs0, d0, ds0, p0, q0, hargs, rfl, rfl, h0, r0⟩ := trodAll_cons hA
 obtain ⟨v1, vs1, d1, ds1, p1, q1, rfl, rfl, rfl, h1, r1⟩ := trodAll_cons r0
 obtain ⟨v2, vs2, d2, ds2, p2, q2, rfl, rfl, rfl, h2, r2⟩ := trodAll_cons r1
 obtain ⟨rfl, rfl, rfl⟩ := trodAll_nil r2
 obtain rfl : args = #[v0, v1, v2] := by cases args; simp_all
 obtain ⟨rfl, rfl⟩ := trodVars_none hV
 clear hA0
 have o0 := hval 0 48 v0 rfl rfl
 have o1 := hval 1 48 v1 rfl rfl
 have o2 := hval 2 9 v2 rfl rfl
 obtain ⟨a, ha, hna, hma⟩ := open_dep o0 h0
 obtain ⟨b, hb, hnb, -⟩ := open_dep o1 h1
 obtain ⟨n, rfl, rfl, rfl, wn⟩ := Go.ChangeMaps.open_string underlying9 o2 h2
 refine (names_law a b v0 v1 n W (· < W.heap.size) ha hb (fun g h => h) hna hnb hma (CQ hL) (Fb hL)).mono fun e W' hh => ?_
 rw [hh.1]
 exact ⟨_, rfl, close_law (by kernel_rfl) rfl rfl hW' rfl hh.2⟩
theorem reads (os : Os) {H : Type} (enc : TypeId × Value → H) : ∃ places, DataW.whole enc prog ((uM os).forCall (fun _ _ => 0) ⟨#[], #[.agg #[.slice none 0 0, .slice none 0 0, .int .u16 0, .slice none 0 0, .slice none 0 0, .slice none 0 0], .agg #[.slice none 0 0, .slice none 0 0, .int .u16 0, .slice none 0 0, .slice none 0 0, .slice none 0 0], .string ⟨#[]⟩], []⟩).memory Tryz.f5.params.toList Rows.deploymentNamesSpec.vars false (#[.agg #[.slice none 0 0, .slice none 0 0, .int .u16 0, .slice none 0 0, .slice none 0 0, .slice none 0 0], .agg #[.slice none 0 0, .slice none 0 0, .int .u16 0, .slice none 0 0, .slice none 0 0, .slice none 0 0], .string ⟨#[]⟩] : Array Value).toList 8 = some ([.agg [.nil, .nil, .lit (.int .u16 0), .nil, .nil, .nil], .agg [.nil, .nil, .lit (.int .u16 0), .nil, .nil, .nil], .lit (.string [])], [], places) :=
 ⟨[], by kernel_rfl⟩
theorem lifted (os : Os) (started : os.Started) (H : Type) (enc : TypeId × Value → H) (F : Stop.Interp) :
  ReturnsInHanded {} Tryz.checked os 5 .any ((OpenSpec.ofChange Rows.deploymentNamesSpec).preRow enc prog Tryz.f5 Rows.deploymentNamesRow.domain false Rows.deploymentNamesRow.laid) (((OpenSpec.ofChange Rows.deploymentNamesSpec).at F).post enc prog Tryz.f5 false true false false) := by
 obtain ⟨places, hx⟩ := reads os enc
 refine returnsInHanded_of_row (C := Tryz.checked) (s := OpenSpec.ofChange Rows.deploymentNamesSpec) own_knob started (by kernel_rfl) func5
  (witness_row_at (enc := enc) (C := Tryz.checked) false (uM os) #[.agg #[.slice none 0 0, .slice none 0 0, .int .u16 0, .slice none 0 0, .slice none 0 0, .slice none 0 0], .agg #[.slice none 0 0, .slice none 0 0, .int .u16 0, .slice none 0 0, .slice none 0 0, .slice none 0 0], .string ⟨#[]⟩] rfl (by kernel_rfl) (by kernel_rfl) (by kernel_rfl)
   (OpenSpec.preRow_of_cond 8 hx (by kernel_rfl) (fun k hk => by cases hk) (by kernel_rfl) (laid_met os _))) ?_
 intro W base args ds gs before hval hW _ _ _ hL _ _
 exact contract H enc W base args ds gs before hval hW hL
theorem said : Rows.DeploymentNamesSaid :=
 OpenClaim.holds_of_cond 5 Tryz.f5 rfl rfl rfl rfl rfl rfl rfl ⟨rfl, rfl, rfl, rfl, rfl⟩ rfl rfl rfl rfl rfl (by kernel_rfl) func5 (by kernel_rfl)
  (of_decide_eq_true (by kernel_rfl)) (by unfold Func.isWrapper; first | (rw [if_pos (by decide +kernel)]; kernel_rfl) | (rw [if_neg (by decide +kernel)]; exact ⟨rfl, rfl⟩))
  (fun os started H enc _ F => by rw [OpenClaim.pre_eq_preRow]; exact lifted os started H enc F)
theorem plain (f : FuncId) (fn : Func) (hf : Tryz.pinned.checked.prog.funcNamed "sederunt/sederuntlaw25.DeploymentNames" = some f) (hfn : Tryz.pinned.checked.prog.funcs[f]? = some fn) :
  false = Tryz.pinned.checked.prog.looks [] ∧ ∀ (j : Nat) t, fn.params[j]? = some t → Tryz.pinned.checked.prog.wantsStandIn t = false := by
 obtain rfl : f = 5 := Option.some.inj ((show prog.funcNamed "sederunt/sederuntlaw25.DeploymentNames" = some 5 by kernel_rfl).symm.trans hf) |>.symm
 obtain rfl : fn = Tryz.f5 := (Option.some.inj (func5.symm.trans hfn)).symm
 refine ⟨by kernel_rfl, fun j t ht => ?_⟩
 rw [params5] at ht
 have hm : t ∈ [48, 48, 9] := by simpa using Array.mem_of_getElem? ht
 have hall : ([48, 48, 9].all fun u => !prog.wantsStandIn u) = true := by kernel_rfl
 exact (show prog.wantsStandIn t = false by simpa using List.all_eq_true.1 hall t hm)
theorem card : Rows.DeploymentNamesCardSaid :=
 Claim7.holds_tied_plain_at .later [] _ _ _ _ said (fun _ h => by cases h) (by kernel_rfl) (fun _ h => by cases h) deploymentNames_row_tie rfl ⟨rfl, rfl⟩ (by kernel_rfl) rfl plain (by kernel_rfl)
#print axioms card
end Go.Proofs.YtmohibkomlhlaaaGreatDoor.dnames
