/- What the listed package-level variables give (the table of math/bits lies in the world), and a world for the witness. -/
import Derived.Test.YtdclhgngjbneiaaDoorCards
import Derived.Test.YtdclhgngjbneiaaDoorTie
import Derived.Test.YtdclhgngjbneiaaDoorBits
import Derived.ProofKit
import Derived.OpenShut
import Derived.Deep.DeepHandedRow
import Derived.Lib.LaidTab
namespace Go.Proofs.YtdclhgngjbneiaaDoor
open Go.ChangeShapes Go.WideShapes Go.ChangeAt Go.RowKit

theorem own_knob : ownKnob Tryd.prog.godebug = none := by kernel_rfl
theorem gTab : Tryd.prog.globalNamed "math/bits.deBruijn32tab" = some 1 := by kernel_rfl
theorem gTabType : (Tryd.prog.globals[1]?).map (·.type) = some 110 := by kernel_rfl
theorem cellsTab : Tryd.prog.cellsOf 110 = 32 := by kernel_rfl
theorem cells5 : Tryd.prog.cellsOf 5 = 1 := by kernel_rfl

theorem tz_of_laid {W : World} (h : laidMetH Tryd.prog Rows.printerSetsRow.laid W) : Tz W := by
  rw [MakeChecks.laidMetH_plain _ _ _ (by kernel_rfl)] at h
  have ht : Lib.TabIs Tryd.prog W "math/bits.deBruijn32tab" .u8 [0, 1, 28, 2, 29, 14, 24, 3, 30, 22, 20, 15, 25, 17, 4, 8, 31, 27, 13, 23, 21, 19, 16, 7, 26, 12, 18, 6, 11, 5, 10, 9] :=
    Lib.tabIs_of_head gTab gTabType Tryd.underlying110 Tryd.underlying5 cells5 cellsTab h
  have hc := fun i hi => ht.cell gTab i hi
  refine ⟨World.block_lt_of_cell? W _ (hc 0 (by decide)), fun i hi => ?_⟩
  rw [hc i hi]
  have : ∀ i, i < 32 → ([0, 1, 28, 2, 29, 14, 24, 3, 30, 22, 20, 15, 25, 17, 4, 8, 31, 27, 13, 23, 21, 19, 16, 7, 26, 12, 18, 6, 11, 5, 10, 9] : List Int).getD i 0 = ((tzTab.getD i 0 : Nat) : Int) := by decide
  rw [this i hi]

/-- The cells of a table of integers, of a table of tables. -/
def tabVal : DataW Unit → Value
  | .lit (.int k n) => .int k n
  | _ => .bool false
def tabVals : DataW Unit → List Value
  | .agg l => l.map tabVal
  | _ => []
def tabVals2 : DataW Unit → List Value
  | .agg l => l.flatMap tabVals
  | _ => []
def layAt (h : Array Obj) (g : Nat) (vs : List Value) : Array Obj := h.modify g fun
  | .cells _ t frozen => .cells vs.toArray t frozen
  | o => o
/-- A world for the witness: the settled one, the listed tables holding what their initialisers lay. -/
noncomputable def laidWorld (os : Os) : World :=
  { World.holding Tryd.prog os ⟨#[], #[], []⟩ with heap := layAt (layAt (layAt (layAt (layAt (World.holding Tryd.prog os ⟨#[], #[], []⟩).heap 1 (tabVals Rows.laid_math_bits_deBruijn32tab)) 5 (tabVals Rows.laid_math_bits_deBruijn64tab)) 2 (tabVals Rows.laid_internal_strconv_uint64pow10)) 4 (tabVals2 Rows.laid_unicode_utf8_acceptRanges)) 3 (tabVals Rows.laid_unicode_utf8_first) }
set_option maxRecDepth 100000 in
theorem laid_met (os : Os) (args : Array Value) : laidMet Tryd.prog Rows.printerSetsRow.laid ((laidWorld os).forCall (fun _ _ => 0) ⟨#[], args, []⟩).memory :=
  laidMet_of_run' 8 (by kernel_rfl) (by kernel_rfl)

/-- The row's last step where the call leaves all that was there as it was. -/
theorem post_of_below {H : Type} {enc : TypeId × Value → H} {P : Program} {f : Func} {s : ChangeSpec} {apart fresh handsOn again : Bool} {W W' : World} {args : Array Value} {v : Value} {ds gs : List (DataW H)} {before pa pv : List MemPlace}
    (hW : DataW.Whole enc P f.params.toList s.vars apart W args.toList ds gs before)
    (hres : ∀ (b : Nat) (sp : Nat → Bool) (hd : Bool), DataW.TrodAll enc P W' b sp hd f.resultTypes.toList (v.resultList f.resultTypes.size) (s.fn H (ds ++ gs)).results [])
    (hargs : ∀ sp : Nat → Bool, (∀ p ∈ before, sp p.block = true) → DataW.TrodAll enc P W' 0 sp true f.params.toList args.toList (s.fn H (ds ++ gs)).args pa)
    (hvars : ∀ sp : Nat → Bool, (∀ p ∈ before, sp p.block = true) → DataW.TrodVars enc P W' sp s.vars (s.fn H (ds ++ gs)).vars pv)
    (hps : before = pa ++ pv) (hb : Below W.heap.size W W')
    (hok : ∀ (j : Nat) (t : TypeId) (r : Value), f.resultTypes[j]? = some t → (v.resultList f.resultTypes.size)[j]? = some r → Value.okWide P W' .any 0 t r) :
    s.post enc P f apart fresh handsOn again W args v W' := by
  have hin : ∀ p ∈ before, p.block < W.heap.size := fun p hp => hW.lt p hp
  have hset : ∀ p ∈ before, (fun b => decide (b < W.heap.size)) p.block = true := fun p hp => decide_eq_true (hin p hp)
  refine ⟨ds, gs, before, [], pa, pv, hW, hres _ _ _, hargs _ hset, hvars _ hset, World.keptBut_mono (fun p hp => ⟨hp, ?_⟩) (hb.frame (· ∈ before)), fun _ => ?_⟩
  · rw [hps, List.mem_append] at hp
    exact Or.inr hp
  · obtain ⟨_, _, _, _, _, hz, hn⟩ := hW
    refine ⟨hok, _, _, ([] ++ pa) ++ pv, ⟨[] ++ pa, pv, trodAll_append (hargs _ (fun _ _ => rfl)) (hres _ _ _), hvars _ (fun _ _ => rfl), rfl, fun b off hp => ?_, fun ha => ?_⟩, fun p hp _ => ?_⟩
    · have hp' : MemPlace.cell b off ∈ before := by rw [hps]; simpa using hp
      rw [hb.frozen (hin _ hp')]
      exact hz b off hp'
    · have h := hn ha
      rw [hps] at h
      simpa using h
    · rw [hps]
      simpa using hp
end Go.Proofs.YtdclhgngjbneiaaDoor
