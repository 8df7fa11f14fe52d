/- The contract of the statement SyntaxNames: it returns true. Terms of a size up to a bound. SyntaxNames: the names of the program and of the reference are the same, for every term; up to a bulk of 1048576 (the second form), the listed tables as the program's text lays them. -/
import Derived.Test.YtipicaoinnblpaaGreatDoorPkNms
import Derived.Test.YtipicaoinnblpaaGreatDoorPkAw
import Derived.Test.YtipicaoinnblpaaGreatDoorPkOpen
namespace Go.Proofs.YtipicaoinnblpaaGreatDoor
open Go.RowKit

theorem five_cells {w : World} {b : Nat} {v0 v1 v2 v3 v4 : Value} {t : TypeId} (h : w.heap[b]? = some (.cells #[v0, v1, v2, v3, v4] t (0, 0))) : w.cell? ⟨b, 0, none⟩ = some v0 ∧ w.cell? ⟨b, 1, none⟩ = some v1 ∧ w.cell? ⟨b, 2, none⟩ = some v2 ∧ w.cell? ⟨b, 3, none⟩ = some v3 ∧ w.cell? ⟨b, 4, none⟩ = some v4 := by
  obtain ⟨h0, h1, h2, h3, h4, -⟩ := row5 h
  exact ⟨h0, h1, h2, h3, h4⟩
theorem equal_strs (ns : List ByteArray) (A1 A2 : Option Addr) (c1 c2 : Nat) (w : World) (S1 S2 : Nat → Prop) (h1 : SeesIn w S1 1 A1 ns.length (strVals ns)) (h2 : SeesIn w S2 1 A2 ns.length (strVals ns)) (hn : ns.length ≤ 1000000000) :
    Calls Tryz.prog 25 #[.slice A1 ns.length c1, .slice A2 ns.length c2] w fun e w' => e = .returned (.bool true) ∧ Below w.heap.size w w' := by
  rcases Nat.eq_zero_or_pos ns.length with h0 | h0
  · rw [h0]
    refine (Tryz.slices_Equal_string_empty A1 A2 c1 0 c2 w (by omega)).mono fun e w' h => ⟨by rw [h.1]; rfl, by rw [h.2]; exact Below.refl _ _⟩
  · obtain ⟨g1, o1, rfl, _, k1⟩ := h1.2 h0
    obtain ⟨g2, o2, rfl, _, k2⟩ := h2.2 h0
    refine (Tryz.slices_Equal_string g1 o1 ns.length c1 g2 o2 ns.length c2 ns ns w (Nat.le_refl _) (Nat.le_refl _) (by omega) (by omega) (fun j hj => k1 j _ (strVals_get ns j hj)) (fun j hj => k2 j _ (strVals_get ns j hj))).mono fun e w' h => ⟨by rw [h.1]; simp, ?_⟩
    obtain ⟨q, rfl⟩ := h.2
    exact below_drewN (Below.refl _ _) _

set_option maxRecDepth 100000 in
set_option maxHeartbeats 4000000 in
theorem names_law (t : Tm) (v : Value) (w : World) (S : Nat → Prop) (ht : TmAt w S t v) (hS : ∀ g, S g → g < w.heap.size) (hsz : tmSize t ≤ 1000000000) (hpw : Pow w) :
    Calls Tryz.prog 8 #[v] w fun e w' => e = .returned (.bool true) ∧ Below w.heap.size w w' := by
  have ht2 := ht
  obtain ⟨op, nm, nd, wA, wn, wc, kA, kn, kc, rfl⟩ := ht2.form
  obtain ⟨w0, hw0⟩ : ∃ w0 : World, w0 = w.alloc (.cells #[.int .i64 op, .string nm, .int .i64 nd, .slice wA wn wc, .slice kA kn kc] 32) := ⟨_, rfl⟩
  have hb0 : Below w.heap.size w w0 := by rw [hw0]; exact (Below.refl _ _).alloc (Nat.le_refl _) _
  have hz0 : w.heap.size < w0.heap.size := by rw [hw0]; simp
  have hr0 : w0.heap[w.heap.size]? = some (.cells #[.int .i64 op, .string nm, .int .i64 nd, .slice wA wn wc, .slice kA kn kc] 32 (0, 0)) := by rw [hw0]; exact heap_alloc_new w _
  have HT := Lib.hid (fun (W : World) (hW : Below w.heap.size w W) => (⟨ht.keep (kept_of hW hS), fun g hg => by have := hS g hg; have := hW.size; omega⟩ : TmAt W S t (.agg #[.int .i64 op, .string nm, .int .i64 nd, .slice wA wn wc, .slice kA kn kc]) ∧ ∀ g, S g → g < W.heap.size))
  have HSZ := Lib.hid (size_ref t _ w0 S (HT.out w0 hb0).1 (HT.out w0 hb0).2 hsz)
  have HNP := Lib.hid (fun (W : World) (hW : Below w.heap.size w W) => names_of t _ W S (HT.out W hW).1 (HT.out W hW).2 hsz)
  have HNR := Lib.hid (fun (W : World) (hW : Below w.heap.size w W) => names_ref t _ W S (HT.out W hW).1 (HT.out W hW).2 hsz)
  have hnl := tmNames_le t
  have hdl := tmDepth_le t
  obtain ⟨n, hn⟩ : ∃ n, n = tmSize t := ⟨_, rfl⟩
  obtain ⟨d, hd⟩ : ∃ d, d = tmDepth t := ⟨_, rfl⟩
  obtain ⟨ns, hns⟩ : ∃ ns, ns = tmNames t := ⟨_, rfl⟩
  rw [← hn, ← hd] at HSZ
  rw [← hns] at HNP HNR
  have hnb : n ≤ 1000000000 := by omega
  have hdb : d ≤ 1000000000 := by omega
  have hnsb : ns.length ≤ 1000000000 := by rw [hns]; omega
  have HP := Lib.hid hpw
  have HR0 := Lib.hid hr0
  have HW0 := Lib.hid hw0
  clear ht ht2 hn hd hns hpw hr0 hw0 HT hsz hnl hdl
  go_enter Tryz.func8, Tryz.ntmps8
  go_wp2_with fail
  rw [← HW0.out]
  refine HSZ.out.mono ?_
  rintro e W1 ⟨rfl, hb1⟩
  have hs1 := hb1.size
  have hbw1 := hb0.trans (hb1.mono (by omega))
  have hr1 := (hb1.block _ hz0).trans HR0.out
  go_wp2_with fail
  refine (awake23_any W1 (HP.out.below hbw1)).mono ?_
  rintro e W2 ⟨rfl, hb2⟩
  have hs2 := hb2.size
  have hbw2 := hbw1.trans (hb2.mono (by omega))
  have hr2 := (hb2.block _ (by omega)).trans hr1
  have HR2 := Lib.hid hr2
  clear hr1 hr2
  by_cases hbig : 3000 < n ∨ 100 < d
  · have HA := Lib.hid (awake23_any W2 (HP.out.below hbw2))
    by_cases h3 : 3000 < n
    · have hI : (3000 : Int) < (n : Int) := by omega
      clear hbig
      go_wp2_with fail
      refine HA.out.mono ?_
      rintro e W3 ⟨rfl, hb3⟩
      go_wp2
      go_ret
      exact ⟨rfl, hbw2.trans (hb3.mono (by omega))⟩
    · have hI : ¬ (3000 : Int) < (n : Int) := by omega
      have hJ : (100 : Int) < (d : Int) := by omega
      clear hbig
      go_wp2_with fail
      refine HA.out.mono ?_
      rintro e W3 ⟨rfl, hb3⟩
      go_wp2
      go_ret
      exact ⟨rfl, hbw2.trans (hb3.mono (by omega))⟩
  · have hI : ¬ (3000 : Int) < (n : Int) := by omega
    have hJ : ¬ (100 : Int) < (d : Int) := by omega
    clear hbig
    obtain ⟨c0, c1, c2, c3, c4, -⟩ := row5 HR2.out
    have hlt2 : w.heap.size < W2.heap.size := by omega
    go_wp2
    go_region_held3 (fun w' => w'.cell? ⟨w.heap.size, 0, none⟩ = some (.int .i64 op) ∧ w'.cell? ⟨w.heap.size, 1, none⟩ = some (.string nm) ∧ w'.cell? ⟨w.heap.size, 2, none⟩ = some (.int .i64 nd) ∧ w'.cell? ⟨w.heap.size, 3, none⟩ = some (.slice wA wn wc) ∧ w'.cell? ⟨w.heap.size, 4, none⟩ = some (.slice kA kn kc)) (first | go_keep | exact hkeep3 | exact hkeep4 | exact hkeep5)
      (first | (go_at_call 26; (refine (HNP.out _ (below_drewN hbw2 _)).mono ?_; rintro e W3 ⟨A3, a3, rfl, -, hs3, hb3⟩; have hz3 : W2.heap.size ≤ W3.heap.size := hb3.size; have hbw3 : Below w.heap.size w W3 := (below_drewN hbw2 _).trans (hb3.mono (show w.heap.size ≤ W2.heap.size from Nat.le_of_lt hlt2)); have hr3 := (hb3.block _ (show w.heap.size < W2.heap.size from hlt2)).trans HR2.out; have hkeep3 := five_cells hr3)) | (go_at_call 27; (refine (HNR.out _ hbw3).mono ?_; rintro e W4 ⟨A4, a4, rfl, -, hs4, hb4⟩; have hz4 := hb4.size; have hbw4 := hbw3.trans (hb4.mono hbw3.size); have hr4 := (hb4.block _ (lt_of_block hr3)).trans hr3; have hkeep4 := five_cells hr4)) | (go_at_call 25; (refine (equal_strs ns A3 A4 _ _ _ _ _ (hs3.keep (kept_all hb4)) hs4 hnsb).mono ?_; rintro e W5 ⟨rfl, hb5⟩; have hr5 := (hb5.block _ (lt_of_block hr4)).trans hr4; have hkeep5 := five_cells hr5)))
    all_goals (
      go_wp2
      go_ret
      exact ⟨rfl, hbw4.trans (hb5.mono hbw4.size)⟩)
end Go.Proofs.YtipicaoinnblpaaGreatDoor
namespace Go.Proofs.YtipicaoinnblpaaGreatDoor.names
open Go.ChangeShapes Go.WideShapes Go.ChangeAt Go.RowKit

set_option maxRecDepth 100000 in
theorem contract (H : Type) (enc : TypeId × Value → H) (W : World) (base : Nat) (args : Array Value) (ds gs : List (DataW H)) (before : List MemPlace)
    (hval : ∀ (j : Nat) t v, Tryz.f8.params[j]? = some t → args[j]? = some v → Value.okWide Tryz.prog W .any base t v)
    (hW : DataW.Whole enc Tryz.prog Tryz.f8.params.toList Rows.syntaxNamesSpec.vars false W args.toList ds gs before) (hL : laidMetH Tryz.prog Rows.syntaxNamesUptoRow.laid W) (hk : Rows.uptoSmall H (ds ++ gs) = true) :
    Calls Tryz.prog 8 args W fun e W' => ∃ v, e = .returned v ∧ Rows.syntaxNamesSpec.post enc Tryz.prog Tryz.f8 false true false false W args v W' := by
  have hW' := hW
  obtain ⟨p, q, hA0, hV, rfl, hfz, hnd⟩ := hW
  have hA : DataW.TrodAll enc Tryz.prog W 0 (fun _ => true) true Tryz.f8.params.toList args.toList ds p := hA0
  rw [Tryz.params8] at hA hval
  obtain ⟨v0, vs0, d0, ds0, p0, q0, hargs, rfl, rfl, h0, r0⟩ := trodAll_cons hA
  obtain ⟨rfl, rfl, rfl⟩ := trodAll_nil r0
  obtain rfl : args = #[v0] := by cases args; simp_all
  obtain ⟨rfl, rfl⟩ := trodVars_none hV
  clear hA0
  have o0 := hval 0 32 v0 rfl rfl
  obtain ⟨t, ht, hsz⟩ := open_term o0 h0
  have hbk := bulk_bound hk
  simp only [List.cons_append, List.nil_append, Rows.uptoBulkAll] at hbk
  refine (names_law t v0 W (· < W.heap.size) ht (fun g h => h) (by omega) (pow_of_laid hL)).mono fun e W' hh => ?_
  rw [hh.1]
  exact ⟨_, rfl, close_law (by kernel_rfl) rfl rfl hW' rfl hh.2⟩

set_option maxRecDepth 100000 in
theorem reads (os : Os) {H : Type} (enc : TypeId × Value → H) : ∃ places, DataW.whole enc Tryz.prog ((laidWorld os).forCall (fun _ _ => 0) ⟨#[], #[.agg #[.int .i64 0, .string ⟨#[]⟩, .int .i64 0, .slice none 0 0, .slice none 0 0]], []⟩).memory Tryz.f8.params.toList Rows.syntaxNamesSpec.vars false (#[.agg #[.int .i64 0, .string ⟨#[]⟩, .int .i64 0, .slice none 0 0, .slice none 0 0]] : Array Value).toList 8 = some ([.agg [.lit (.int .i64 0), .lit (.string []), .lit (.int .i64 0), .nil, .nil]], [], places) :=
  ⟨[], by kernel_rfl⟩

set_option maxRecDepth 100000 in
theorem lifted (os : Os) (started : os.Started) (H : Type) (enc : TypeId × Value → H) (F : Stop.Interp) :
    ReturnsInHanded {} Tryz.checked os 8 .any ((Rows.OpenSpec.upto Rows.syntaxNamesSpec).preRow enc Tryz.prog Tryz.f8 Rows.syntaxNamesUptoRow.domain false Rows.syntaxNamesUptoRow.laid) (((Rows.OpenSpec.upto Rows.syntaxNamesSpec).at F).post enc Tryz.prog Tryz.f8 false true false false) := by
  obtain ⟨places, hx⟩ := reads os enc
  refine returnsInHanded_of_row (C := Tryz.checked) (s := Rows.OpenSpec.upto Rows.syntaxNamesSpec) own_knob started (by kernel_rfl) Tryz.func8
    (witness_row_at (enc := enc) (C := Tryz.checked) false (laidWorld os) #[.agg #[.int .i64 0, .string ⟨#[]⟩, .int .i64 0, .slice none 0 0, .slice none 0 0]] rfl (by kernel_rfl) (by kernel_rfl) (by kernel_rfl)
      (OpenSpec.preRow_of_cond 8 hx (by kernel_rfl) (fun k hk => by cases hk; kernel_rfl) (by kernel_rfl) (laid_met os _))) ?_
  intro W base args ds gs before hval hW _ hcond _ hL _ _
  exact contract H enc W base args ds gs before hval hW hL (hcond _ rfl)

theorem said : Rows.SyntaxNamesUptoSaid :=
  OpenClaim.holds_of_cond 8 Tryz.f8 rfl rfl rfl rfl rfl rfl rfl ⟨rfl, rfl, rfl, rfl, rfl⟩ rfl rfl rfl rfl rfl (by kernel_rfl) Tryz.func8 (by kernel_rfl)
    (of_decide_eq_true (by kernel_rfl)) (by unfold Func.isWrapper; first | (rw [if_pos (by decide +kernel)]; kernel_rfl) | (rw [if_neg (by decide +kernel)]; exact ⟨rfl, rfl⟩))
    (fun os started H enc _ F => by rw [OpenClaim.pre_eq_preRow]; exact lifted os started H enc F)

set_option maxRecDepth 100000 in
theorem plain (f : FuncId) (fn : Func) (hf : Tryz.pinned.checked.prog.funcNamed "sederunt/sederuntlaw23.SyntaxNames" = some f) (hfn : Tryz.pinned.checked.prog.funcs[f]? = some fn) :
    false = Tryz.pinned.checked.prog.looks [] ∧ ∀ (j : Nat) t, fn.params[j]? = some t → Tryz.pinned.checked.prog.wantsStandIn t = false := by
  obtain rfl : f = 8 := Option.some.inj ((show Tryz.prog.funcNamed "sederunt/sederuntlaw23.SyntaxNames" = some 8 by kernel_rfl).symm.trans hf) |>.symm
  obtain rfl : fn = Tryz.f8 := (Option.some.inj (Tryz.func8.symm.trans hfn)).symm
  refine ⟨by kernel_rfl, fun j t ht => ?_⟩
  rw [Tryz.params8] at ht
  have hm : t ∈ [32] := by simpa using Array.mem_of_getElem? ht
  have hall : ([32].all fun u => !Tryz.prog.wantsStandIn u) = true := by kernel_rfl
  exact (show Tryz.prog.wantsStandIn t = false by simpa using List.all_eq_true.1 hall t hm)

theorem card : Rows.SyntaxNamesUptoCardSaid :=
  Claim7.holds_tied_plain_at .later [] _ _ _ _ said (fun _ h => by cases h) (by kernel_rfl) (fun _ h => by cases h) syntaxNamesUpto_row_tie rfl ⟨rfl, rfl⟩ (by kernel_rfl) rfl plain (by kernel_rfl)
#print axioms card
end Go.Proofs.YtipicaoinnblpaaGreatDoor.names
