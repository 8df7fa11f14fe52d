/- The contract of the statement SyntaxLarge: it returns true. SyntaxLarge: a text of one chain with more than 3000 tokens is too large, and else is read, for every number. No condition but that the listed tables are as the program's text lays them. -/
import Derived.Test.YtipicaoinnblpaaGreatDoorPkRep
import Derived.Test.YtipicaoinnblpaaGreatDoorPkAw
namespace Go.Proofs.YtipicaoinnblpaaGreatDoor
open Go.RowKit

def nilTm : List Value := [.int .i64 0, .string ⟨#[]⟩, .int .i64 0, .slice none 0 0, .slice none 0 0]
/-- The chain's declaration in memory. -/
theorem chain_at (w : World) (k b g : Nat) (S : Nat → Prop) (hSb : S b) (hSg : S g) (hb : w.heap[b]? = some (.cells (repCells (.string (bs [97])) k k).toArray 9 (0, 0)))
    (hg : w.heap[g]? = some (.cells #[.int .i64 7, .int .i64 0, .string ⟨#[]⟩, .slice (some ⟨b, 0, none⟩) k k, .slice none 0 0, .int .i64 0, .string ⟨#[]⟩, .int .i64 0, .slice none 0 0, .slice none 0 0, .string ⟨#[]⟩, .int .i64 0, .string ⟨#[]⟩, .int .i64 0, .slice none 0 0, .slice none 0 0, .int .i64 0, .string ⟨#[]⟩, .int .i64 0, .slice none 0 0, .slice none 0 0, .string ⟨#[]⟩] 54 (0, 0))) :
    ListAt (DcAt w S) w S 22 (some ⟨g, 0, none⟩) [chainDc k] := by
  refine ⟨[.agg #[.int .i64 7, .int .i64 0, .string ⟨#[]⟩, .slice (some ⟨b, 0, none⟩) k k, .slice none 0 0, .int .i64 0, .string ⟨#[]⟩, .int .i64 0, .slice none 0 0, .slice none 0 0, .string ⟨#[]⟩, .int .i64 0, .string ⟨#[]⟩, .int .i64 0, .slice none 0 0, .slice none 0 0, .int .i64 0, .string ⟨#[]⟩, .int .i64 0, .slice none 0 0, .slice none 0 0, .string ⟨#[]⟩]], rfl, ⟨rfl, fun _ => ⟨g, 0, rfl, hSg, fun j u hu => ?_⟩⟩, fun i x v hx hv => ?_⟩
  · rw [Nat.zero_add, cell_of_row _ _ j _ _ _ hg]
    simpa [cellsOf, Value.cells] using hu
  · cases i with
    | succ i => exact absurd (List.getElem?_eq_some_iff.1 hx).1 (by simp)
    | zero =>
      obtain rfl : chainDc k = x := Option.some.inj hx
      obtain rfl := Option.some.inj hv
      have hz : TmAt w S .zero (.agg #[.int .i64 0, .string (bs []), .int .i64 0, .slice none 0 0, .slice none 0 0]) := .mk 0 (bs []) 0 [] [] none none 0 0 [] (.empty _ _ _ _) (Nat.le_refl _) (.empty _ _ _ _) (Nat.le_refl _) rfl (fun i t v h => by simp at h)
      have hl : (chainDc k).names.length = k := by simp [chainDc]
      refine ⟨some ⟨b, 0, none⟩, k, none, 0, .agg #[.int .i64 0, .string (bs []), .int .i64 0, .slice none 0 0, .slice none 0 0], .agg #[.int .i64 0, .string (bs []), .int .i64 0, .slice none 0 0, .slice none 0 0], .agg #[.int .i64 0, .string (bs []), .int .i64 0, .slice none 0 0, .slice none 0 0], ?_, ?_, by rw [hl]; exact Nat.le_refl _, ListAt.empty _ _ _ _ _, Nat.le_refl _, hz, hz, hz⟩
      · rw [hl]; simp [chainDc, Value.cells, bs]
      · rw [hl]
        refine ⟨by simp [chainDc], fun _ => ⟨b, 0, rfl, hSb, fun j u hu => ?_⟩⟩
        rw [Nat.zero_add, cell_of_row _ _ j _ _ _ hb, List.getElem?_toArray]
        have hj : j < k := by
          have := (List.getElem?_eq_some_iff.1 hu).1
          simpa [chainDc] using this
        rw [rep_at _ _ _ _ hj]
        simp only [chainDc, List.getElem?_map, List.getElem?_replicate, if_pos hj] at hu
        simpa using hu
theorem chain_lim (k : Nat) (hk : k ≤ 2000) : ∀ d ∈ [chainDc k], TLim d := by
  intro d hd
  rw [List.mem_singleton.1 hd]
  refine ⟨by simp [chainDc]; omega, by simp [chainDc], ?_, show tmSize .zero ≤ _ by decide, show tmSize .zero ≤ _ by decide, show tmSize .zero ≤ _ by decide⟩
  intro f hf
  simp [chainDc] at hf
theorem chain_size (k : Nat) (h : 0 < k) (hk : k ≤ 2000) : (dcsText [chainDc k]).length ≤ 100000000000000 := by
  unfold dcsText
  simp [chain_len k h]; omega

set_option maxRecDepth 100000 in
set_option maxHeartbeats 8000000 in
theorem large_any (z : Int) (hz0 : 0 ≤ z) (hz1 : z ≤ 65535) (w : World) (hpw : Pow w) : Calls Tryz.prog 10 #[.int .u16 z] w fun e w' => e = .returned (.bool true) ∧ Below w.heap.size w w' := by
  obtain ⟨r, hr⟩ : ∃ r : Nat, (r : Int) = z % 20 := ⟨(z % 20).toNat, by omega⟩
  have hrb : r ≤ 19 := by omega
  have hzr : z % 20 = (r : Int) := hr.symm
  have HP := Lib.hid hpw
  have HA := Lib.hid (awake23_any w hpw)
  obtain ⟨k, hk⟩ : ∃ k, k = 1490 + r := ⟨_, rfl⟩
  have hk1 : 1 ≤ k := by omega
  have hk2 : k ≤ 2000 := by omega
  have e1 : (1490 : Int) + (r : Int) = (k : Int) := by omega
  have HREP := Lib.hid (fun (W : World) => show Calls Tryz.prog 29 #[.string ⟨#[44, 32, 97]⟩, .int .i64 ((k : Int) - 1)] W (fun e w' => e = .returned (.string ⟨(Lib.repeatL [44, 32, 97] (k - 1)).toArray⟩) ∧ Below W.heap.size W w') by
    rw [show (k : Int) - 1 = ((k - 1 : Nat) : Int) by omega]
    exact Tryz.strings_Repeat ⟨#[44, 32, 97]⟩ (k - 1) W (by omega) (by show 3 * (k - 1) ≤ _; omega))
  obtain ⟨R, hR⟩ : ∃ R : ByteArray, R = ⟨(Lib.repeatL [44, 32, 97] (k - 1)).toArray⟩ := ⟨_, rfl⟩
  have hRs : R.size ≤ 10000 := by rw [hR]; show (Lib.repeatL [44, 32, 97] (k - 1)).toArray.size ≤ _; rw [List.size_toArray, repeat_length]; simp; omega
  rw [← hR] at HREP
  have HT := Lib.hid (show (⟨#[99, 104, 97, 105, 110, 32, 97]⟩ : ByteArray) ++ R ++ (⟨#[59]⟩ : ByteArray) = bs (dcText (chainDc k)) by
    rw [chain_text k hk1, hR, show (⟨#[99, 104, 97, 105, 110, 32, 97]⟩ : ByteArray) = bs [99, 104, 97, 105, 110, 32, 97] from rfl, show (⟨#[59]⟩ : ByteArray) = bs [59] from rfl, bs_eq, bs_append, bs_append])
  have hkr : k ≤ 1499 ↔ r ≤ 9 := by omega
  have hw1 : IntKind.i64.wrap ((k : Int) - 1) = (k : Int) - 1 := IntWalk.i64_in _ (by omega)
  have HKR := Lib.hid hkr
  clear hr hR hpw hk hkr
  go_enter Tryz.func10, Tryz.ntmps10
  go_wp2_with fail
  refine HA.out.mono ?_
  rintro e W1 ⟨rfl, hb1⟩
  go_wp2_with fail
  refine (HREP.out _).mono ?_
  rintro e W2 ⟨rfl, hb2⟩
  have hbw2 := hb1.trans (hb2.mono hb1.size)
  by_cases hsm : k ≤ 1499
  · obtain ⟨d0, hd0⟩ := chain_few k hk1 hsm
    have HPA := Lib.hid (show ∀ W : World, Calls Tryz.prog 12 #[.string ((⟨#[99, 104, 97, 105, 110, 32, 97]⟩ : ByteArray) ++ R ++ (⟨#[59]⟩ : ByteArray))] W (PfPost ([d0], 0, 0) W) from fun W => by
      have h := parse_any (bs (dcText (chainDc k))) W
      rw [bs_data, hd0] at h
      rw [HT.out]; exact h)
    have hI : ¬ (3000 : Int) < 2 * (k : Int) + 1 := by omega
    clear hd0
    go_wp2_with fail
    refine (HPA.out _).mono ?_
    rintro e W3 ⟨A3, c3, rfl, hc3, hl3, hb3⟩
    have hs2 := hb2.size
    have hs1 := hb1.size
    have hs3 := hb3.size
    have hbw3 := hbw2.trans (hb3.mono (by omega))
    have HL3 := Lib.hid hl3
    clear hl3 HREP
    go_wp2_with fail
    refine (repeat_any (bs [97]) k W3.heap.size 1 _ hk1 hk2 (heap_alloc_new W3 _)).mono ?_
    rintro e W4 ⟨rfl, hr4, hb4⟩
    have hz3 : (W3.alloc (.cells #[.string (bs [97])] 9)).heap.size = W3.heap.size + 1 := by simp
    rw [hz3] at hr4 hb4 ⊢
    have hs4 := hb4.size
    rw [hz3] at hs4
    have hbw4 : Below w.heap.size w W4 := (hbw3.alloc hbw3.size _).trans (hb4.mono (by have := hbw3.size; omega))
    obtain ⟨W5, hW5⟩ : ∃ W5 : World, W5 = W4.alloc (.cells #[.int .i64 7, .int .i64 0, .string ⟨#[]⟩, .slice (some ⟨W3.heap.size + 1, 0, none⟩) k k, .slice none 0 0, .int .i64 0, .string ⟨#[]⟩, .int .i64 0, .slice none 0 0, .slice none 0 0, .string ⟨#[]⟩, .int .i64 0, .string ⟨#[]⟩, .int .i64 0, .slice none 0 0, .slice none 0 0, .int .i64 0, .string ⟨#[]⟩, .int .i64 0, .slice none 0 0, .slice none 0 0, .string ⟨#[]⟩] 54) := ⟨_, rfl⟩
    have hz5 : W5.heap.size = W4.heap.size + 1 := by rw [hW5]; simp
    have hr5 : W5.heap[W4.heap.size]? = some (.cells #[.int .i64 7, .int .i64 0, .string ⟨#[]⟩, .slice (some ⟨W3.heap.size + 1, 0, none⟩) k k, .slice none 0 0, .int .i64 0, .string ⟨#[]⟩, .int .i64 0, .slice none 0 0, .slice none 0 0, .string ⟨#[]⟩, .int .i64 0, .string ⟨#[]⟩, .int .i64 0, .slice none 0 0, .slice none 0 0, .int .i64 0, .string ⟨#[]⟩, .int .i64 0, .slice none 0 0, .slice none 0 0, .string ⟨#[]⟩] 54 (0, 0)) := by rw [hW5]; exact heap_alloc_new W4 _
    have hb5 : Below W4.heap.size W4 W5 := by rw [hW5]; exact (Below.refl _ _).alloc (Nat.le_refl _) _
    have hbw5 := hbw4.trans (hb5.mono hbw4.size)
    have hl4 := lt_of_block hr4
    have hv := valid_any [chainDc k] (some ⟨W4.heap.size, 0, none⟩) 1 W5 (fun g => g < W5.heap.size) (chain_at W5 k (W3.heap.size + 1) W4.heap.size _ (by omega) (by omega) ((hb5.block _ hl4).trans hr4) hr5) (fun g h => h) (by show 1 ≤ _; omega) (chain_lim k hk2) (fun _ => chain_size k hk1 hk2) (HP.out.below hbw5)
    rw [chain_valid k hk1 hk2, if_pos hsm] at hv
    have HV := Lib.hid hv
    have HW5 := Lib.hid hW5
    clear hr4 hb4 hr5 hb5 hW5 hv hz5 hl4 hz3
    go_wp2_with fail
    rw [← HW5.out]
    refine HV.out.mono ?_
    rintro e W6 ⟨rfl, hb6⟩
    go_wp2
    go_ret
    exact ⟨rfl, hbw5.trans (hb6.mono hbw5.size)⟩
  · have hd0 := chain_many k (by omega) hk2
    have HPA := Lib.hid (show ∀ W : World, Calls Tryz.prog 12 #[.string ((⟨#[99, 104, 97, 105, 110, 32, 97]⟩ : ByteArray) ++ R ++ (⟨#[59]⟩ : ByteArray))] W (PfPost ([], 0, 3) W) from fun W => by
      have h := parse_any (bs (dcText (chainDc k))) W
      rw [bs_data, hd0] at h
      rw [HT.out]; exact h)
    have hI : (3000 : Int) < 2 * (k : Int) + 1 := by omega
    clear hd0
    go_wp2_with fail
    refine (HPA.out _).mono ?_
    rintro e W3 ⟨A3, c3, rfl, hc3, hl3, hb3⟩
    have hs2 := hb2.size
    have hs1 := hb1.size
    have hs3 := hb3.size
    have hbw3 := hbw2.trans (hb3.mono (by omega))
    have HL3 := Lib.hid hl3
    clear hl3 HREP
    go_wp2_with fail
    refine (repeat_any (bs [97]) k W3.heap.size 1 _ hk1 hk2 (heap_alloc_new W3 _)).mono ?_
    rintro e W4 ⟨rfl, hr4, hb4⟩
    have hz3 : (W3.alloc (.cells #[.string (bs [97])] 9)).heap.size = W3.heap.size + 1 := by simp
    rw [hz3] at hr4 hb4 ⊢
    have hs4 := hb4.size
    rw [hz3] at hs4
    have hbw4 : Below w.heap.size w W4 := (hbw3.alloc hbw3.size _).trans (hb4.mono (by have := hbw3.size; omega))
    obtain ⟨W5, hW5⟩ : ∃ W5 : World, W5 = W4.alloc (.cells #[.int .i64 7, .int .i64 0, .string ⟨#[]⟩, .slice (some ⟨W3.heap.size + 1, 0, none⟩) k k, .slice none 0 0, .int .i64 0, .string ⟨#[]⟩, .int .i64 0, .slice none 0 0, .slice none 0 0, .string ⟨#[]⟩, .int .i64 0, .string ⟨#[]⟩, .int .i64 0, .slice none 0 0, .slice none 0 0, .int .i64 0, .string ⟨#[]⟩, .int .i64 0, .slice none 0 0, .slice none 0 0, .string ⟨#[]⟩] 54) := ⟨_, rfl⟩
    have hz5 : W5.heap.size = W4.heap.size + 1 := by rw [hW5]; simp
    have hr5 : W5.heap[W4.heap.size]? = some (.cells #[.int .i64 7, .int .i64 0, .string ⟨#[]⟩, .slice (some ⟨W3.heap.size + 1, 0, none⟩) k k, .slice none 0 0, .int .i64 0, .string ⟨#[]⟩, .int .i64 0, .slice none 0 0, .slice none 0 0, .string ⟨#[]⟩, .int .i64 0, .string ⟨#[]⟩, .int .i64 0, .slice none 0 0, .slice none 0 0, .int .i64 0, .string ⟨#[]⟩, .int .i64 0, .slice none 0 0, .slice none 0 0, .string ⟨#[]⟩] 54 (0, 0)) := by rw [hW5]; exact heap_alloc_new W4 _
    have hb5 : Below W4.heap.size W4 W5 := by rw [hW5]; exact (Below.refl _ _).alloc (Nat.le_refl _) _
    have hbw5 := hbw4.trans (hb5.mono hbw4.size)
    have hl4 := lt_of_block hr4
    have hv := valid_any [chainDc k] (some ⟨W4.heap.size, 0, none⟩) 1 W5 (fun g => g < W5.heap.size) (chain_at W5 k (W3.heap.size + 1) W4.heap.size _ (by omega) (by omega) ((hb5.block _ hl4).trans hr4) hr5) (fun g h => h) (by show 1 ≤ _; omega) (chain_lim k hk2) (fun _ => chain_size k hk1 hk2) (HP.out.below hbw5)
    rw [chain_valid k hk1 hk2, if_neg hsm] at hv
    have HV := Lib.hid hv
    have HW5 := Lib.hid hW5
    clear hr4 hb4 hr5 hb5 hW5 hv hz5 hl4 hz3
    go_wp2_with fail
    rw [← HW5.out]
    refine HV.out.mono ?_
    rintro e W6 ⟨rfl, hb6⟩
    go_wp2
    go_ret
    exact ⟨rfl, hbw5.trans (hb6.mono hbw5.size)⟩
end Go.Proofs.YtipicaoinnblpaaGreatDoor
namespace Go.Proofs.YtipicaoinnblpaaGreatDoor.large
open Go.ChangeShapes Go.WideShapes Go.ChangeAt Go.RowKit

set_option maxRecDepth 100000 in
theorem contract (H : Type) (enc : TypeId × Value → H) (W : World) (base : Nat) (args : Array Value) (ds gs : List (DataW H)) (before : List MemPlace)
    (hval : ∀ (j : Nat) t v, Tryz.f10.params[j]? = some t → args[j]? = some v → Value.okWide Tryz.prog W .any base t v)
    (hW : DataW.Whole enc Tryz.prog Tryz.f10.params.toList Rows.syntaxLargeSpec.vars false W args.toList ds gs before) (hL : laidMetH Tryz.prog Rows.syntaxLargeRow.laid W) :
    Calls Tryz.prog 10 args W fun e W' => ∃ v, e = .returned v ∧ Rows.syntaxLargeSpec.post enc Tryz.prog Tryz.f10 false true false false W args v W' := by
  have hW' := hW
  obtain ⟨p, q, hA0, hV, rfl, hfz, hnd⟩ := hW
  have hA : DataW.TrodAll enc Tryz.prog W 0 (fun _ => true) true Tryz.f10.params.toList args.toList ds p := hA0
  rw [Tryz.params10] at hA hval
  obtain ⟨v0, vs0, d0, ds0, p0, q0, hargs, rfl, rfl, h0, r0⟩ := trodAll_cons hA
  obtain ⟨rfl, rfl, rfl⟩ := trodAll_nil r0
  obtain rfl : args = #[v0] := by cases args; simp_all
  obtain ⟨rfl, rfl⟩ := trodVars_none hV
  clear hA0
  have o0 := hval 0 49 v0 rfl rfl
  obtain ⟨z, rfl, rfl, rfl, wz⟩ := open_int Tryz.underlying49 o0 h0
  have wz2 : 0 ≤ z ∧ z ≤ 65535 := by simpa [Lit.wf, IntKind.min, IntKind.max, IntKind.signed, IntKind.bits] using wz
  refine (large_any z wz2.1 wz2.2 W (pow_of_laid hL)).mono fun e W' hh => ?_
  rw [hh.1]
  exact ⟨_, rfl, close_law (by kernel_rfl) rfl rfl hW' rfl hh.2⟩

set_option maxRecDepth 100000 in
theorem reads (os : Os) {H : Type} (enc : TypeId × Value → H) : ∃ places, DataW.whole enc Tryz.prog ((laidWorld os).forCall (fun _ _ => 0) ⟨#[], #[.int .u16 0], []⟩).memory Tryz.f10.params.toList Rows.syntaxLargeSpec.vars false (#[.int .u16 0] : Array Value).toList 8 = some ([.lit (.int .u16 0)], [], places) :=
  ⟨[], by kernel_rfl⟩

set_option maxRecDepth 100000 in
theorem lifted (os : Os) (started : os.Started) (H : Type) (enc : TypeId × Value → H) (F : Stop.Interp) :
    ReturnsInHanded {} Tryz.checked os 10 .any ((OpenSpec.ofChange Rows.syntaxLargeSpec).preRow enc Tryz.prog Tryz.f10 Rows.syntaxLargeRow.domain false Rows.syntaxLargeRow.laid) (((OpenSpec.ofChange Rows.syntaxLargeSpec).at F).post enc Tryz.prog Tryz.f10 false true false false) := by
  obtain ⟨places, hx⟩ := reads os enc
  refine returnsInHanded_of_row (C := Tryz.checked) (s := OpenSpec.ofChange Rows.syntaxLargeSpec) own_knob started (by kernel_rfl) Tryz.func10
    (witness_row_at (enc := enc) (C := Tryz.checked) false (laidWorld os) #[.int .u16 0] rfl (by kernel_rfl) (by kernel_rfl) (by kernel_rfl)
      (OpenSpec.preRow_of_cond 8 hx (by kernel_rfl) (fun k hk => by cases hk) (by kernel_rfl) (laid_met os _))) ?_
  intro W base args ds gs before hval hW _ _ _ hL _ _
  exact contract H enc W base args ds gs before hval hW hL

theorem said : Rows.SyntaxLargeSaid :=
  OpenClaim.holds_of_cond 10 Tryz.f10 rfl rfl rfl rfl rfl rfl rfl ⟨rfl, rfl, rfl, rfl, rfl⟩ rfl rfl rfl rfl rfl (by kernel_rfl) Tryz.func10 (by kernel_rfl)
    (of_decide_eq_true (by kernel_rfl)) (by unfold Func.isWrapper; first | (rw [if_pos (by decide +kernel)]; kernel_rfl) | (rw [if_neg (by decide +kernel)]; exact ⟨rfl, rfl⟩))
    (fun os started H enc _ F => by rw [OpenClaim.pre_eq_preRow]; exact lifted os started H enc F)

set_option maxRecDepth 100000 in
theorem plain (f : FuncId) (fn : Func) (hf : Tryz.pinned.checked.prog.funcNamed "sederunt/sederuntlaw23.SyntaxLarge" = some f) (hfn : Tryz.pinned.checked.prog.funcs[f]? = some fn) :
    false = Tryz.pinned.checked.prog.looks [] ∧ ∀ (j : Nat) t, fn.params[j]? = some t → Tryz.pinned.checked.prog.wantsStandIn t = false := by
  obtain rfl : f = 10 := Option.some.inj ((show Tryz.prog.funcNamed "sederunt/sederuntlaw23.SyntaxLarge" = some 10 by kernel_rfl).symm.trans hf) |>.symm
  obtain rfl : fn = Tryz.f10 := (Option.some.inj (Tryz.func10.symm.trans hfn)).symm
  refine ⟨by kernel_rfl, fun j t ht => ?_⟩
  rw [Tryz.params10] at ht
  have hm : t ∈ [49] := by simpa using Array.mem_of_getElem? ht
  have hall : ([49].all fun u => !Tryz.prog.wantsStandIn u) = true := by kernel_rfl
  exact (show Tryz.prog.wantsStandIn t = false by simpa using List.all_eq_true.1 hall t hm)

theorem card : Rows.SyntaxLargeCardSaid :=
  Claim7.holds_tied_plain_at .later [] _ _ _ _ said (fun _ h => by cases h) (by kernel_rfl) (fun _ h => by cases h) syntaxLarge_row_tie rfl ⟨rfl, rfl⟩ (by kernel_rfl) rfl plain (by kernel_rfl)
#print axioms card
end Go.Proofs.YtipicaoinnblpaaGreatDoor.large
