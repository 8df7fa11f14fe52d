/- PrinterDifferent: different sets of the twelve servers have different texts, for every two sets. No condition but that the listed tables are as the program's text lays them. -/
import Derived.Test.YtdclhgngjbneiaaDoorAwake
import Derived.Test.YtdclhgngjbneiaaDoorFrame
namespace Go.Proofs.YtdclhgngjbneiaaDoor
open Go.RowKit

/-- The twelve names. -/
def abl : List ByteArray := [⟨#[97]⟩, ⟨#[98]⟩, ⟨#[99]⟩, ⟨#[100]⟩, ⟨#[101]⟩, ⟨#[102]⟩, ⟨#[103]⟩, ⟨#[104]⟩, ⟨#[105]⟩, ⟨#[106]⟩, ⟨#[107]⟩, ⟨#[108]⟩]
def letter (c : UInt8) : Bool := c != 44 && c != 32
theorem filter_tail (l : List (List UInt8)) (h : ∀ x ∈ l, x.filter letter = x) : (Lib.joinTail [44, 32] l).filter letter = l.flatten := by
  induction l with
  | nil => rfl
  | cons x r ih =>
    have e : Lib.joinTail [44, 32] (x :: r) = [44, 32] ++ x ++ Lib.joinTail [44, 32] r := by simp [Lib.joinTail]
    rw [e, List.filter_append, List.filter_append, h x (by simp), ih (fun y hy => h y (by simp [hy]))]
    rfl
theorem filter_join (l : List (List UInt8)) (h : ∀ x ∈ l, x.filter letter = x) : (Lib.join l [44, 32]).filter letter = l.flatten := by
  cases l with
  | nil => rfl
  | cons x r =>
    rw [Lib.join_cons, List.filter_append, h x (by simp), filter_tail r (fun y hy => h y (by simp [hy]))]
    rfl
theorem abl_letter (i : Nat) (h : i < 12) : (abl.getD i ByteArray.empty).data.toList = [97 + i.toUInt8] := by
  revert i; decide
theorem names12 (l : List Nat) (h : ∀ i ∈ l, i < 12) : (lst (nameAt abl l)).flatten = l.map fun i => 97 + i.toUInt8 := by
  induction l with
  | nil => rfl
  | cons i r ih =>
    have e : (lst (nameAt abl (i :: r))).flatten = (abl.getD i ByteArray.empty).data.toList ++ (lst (nameAt abl r)).flatten := rfl
    rw [e, abl_letter i (h i (by simp)), ih (fun j hj => h j (by simp [hj]))]
    rfl
theorem letter12 : ∀ i, i < 12 → [97 + i.toUInt8].filter letter = [97 + i.toUInt8] := by decide
theorem letters12 (l : List Nat) (h : ∀ i ∈ l, i < 12) : ∀ x ∈ lst (nameAt abl l), x.filter letter = x := by
  intro x hx
  simp only [lst, nameAt, List.map_map, List.mem_map] at hx
  obtain ⟨i, hi, rfl⟩ := hx
  show ((abl.getD i ByteArray.empty).data.toList).filter letter = (abl.getD i ByteArray.empty).data.toList
  rw [abl_letter i (h i hi)]
  exact letter12 i (h i hi)
theorem map_inj12 (l m : List Nat) (hl : ∀ i ∈ l, i < 12) (hm : ∀ i ∈ m, i < 12) (h : l.map (fun i => 97 + i.toUInt8) = m.map fun i => 97 + i.toUInt8) : l = m := by
  induction l generalizing m with
  | nil => cases m with
    | nil => rfl
    | cons j r => simp at h
  | cons i r ih =>
    cases m with
    | nil => simp at h
    | cons j q =>
      simp only [List.map_cons, List.cons.injEq] at h
      have hi := hl i (by simp)
      have hj := hm j (by simp)
      have e : i = j := by
        have : ∀ i, i < 12 → ∀ j, j < 12 → (97 + i.toUInt8 = 97 + j.toUInt8) → i = j := by decide
        exact this i hi j hj h.1
      rw [e, ih q (fun k hk => hl k (by simp [hk])) (fun k hk => hm k (by simp [hk])) h.2]
theorem mem12 (s : Nat) (h : s < 4096) : ∀ i ∈ mem s, i < 12 := by
  intro i hi
  simp only [mem, List.mem_filter, List.mem_range] at hi
  rcases Nat.lt_or_ge i 12 with h' | h'
  · exact h'
  · have : s < 2 ^ i := Nat.lt_of_lt_of_le h (Nat.le_trans (show 4096 ≤ 2 ^ 12 by decide) (Nat.pow_le_pow_right (by decide) h'))
    rw [Nat.testBit_lt_two_pow this] at hi
    simp at hi
theorem mem_inj (s t : Nat) (hs : s < 65536) (ht : t < 65536) (h : mem s = mem t) : s = t := by
  apply Nat.eq_of_testBit_eq
  intro i
  rcases Nat.lt_or_ge i 16 with h' | h'
  · have e : (i ∈ mem s) = (i ∈ mem t) := by rw [h]
    simp only [mem, List.mem_filter, List.mem_range, h', true_and] at e
    rw [Bool.eq_iff_iff]; exact e.to_iff
  · have h1 : s < 2 ^ i := Nat.lt_of_lt_of_le hs (Nat.le_trans (show 65536 ≤ 2 ^ 16 by decide) (Nat.pow_le_pow_right (by decide) h'))
    have h2 : t < 2 ^ i := Nat.lt_of_lt_of_le ht (Nat.le_trans (show 65536 ≤ 2 ^ 16 by decide) (Nat.pow_le_pow_right (by decide) h'))
    rw [Nat.testBit_lt_two_pow h1, Nat.testBit_lt_two_pow h2]
/-- The plain law: equal texts come of equal sets. -/
theorem set12_inj (s t : Nat) (hs : s < 4096) (ht : t < 4096) (h : setText abl s = setText abl t) : s = t := by
  have h1 : joined (nameAt abl (mem s)) [44, 32] = joined (nameAt abl (mem t)) [44, 32] := by
    unfold setText at h
    have := List.append_inj_left' h rfl
    exact List.append_inj_right this rfl
  have h2 := congrArg (List.filter letter) h1
  unfold joined at h2
  rw [filter_join _ (letters12 _ (mem12 s hs)), filter_join _ (letters12 _ (mem12 t ht)), names12 _ (mem12 s hs), names12 _ (mem12 t ht)] at h2
  exact mem_inj s t (by omega) (by omega) (map_inj12 _ _ (mem12 s hs) (mem12 t ht) h2)
theorem fits12 (s : Nat) (h : s < 4096) : fits abl s := fun i hi => mem12 s h i hi
theorem abl_tot : tot abl = 12 := by decide +kernel
theorem and4095 (s : Nat) : s &&& 4095 < 4096 := Nat.lt_of_le_of_lt Nat.and_le_right (by decide)

set_option maxHeartbeats 4000000 in
set_option maxRecDepth 100000 in
theorem different_any (a b : Nat) (w : World) (ha : a < 65536) (hb : b < 65536) (ht : Tz w) : Calls Tryd.prog 6 #[.int .u16 a, .int .u16 b] w fun e w' => e = .returned (.bool true) ∧ Below w.heap.size w w' := by
  have HT0 := Lib.hid abl_tot
  have ea : bits .and .u16 (a : Int) 4095 = ((a &&& 4095 : Nat) : Int) := u16_and_nat a 4095 ha (by decide)
  have eb : bits .and .u16 (b : Int) 4095 = ((b &&& 4095 : Nat) : Int) := u16_and_nat b 4095 hb (by decide)
  obtain ⟨s, hs⟩ : ∃ s, s = a &&& 4095 := ⟨_, rfl⟩
  obtain ⟨t, htt⟩ : ∃ t, t = b &&& 4095 := ⟨_, rfl⟩
  have hsl : s < 4096 := by rw [hs]; exact and4095 a
  have htl : t < 4096 := by rw [htt]; exact and4095 b
  rw [← hs] at ea
  rw [← htt] at eb
  clear hs htt
  have HSL := Lib.hid hsl
  have HTL := Lib.hid htl
  clear ha hb hsl htl
  go_enter Tryd.func6, Tryd.ntmps6
  go_wp2_with fail
  refine (awake_any w ht).mono ?_
  rintro e w1 ⟨rfl, hb1⟩
  have ht1 := ht.below hb1 (Nat.le_refl _)
  go_wp2_with fail
  have hbX : Below w1.heap.size w1 ((w1.alloc (.cells #[.string ⟨#[97]⟩, .string ⟨#[98]⟩, .string ⟨#[99]⟩, .string ⟨#[100]⟩, .string ⟨#[101]⟩, .string ⟨#[102]⟩, .string ⟨#[103]⟩, .string ⟨#[104]⟩, .string ⟨#[105]⟩, .string ⟨#[106]⟩, .string ⟨#[107]⟩, .string ⟨#[108]⟩] 9)).alloc (.cells #[.slice (some ⟨w1.heap.size, 0, none⟩) 12 12, .slice none 0 0, .int .u16 0, .slice none 0 0, .slice none 0 0, .slice none 0 0] 33)) := ((Below.refl _ _).alloc (Nat.le_refl _) _).alloc (by simp) _
  have hblk : ((w1.alloc (.cells #[.string ⟨#[97]⟩, .string ⟨#[98]⟩, .string ⟨#[99]⟩, .string ⟨#[100]⟩, .string ⟨#[101]⟩, .string ⟨#[102]⟩, .string ⟨#[103]⟩, .string ⟨#[104]⟩, .string ⟨#[105]⟩, .string ⟨#[106]⟩, .string ⟨#[107]⟩, .string ⟨#[108]⟩] 9)).alloc (.cells #[.slice (some ⟨w1.heap.size, 0, none⟩) 12 12, .slice none 0 0, .int .u16 0, .slice none 0 0, .slice none 0 0, .slice none 0 0] 33)).heap[w1.heap.size]? = some (.cells #[.string ⟨#[97]⟩, .string ⟨#[98]⟩, .string ⟨#[99]⟩, .string ⟨#[100]⟩, .string ⟨#[101]⟩, .string ⟨#[102]⟩, .string ⟨#[103]⟩, .string ⟨#[104]⟩, .string ⟨#[105]⟩, .string ⟨#[106]⟩, .string ⟨#[107]⟩, .string ⟨#[108]⟩] 9 (0, 0)) := by
    rw [heap_alloc_old (h := by simp)]; exact heap_alloc_new w1 _
  refine (set_at _ _ _ _ _ _ _ _ _ _ _ _ _ _ _ _ abl _ s rfl _ (by have := HSL.out; omega) (ht1.below hbX (Nat.le_refl _)) rfl (sees_block (e := 9) (fr := (0, 0)) (cs := #[.string ⟨#[97]⟩, .string ⟨#[98]⟩, .string ⟨#[99]⟩, .string ⟨#[100]⟩, .string ⟨#[101]⟩, .string ⟨#[102]⟩, .string ⟨#[103]⟩, .string ⟨#[104]⟩, .string ⟨#[105]⟩, .string ⟨#[106]⟩, .string ⟨#[107]⟩, .string ⟨#[108]⟩]) hblk 1 rfl (by simp; omega)) (by decide) (by rw [HT0.out]; decide) (fits12 s HSL.out) _ rfl).mono ?_
  rintro e w2 ⟨rfl, hb2⟩
  have hblk2 : w2.heap[w1.heap.size]? = some (.cells #[.string ⟨#[97]⟩, .string ⟨#[98]⟩, .string ⟨#[99]⟩, .string ⟨#[100]⟩, .string ⟨#[101]⟩, .string ⟨#[102]⟩, .string ⟨#[103]⟩, .string ⟨#[104]⟩, .string ⟨#[105]⟩, .string ⟨#[106]⟩, .string ⟨#[107]⟩, .string ⟨#[108]⟩] 9 (0, 0)) := (hb2.block _ (by simp; omega)).trans hblk
  have hbox2 : w2.heap[w1.heap.size + 1]? = some (.cells #[.slice (some ⟨w1.heap.size, 0, none⟩) 12 12, .slice none 0 0, .int .u16 0, .slice none 0 0, .slice none 0 0, .slice none 0 0] 33 (0, 0)) := by
    rw [hb2.block _ (by simp)]
    have := heap_alloc_new (w1.alloc (.cells #[.string ⟨#[97]⟩, .string ⟨#[98]⟩, .string ⟨#[99]⟩, .string ⟨#[100]⟩, .string ⟨#[101]⟩, .string ⟨#[102]⟩, .string ⟨#[103]⟩, .string ⟨#[104]⟩, .string ⟨#[105]⟩, .string ⟨#[106]⟩, .string ⟨#[107]⟩, .string ⟨#[108]⟩] 9)) (.cells #[.slice (some ⟨w1.heap.size, 0, none⟩) 12 12, .slice none 0 0, .int .u16 0, .slice none 0 0, .slice none 0 0, .slice none 0 0] 33)
    simpa using this
  have hs2 : w1.heap.size + 2 ≤ w2.heap.size := by have := hb2.size; simp at this; omega
  have hb2 : Below w1.heap.size w1 w2 := hbX.trans (hb2.mono hbX.size)
  have c := fun i : Nat => cell_of_row w2 _ i _ _ _ hbox2
  have c0 := c 0
  have c1 := c 1
  have c2 := c 2
  have c3 := c 3
  have c4 := c 4
  have c5 := c 5
  simp only [List.getElem?_toArray, List.getElem?_cons_zero, List.getElem?_cons_succ] at c0 c1 c2 c3 c4 c5
  clear c hblk hbox2 hbX
  obtain ⟨X, hX⟩ : ∃ X, X = bs (setText abl s) := ⟨_, rfl⟩
  rw [← hX]
  go_wp2_with fail
  refine (set_at _ _ _ _ _ _ _ _ _ _ _ _ _ _ _ _ abl _ t rfl _ (by have := HTL.out; omega) (ht1.below hb2 (Nat.le_refl _)) rfl (sees_block (e := 9) (fr := (0, 0)) (cs := #[.string ⟨#[97]⟩, .string ⟨#[98]⟩, .string ⟨#[99]⟩, .string ⟨#[100]⟩, .string ⟨#[101]⟩, .string ⟨#[102]⟩, .string ⟨#[103]⟩, .string ⟨#[104]⟩, .string ⟨#[105]⟩, .string ⟨#[106]⟩, .string ⟨#[107]⟩, .string ⟨#[108]⟩]) hblk2 1 rfl (by omega)) (by decide) (by rw [HT0.out]; decide) (fits12 t HTL.out) _ rfl).mono ?_
  rintro e w3 ⟨rfl, hb3⟩
  obtain ⟨Y, hY⟩ : ∃ Y, Y = bs (setText abl t) := ⟨_, rfl⟩
  rw [← hY]
  have HX := Lib.hid hX
  have HY := Lib.hid hY
  clear hX hY c0 c1 c2 c3 c4 c5 hblk2
  go_wp2
  go_ret
  refine ⟨?_, hb1.trans ((hb2.trans (hb3.mono hb2.size)).mono hb1.size)⟩
  show Ending.returned (.bool (((bs (setText abl s)).toList == Y.toList) == ((s : Int) == (t : Int)))) = _
  have e : (((bs (setText abl s)).toList == Y.toList) == ((s : Int) == (t : Int))) = true := by
    rw [beq_iff_eq, Bool.eq_iff_iff, beq_iff_eq, beq_iff_eq, HY.out, ByteArray.toList_eq, ByteArray.toList_eq, bs_data, bs_data]
    constructor
    · intro h; rw [set12_inj s t HSL.out HTL.out h]
    · intro h; rw [show s = t by omega]
  rw [e]
end Go.Proofs.YtdclhgngjbneiaaDoor

namespace Go.Proofs.YtdclhgngjbneiaaDoor.different
open Go.ChangeShapes Go.WideShapes Go.ChangeAt Go.RowKit

theorem u16_of {x : Int} (h : (Lit.int .u16 x).wf = true) : ∃ s : Nat, s < 65536 ∧ x = s := by
  simp [Lit.wf, IntKind.min, IntKind.max, IntKind.signed, IntKind.bits] at h
  exact ⟨x.toNat, by omega, by omega⟩

set_option maxRecDepth 100000 in
theorem contract (H : Type) (enc : TypeId × Value → H) (W : World) (base : Nat) (args : Array Value) (ds gs : List (DataW H)) (before : List MemPlace)
    (hval : ∀ (j : Nat) t v, Tryd.f6.params[j]? = some t → args[j]? = some v → Value.okWide Tryd.prog W .any base t v)
    (hW : DataW.Whole enc Tryd.prog Tryd.f6.params.toList Rows.printerDifferentSpec.vars false W args.toList ds gs before) (hL : laidMetH Tryd.prog Rows.printerDifferentRow.laid W) :
    Calls Tryd.prog 6 args W fun e W' => ∃ v, e = .returned v ∧ Rows.printerDifferentSpec.post enc Tryd.prog Tryd.f6 false true false false W args v W' := by
  have hW' := hW
  obtain ⟨p, q, hA0, hV, rfl, hfz, hnd⟩ := hW
  have hA : DataW.TrodAll enc Tryd.prog W 0 (fun _ => true) true Tryd.f6.params.toList args.toList ds p := hA0
  rw [Tryd.params6] at hA hval
  obtain ⟨v0, vs0, d0, ds0, p0, q0, hargs, rfl, rfl, h0, r0⟩ := trodAll_cons hA
  obtain ⟨v1, vs1, d1, ds1, p1, q1, rfl, rfl, rfl, h1, r1⟩ := trodAll_cons r0
  obtain ⟨rfl, rfl, rfl⟩ := trodAll_nil r1
  obtain rfl : args = #[v0, v1] := by cases args; simp_all
  obtain ⟨rfl, rfl⟩ := trodVars_none hV
  obtain ⟨a, rfl, rfl, rfl, wa⟩ := open_int Tryd.underlying24 (hval 0 24 v0 rfl rfl) h0
  obtain ⟨b, rfl, rfl, rfl, wb⟩ := open_int Tryd.underlying24 (hval 1 24 v1 rfl rfl) h1
  clear hA0
  simp only [List.append_nil] at hW'
  obtain ⟨s, hs, rfl⟩ := u16_of wa
  obtain ⟨t, ht, rfl⟩ := u16_of wb
  refine (different_any s t W hs ht (tz_of_laid hL)).mono fun e W' ⟨he, hb⟩ => ?_
  subst he
  exact ⟨_, rfl, post_of_below (pa := []) (pv := []) hW' (fun _ _ _ => trodAll_cons_mk (shut_bool Tryd.underlying4 _) trodAll_mk0) (fun _ _ => trodAll_cons_mk (shut_int Tryd.underlying24 wa) (trodAll_cons_mk (shut_int Tryd.underlying24 wb) trodAll_mk0)) (fun _ _ => rfl) rfl
    hb (ok_one (by kernel_rfl) rfl (okWide_bool_mk Tryd.underlying4 _))⟩

theorem reads (os : Os) {H : Type} (enc : TypeId × Value → H) : ∃ places, DataW.whole enc Tryd.prog ((laidWorld os).forCall (fun _ _ => 0) ⟨#[], #[.int .u16 0, .int .u16 0], []⟩).memory Tryd.f6.params.toList Rows.printerDifferentSpec.vars false #[Value.int .u16 0, .int .u16 0].toList 8 = some ([.lit (.int .u16 0), .lit (.int .u16 0)], [], places) :=
  ⟨[], by kernel_rfl⟩

set_option maxRecDepth 100000 in
theorem lifted (os : Os) (started : os.Started) (H : Type) (enc : TypeId × Value → H) (F : Stop.Interp) :
    ReturnsInHanded {} Tryd.checked os 6 .any ((OpenSpec.ofChange Rows.printerDifferentSpec).preRow enc Tryd.prog Tryd.f6 Rows.printerDifferentRow.domain false Rows.printerDifferentRow.laid) (((OpenSpec.ofChange Rows.printerDifferentSpec).at F).post enc Tryd.prog Tryd.f6 false true false false) := by
  obtain ⟨places, hx⟩ := reads os enc
  refine returnsInHanded_of_row (C := Tryd.checked) (s := OpenSpec.ofChange Rows.printerDifferentSpec) own_knob started (by kernel_rfl) Tryd.func6
    (witness_row_at (enc := enc) (C := Tryd.checked) false (laidWorld os) #[.int .u16 0, .int .u16 0] rfl (by kernel_rfl) (by kernel_rfl) (by kernel_rfl)
      (OpenSpec.preRow_of_cond 8 hx (by kernel_rfl) (fun k hk => by cases hk) (by kernel_rfl) (laid_met os _))) ?_
  intro W base args ds gs before hval hW _ _ _ hL _ _
  exact contract H enc W base args ds gs before hval hW hL

theorem said : Rows.PrinterDifferentSaid :=
  OpenClaim.holds_of_cond 6 Tryd.f6 rfl rfl rfl rfl rfl rfl rfl ⟨rfl, rfl, rfl, rfl, rfl⟩ rfl rfl rfl rfl rfl (by kernel_rfl) Tryd.func6 (by kernel_rfl)
    (of_decide_eq_true (by kernel_rfl)) (by unfold Func.isWrapper; first | (rw [if_pos (by decide +kernel)]; kernel_rfl) | (rw [if_neg (by decide +kernel)]; exact ⟨rfl, rfl⟩))
    (fun os started H enc _ F => by rw [OpenClaim.pre_eq_preRow]; exact lifted os started H enc F)

theorem plain (f : FuncId) (fn : Func) (hf : Tryd.pinned.checked.prog.funcNamed "sederunt/sederuntlaw26.PrinterDifferent" = some f) (hfn : Tryd.pinned.checked.prog.funcs[f]? = some fn) :
    false = Tryd.pinned.checked.prog.looks [] ∧ ∀ (j : Nat) t, fn.params[j]? = some t → Tryd.pinned.checked.prog.wantsStandIn t = false := by
  obtain rfl : f = 6 := Option.some.inj ((show Tryd.prog.funcNamed "sederunt/sederuntlaw26.PrinterDifferent" = some 6 by kernel_rfl).symm.trans hf) |>.symm
  obtain rfl : fn = Tryd.f6 := (Option.some.inj (Tryd.func6.symm.trans hfn)).symm
  refine ⟨by kernel_rfl, fun j t ht => ?_⟩
  rw [Tryd.params6] at ht
  have hm : t ∈ [24, 24] := by simpa using Array.mem_of_getElem? ht
  have hall : ([24, 24].all fun u => !Tryd.prog.wantsStandIn u) = true := by kernel_rfl
  exact (show Tryd.prog.wantsStandIn t = false by simpa using List.all_eq_true.1 hall t hm)

theorem card : Rows.PrinterDifferentCardSaid :=
  Claim7.holds_tied_plain_at .later [] _ _ _ _ said (fun _ h => by cases h) (by kernel_rfl) (fun _ h => by cases h) printerDifferent_row_tie rfl ⟨rfl, rfl⟩ (by kernel_rfl) rfl plain (by kernel_rfl)
#print axioms card
end Go.Proofs.YtdclhgngjbneiaaDoor.different
