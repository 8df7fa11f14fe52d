/- The walk of the statement TypingUnused: it returns true. Declarations of a size up to a bound. gZ by gen_tylaws.py. TypingUnused: what is left if an unused declaration is left out has no error if the whole has none, for all declarations and numbers; up to a bulk of 1048576 (the second form), the listed tables as the program's text lays them. -/
import Derived.Test.YtbmglebipepdmaaGreatDoorPkPlain
import Derived.Test.YtbmglebipepdmaaGreatDoorPkRound
import Derived.Test.YtbmglebipepdmaaGreatDoorPkTyp
import Derived.Test.YtbmglebipepdmaaGreatDoorPkMem
import Derived.Test.YtbmglebipepdmaaGreatDoorPkPara
import Derived.Test.YtbmglebipepdmaaGreatDoorPkParb
import Derived.Test.YtbmglebipepdmaaGreatDoorPkLex
import Derived.Test.YtbmglebipepdmaaGreatDoorPkPare
import Derived.Test.YtbmglebipepdmaaGreatDoorPkVala
import Derived.Test.YtbmglebipepdmaaGreatDoorPkValb
import Derived.Test.YtbmglebipepdmaaGreatDoorPkValc
import Derived.Test.YtbmglebipepdmaaGreatDoorPkFmta
import Derived.Test.YtbmglebipepdmaaGreatDoorPkFmtb
import Derived.Test.YtbmglebipepdmaaGreatDoorPkNms
import Derived.Test.YtbmglebipepdmaaGreatDoorPkTya
import Derived.Test.YtbmglebipepdmaaGreatDoorPkTyb
import Derived.Test.YtbmglebipepdmaaGreatDoorPkOpen
import Derived.Test.YtbmglebipepdmaaGreatDoorPkCheck
import Derived.Test.YtbmglebipepdmaaGreatDoorPkRefl
import Derived.Test.YtbmglebipepdmaaGreatDoorPkRefa
import Derived.Test.YtbmglebipepdmaaGreatDoorPkRefb
import Derived.Test.YtbmglebipepdmaaGreatDoorPkRefc
import Derived.Test.YtbmglebipepdmaaGreatDoorPkRefd
import Derived.Test.YtbmglebipepdmaaGreatDoorPkEq
import Derived.Test.YtbmglebipepdmaaGreatDoorPkHead
import Derived.Test.YtbmglebipepdmaaGreatDoorPkUses
import Derived.Test.YtbmglebipepdmaaGreatDoorPkAwt
import Derived.Test.YtbmglebipepdmaaGreatDoorRemTyD
namespace Go.Proofs.YtbmglebipepdmaaGreatDoor
open Go.RowKit

theorem sum_filter {α : Type} (f : α → Nat) (p : α → Bool) (l : List α) : ((l.filter p).map f).sum ≤ (l.map f).sum := by
  induction l with
  | nil => exact Nat.le_refl _
  | cons a r ih =>
    rw [List.filter_cons]
    split
    · rw [List.map_cons, List.sum_cons, List.map_cons, List.sum_cons]; omega
    · rw [List.map_cons, List.sum_cons]; omega
set_option maxRecDepth 100000 in
set_option maxHeartbeats 8000000 in
theorem unused_law24 (l : List Dc) (A : Option Addr) (c : Nat) (n : Nat) (hn : n ≤ 255) (w : World) (S : Nat → Prop) (hl : bG (jE w S) w S 22 A l) (_ : l.length ≤ c) (hS : ∀ g, S g → g < w.heap.size) (hsz : (l.map d9).sum ≤ 1100000) (hpw : Pow w) :
    Calls Tryz.prog 9 #[.slice A l.length c, .int .u8 n] w fun e w' => e = .returned (.bool true) ∧ Below w.heap.size w w' := by
  have HP := Lib.hid hpw
  have hL := fun (W : World) (hW : Below w.heap.size w W) => (⟨hl.keep (P' := jE W S) (aF hW hS) (fun _ _ h => h.keep (aF hW hS)), fun g hg => by have := hS g hg; have := hW.size; omega⟩ : bG (jE W S) W S 22 A l ∧ ∀ g, S g → g < W.heap.size)
  have HFW := Lib.hid (fun (W : World) (hW : Below w.heap.size w W) => few_ref l A c W S (hL W hW).1 (hL W hW).2 hsz)
  have HAW := Lib.hid (fun (W : World) (hW : Below w.heap.size w W) => IZ W (HP.out.below hW))
  by_cases h20 : l.length ≤ 20
  · have hI20 : ¬ ((20 : Int) < (l.length : Int)) := by omega
    by_cases Ak : (l.map dF).sum ≤ 10000
    · rw [decide_eq_true Ak] at HFW
      have hll := uh l
      have HC := Lib.hid (fun (W : World) (hW : Below w.heap.size w W) => zX l A c W S (hL W hW).1 (hL W hW).2 hsz Ak (by omega) (hpw.below hW))
      have HV := Lib.hid (fun (W : World) (hW : Below w.heap.size w W) => unused_any l A c W S (hL W hW).1 (hL W hW).2 (by omega) (by omega))
      have HCL := Lib.hid (fun (hl0 : 0 < l.length) (W : World) (hW : Below w.heap.size w W) => clone_any l A c W S (hL W hW).1 (hL W hW).2 hl0 (by omega))
      have HLS := Lib.hid (fun (x : ByteArray) (W : World) (S2 : Nat → Prop) (A2 : Option Addr) (c2 : Nat) (h : bG (jE W S2) W S2 22 A2 (without x l)) (hS2 : ∀ g, S2 g → g < W.heap.size) (hp : Pow W) => zX (without x l) A2 c2 W S2 h hS2 (Nat.le_trans (sum_filter d9 _ l) hsz) (Nat.le_trans (sum_filter dF _ l) Ak) (by have := List.length_filter_le (fun d : Dc => !(d.name == x)) l; unfold without; omega) hp)
      have HOK := Lib.hid (fun (h : (fZ l).2 = 0) (x : ByteArray) (hx : x ∈ mQ l) => unused_ok h hx)
      obtain ⟨r, hr⟩ : ∃ r, r = fZ l := ⟨_, rfl⟩
      rw [← hr] at HC HOK
      obtain ⟨a, e0⟩ := r
      obtain ⟨vs, hvs⟩ : ∃ vs, vs = mQ l := ⟨_, rfl⟩
      unfold Mj at HV
      rw [← hvs] at HV HOK
      have hvl : vs.length ≤ l.length := by rw [hvs]; have := Ec l l; unfold mP at this; unfold mQ; omega
      have hS1 := fun g (hg : S g) => hS g hg
      clear hl hsz hpw hL Ak hr hvs hll
      go_enter Tryz.func9, Tryz.ntmps9
      go_wp2_with fail
      refine (HAW.out _ (Below.refl _ _)).mono ?_
      rintro e W1 ⟨rfl, hb1⟩
      go_wp2_with fail
      refine (HFW.out W1 hb1).mono ?_
      rintro e W2 ⟨rfl, hb2⟩
      have hw2 := hb1.trans (hb2.mono hb1.size)
      clear hb1 hb2
      go_wp2_with fail
      refine (HC.out W2 hw2).mono ?_
      rintro e W3 ⟨rfl, hb3⟩
      have hw3 := hw2.trans (hb3.mono hw2.size)
      by_cases hb : e0 = 0
      · subst hb
        go_wp2_with fail
        refine (HV.out W3 hw3).mono ?_
        rintro e W4 ⟨v4, rfl, kS, hb4⟩
        obtain ⟨A4, c4, rfl, hc4⟩ := bV kS
        have hw4 := hw3.trans (hb4.mono hw3.size)
        by_cases hv0 : vs.length = 0
        · have hz0 : ((vs.length : Int) == 0) = true := by rw [hv0]; rfl
          clear kS
          go_wp2
          go_ret
          exact ⟨rfl, hw4⟩
        · have hz0 : ((vs.length : Int) == 0) = false := by rw [beq_eq_false_iff_ne]; omega
          obtain ⟨m, hm⟩ : ∃ m, m = n % vs.length := ⟨_, rfl⟩
          have hml : m < vs.length := by rw [hm]; exact Nat.mod_lt _ (by omega)
          have hmI : (m : Int) < (vs.length : Int) := by omega
          have hm0 : (0 : Int) ≤ (m : Int) := by omega
          have hI2 : ((n : Int) % (vs.length : Int)) = (m : Int) := by rw [hm]; first | exact (Int.natCast_emod n vs.length).symm | rfl
          have hIn : (0 : Int) ≤ (n : Int) ∧ (n : Int) ≤ 255 := by omega
          have hl0 : 0 < l.length := by omega
          obtain ⟨g4, o4, rfl, hg4, kc⟩ := one_cell (f := Value.string) (aV.own kS) hml
          obtain ⟨x, hx⟩ : ∃ x, x = vs[m] := ⟨_, rfl⟩
          rw [← hx] at kc
          obtain ⟨hok1, hok2⟩ := HOK.out (by trivial) x (by rw [hx]; exact List.getElem_mem hml)
          have HO2 := Lib.hid hok2
          have HEX := Lib.hid (show ∃ d ∈ l, d.name = x from by
            apply Classical.byContradiction
            intro h
            rw [wU (fun d hd hn => h ⟨d, hd, hn⟩)] at hok1
            omega)
          have HLN := Lib.hid hok1
          obtain ⟨W5, hW5⟩ : ∃ W5 : World, W5 = W4.alloc (.cells #[.string x] 9 (0, 0)) := ⟨_, rfl⟩
          have hb5 : Below W4.heap.size W4 W5 := by rw [hW5]; exact (Below.refl _ _).alloc (Nat.le_refl _) _
          have hw5 := hw4.trans (hb5.mono hw4.size)
          have hp5 : W5.heap[W4.heap.size]? = some (.cells #[.string x] 9 (0, 0)) := by rw [hW5]; exact heap_alloc_new W4 _
          have HW5 := Lib.hid hW5
          have HCL5 := Lib.hid (HCL.out hl0 W5 hw5)
          have hs5 : W4.heap.size < W5.heap.size := lt_of_block hp5
          have HP5 := Lib.hid hp5
          clear kS hx hm hok1 hok2 hW5 hp5
          go_wp2_with fail
          rw [← HW5.out]
          refine HCL5.out.mono ?_
          rintro e W6 ⟨b6, c6, rfl, hc6, hb6l, hb6s, hrow6, hth6, hb6⟩
          have hw6 := hw5.trans (hb6.mono hw5.size)
          have hp6 := (hb6.block W4.heap.size hs5).trans HP5.out
          have HDL := Lib.hid (delete_any l x b6 c6 W4.heap.size W6 S hrow6 hth6 (fun g hg => by have := hS1 g hg; have := hw5.size; have := hw6.size; exact ⟨by omega, by omega⟩) hb6s (by rw [cell_of_row W6 _ 0 _ _ _ hp6]; rfl) (by omega) hc6 (by omega) HEX.out)
          clear hrow6 hth6 hI2 kc
          go_wp2_with fail
          refine HDL.out.mono ?_
          rintro e W7 ⟨c7, rfl, hrow7, hbt7⟩
          have hw7 : Below w.heap.size w W7 := hw6.trans (hbt7.below (fun g hg => by have := hw5.size; omega) hw6.size)
          have HL7 := Lib.hid (HLS.out x W7 (fun g => S g ∨ g = b6) (some ⟨b6, 0, none⟩) c7 ((rowEls_list hrow7).mono (fun g hg _ => Or.inr hg) (by decide) (fun _ _ h => h.mono fun g hg _ => Or.inl hg)) (fun g hg => hg.elim (fun h => by have := hS1 g h; have := hw7.size; omega) (fun h => by have := hbt7.size; omega)) (HP.out.below hw7))
          rw [HO2.out] at HL7
          obtain ⟨wl, hwl⟩ : ∃ wl, wl = (without x l).length := ⟨_, rfl⟩
          rw [← hwl] at HL7 HLN ⊢
          have hln := HLN.out
          have hq1 : ((wl : Int) == (l.length : Int) - 1) = true := by rw [beq_iff_eq]; omega
          clear hrow7 hwl hln
          go_wp2_with fail
          refine HL7.out.mono ?_
          rintro e W8 ⟨rfl, hb8⟩
          go_wp2
          go_ret
          exact ⟨rfl, hw7.trans (hb8.mono hw7.size)⟩
      · have hz : ((e0 : Int) != 0) = true := jA hb
        clear hb
        go_wp2
        go_ret
        exact ⟨rfl, hw3⟩
    · rw [decide_eq_false Ak] at HFW
      clear hl hsz hpw hL Ak
      go_enter Tryz.func9, Tryz.ntmps9
      go_wp2_with fail
      refine (HAW.out _ (Below.refl _ _)).mono ?_
      rintro e W1 ⟨rfl, hb1⟩
      go_wp2_with fail
      refine (HFW.out W1 hb1).mono ?_
      rintro e W2 ⟨rfl, hb2⟩
      have hw2 := hb1.trans (hb2.mono hb1.size)
      go_wp2_with fail
      refine (HAW.out W2 hw2).mono ?_
      rintro e W3 ⟨rfl, hb3⟩
      go_wp2
      go_ret
      exact ⟨rfl, hw2.trans (hb3.mono hw2.size)⟩
  · have hI20 : (20 : Int) < (l.length : Int) := by omega
    clear hl hsz hpw hL HFW
    go_enter Tryz.func9, Tryz.ntmps9
    go_wp2_with fail
    refine (HAW.out _ (Below.refl _ _)).mono ?_
    rintro e W1 ⟨rfl, hb1⟩
    go_wp2_with fail
    refine (HAW.out W1 hb1).mono ?_
    rintro e W3 ⟨rfl, hb3⟩
    go_wp2
    go_ret
    exact ⟨rfl, hb1.trans (hb3.mono hb1.size)⟩
end Go.Proofs.YtbmglebipepdmaaGreatDoor
namespace Go.Proofs.YtbmglebipepdmaaGreatDoor.tyunused
open Go.ChangeShapes Go.WideShapes Go.ChangeAt Go.RowKit

set_option maxRecDepth 100000 in
theorem contract (H : Type) (enc : TypeId × Value → H) (W : World) (base : Nat) (args : Array Value) (ds gs : List (DataW H)) (before : List MemPlace)
    (hval : ∀ (j : Nat) t v, Tryz.f9.params[j]? = some t → args[j]? = some v → Value.okWide Tryz.prog W .any base t v)
    (hW : DataW.Whole enc Tryz.prog Tryz.f9.params.toList Rows.typingUnusedSpec.vars false W args.toList ds gs before) (hL : laidMetH Tryz.prog Rows.typingUnusedUptoRow.laid W) (hk : Rows.uptoSmall H (ds ++ gs) = true) :
    Calls Tryz.prog 9 args W fun e W' => ∃ v, e = .returned v ∧ Rows.typingUnusedSpec.post enc Tryz.prog Tryz.f9 false true false false W args v W' := by
  have hW' := hW
  obtain ⟨p, q, hA0, hV, rfl, hfz, hnd⟩ := hW
  have hA : DataW.TrodAll enc Tryz.prog W 0 (fun _ => true) true Tryz.f9.params.toList args.toList ds p := hA0
  rw [Tryz.params9] at hA hval
  obtain ⟨v0, vs0, d0, ds0, p0, q0, hargs, rfl, rfl, h0, r0⟩ := trodAll_cons hA
  obtain ⟨v1, vs1, d1, ds1, p1, q1, rfl, rfl, rfl, h1, r1⟩ := trodAll_cons r0
  obtain ⟨rfl, rfl, rfl⟩ := trodAll_nil r1
  obtain rfl : args = #[v0, v1] := by cases args; simp_all
  obtain ⟨rfl, rfl⟩ := trodVars_none hV
  clear hA0
  have o0 := hval 0 22 v0 rfl rfl
  have o1 := hval 1 5 v1 rfl rfl
  obtain ⟨A, c, l, rfl, hl, hlc, hsz⟩ := KD o0 h0
  obtain ⟨z, rfl, rfl, rfl, wz⟩ := open_int Tryz.underlying5 o1 h1
  have wz2 : 0 ≤ z ∧ z ≤ 255 := by simpa [Lit.wf, IntKind.min, IntKind.max, IntKind.signed, IntKind.bits] using wz
  obtain ⟨n, rfl⟩ : ∃ n : Nat, z = (n : Int) := ⟨z.toNat, by omega⟩
  have hbk := Mg hk
  simp only [List.cons_append, List.nil_append, Rows.uptoBulkAll] at hbk
  refine (unused_law24 l A c n (by omega) W (· < W.heap.size) hl hlc (fun g h => h) (by omega) (He hL)).mono fun e W' hh => ?_
  rw [hh.1]
  exact ⟨_, rfl, close_law (by kernel_rfl) rfl rfl hW' rfl hh.2⟩

set_option maxRecDepth 100000 in
theorem reads (os : Os) {H : Type} (enc : TypeId × Value → H) : ∃ places, DataW.whole enc Tryz.prog ((zB os).forCall (fun _ _ => 0) ⟨#[], #[.slice none 0 0, .int .u8 0], []⟩).memory Tryz.f9.params.toList Rows.typingUnusedSpec.vars false (#[.slice none 0 0, .int .u8 0] : Array Value).toList 8 = some ([.nil, .lit (.int .u8 0)], [], places) :=
  ⟨[], by kernel_rfl⟩

set_option maxRecDepth 100000 in
theorem lifted (os : Os) (started : os.Started) (H : Type) (enc : TypeId × Value → H) (F : Stop.Interp) :
    ReturnsInHanded {} Tryz.checked os 9 .any ((Rows.OpenSpec.upto Rows.typingUnusedSpec).preRow enc Tryz.prog Tryz.f9 Rows.typingUnusedUptoRow.domain false Rows.typingUnusedUptoRow.laid) (((Rows.OpenSpec.upto Rows.typingUnusedSpec).at F).post enc Tryz.prog Tryz.f9 false true false false) := by
  obtain ⟨places, hx⟩ := reads os enc
  refine returnsInHanded_of_row (C := Tryz.checked) (s := Rows.OpenSpec.upto Rows.typingUnusedSpec) own_knob started (by kernel_rfl) Tryz.func9
    (witness_row_at (enc := enc) (C := Tryz.checked) false (zB os) #[.slice none 0 0, .int .u8 0] rfl (by kernel_rfl) (by kernel_rfl) (by kernel_rfl)
      (OpenSpec.preRow_of_cond 8 hx (by kernel_rfl) (fun k hk => by cases hk; kernel_rfl) (by kernel_rfl) (laid_met os _))) ?_
  intro W base args ds gs before hval hW _ hcond _ hL _ _
  exact contract H enc W base args ds gs before hval hW hL (hcond _ rfl)

theorem said : Rows.TypingUnusedUptoSaid :=
  OpenClaim.holds_of_cond 9 Tryz.f9 rfl rfl rfl rfl rfl rfl rfl ⟨rfl, rfl, rfl, rfl, rfl⟩ rfl rfl rfl rfl rfl (by kernel_rfl) Tryz.func9 (by kernel_rfl)
    (of_decide_eq_true (by kernel_rfl)) (by unfold Func.isWrapper; first | (rw [if_pos (by decide +kernel)]; kernel_rfl) | (rw [if_neg (by decide +kernel)]; exact ⟨rfl, rfl⟩))
    (fun os started H enc _ F => by rw [OpenClaim.pre_eq_preRow]; exact lifted os started H enc F)

set_option maxRecDepth 100000 in
theorem plain (f : FuncId) (fn : Func) (hf : Tryz.pinned.checked.prog.funcNamed "sederunt/sederuntlaw24.TypingUnused" = some f) (hfn : Tryz.pinned.checked.prog.funcs[f]? = some fn) :
    false = Tryz.pinned.checked.prog.looks [] ∧ ∀ (j : Nat) t, fn.params[j]? = some t → Tryz.pinned.checked.prog.wantsStandIn t = false := by
  obtain rfl : f = 9 := Option.some.inj ((show Tryz.prog.funcNamed "sederunt/sederuntlaw24.TypingUnused" = some 9 by kernel_rfl).symm.trans hf) |>.symm
  obtain rfl : fn = Tryz.f9 := (Option.some.inj (Tryz.func9.symm.trans hfn)).symm
  refine ⟨by kernel_rfl, fun j t ht => ?_⟩
  rw [Tryz.params9] at ht
  have hm : t ∈ [22, 5] := by simpa using Array.mem_of_getElem? ht
  have hall : ([22, 5].all fun u => !Tryz.prog.wantsStandIn u) = true := by kernel_rfl
  exact (show Tryz.prog.wantsStandIn t = false by simpa using List.all_eq_true.1 hall t hm)

theorem card : Rows.TypingUnusedUptoCardSaid :=
  Claim7.holds_tied_plain_at .later [] _ _ _ _ said (fun _ h => by cases h) (by kernel_rfl) (fun _ h => by cases h) typingUnusedUpto_row_tie rfl ⟨rfl, rfl⟩ (by kernel_rfl) rfl plain (by kernel_rfl)
#print axioms card
end Go.Proofs.YtbmglebipepdmaaGreatDoor.tyunused
