/- The contract of the reference's test of declarations, isDecl. Printed by gen_isdecl.py. -/
import Derived.Test.YtipicaoinnblpaaGreatDoorPkTxc
import Derived.Test.YtipicaoinnblpaaGreatDoorPkTxa
import Derived.Test.YtipicaoinnblpaaGreatDoorPkFmtb
import Derived.Deep.DeepCutAuto
namespace Go.Proofs.YtipicaoinnblpaaGreatDoor
open Go.RowKit

def A9 (d : Dc) : Bool := (hasName d.kind == !decide (d.name.size = 0)) && (decide (d.name.size = 0) || okName d.name) && (hasNames d.kind == decide (0 < d.names.length)) && okNames d.names && (hasFaults d.kind == decide (0 < d.faults.length))
def A11 (d : Dc) : Bool := if hasTerm d.kind = true then okTm d.term else blank d.term
def A13 (d : Dc) : Bool := if d.use.size = 0 then !hasConfig d.kind else (hasConfig d.kind || mayUse d.kind) && okName d.use
def A15 (d : Dc) : Bool := if hasConfig d.kind = true then (d.proto == (⟨#[99, 114, 97, 115, 104]⟩ : ByteArray) || d.proto == (⟨#[98, 121, 122, 97, 110, 116, 105, 110, 101]⟩ : ByteArray)) && okTm d.read && okTm d.write else decide (d.proto.size = 0) && blank d.read && blank d.write
theorem okDc_fields {d : Dc} (h : 1 ≤ d.kind ∧ d.kind ≤ 7) : okDc d = (A9 d && d.faults.all okFt && A11 d && A13 d && A15 d) := by
 unfold okDc A9 A11 A13 A15
 rw [decide_eq_true h.1, decide_eq_true h.2]
 generalize hasName d.kind = a1
 generalize hasNames d.kind = a2
 generalize hasFaults d.kind = a3
 generalize hasTerm d.kind = a4
 generalize hasConfig d.kind = a5
 generalize mayUse d.kind = a6
 generalize okName d.name = b1
 generalize okName d.use = b2
 generalize okNames d.names = b3
 generalize d.faults.all okFt = b4
 generalize okTm d.term = b5
 generalize blank d.term = b6
 generalize (d.proto == (⟨#[99, 114, 97, 115, 104]⟩ : ByteArray) || d.proto == (⟨#[98, 121, 122, 97, 110, 116, 105, 110, 101]⟩ : ByteArray)) = b7
 generalize okTm d.read = b8
 generalize okTm d.write = b9
 generalize blank d.read = b10
 generalize blank d.write = b11
 generalize decide (d.proto.size = 0) = b12
 generalize decide (0 < d.names.length) = e1
 generalize decide (0 < d.faults.length) = e2
 generalize decide (d.name.size = 0) = e3
 by_cases hu : d.use.size = 0
 ·simp only [hu, decide_true, if_true, Bool.true_or, Bool.or_true, Bool.not_true, Bool.and_false, Bool.and_true]
  cases a4 <;> cases a5 <;> simp only [Bool.false_eq_true, if_true, if_false, Bool.not_true, Bool.not_false, Bool.and_true, Bool.true_and, Bool.and_false, Bool.false_and] <;> ac_rfl
 ·simp only [hu, decide_false, if_false, Bool.false_or, Bool.or_false, Bool.not_false, Bool.and_true]
  cases a4 <;> cases a5 <;> simp only [Bool.false_eq_true, if_true, if_false, Bool.true_and, Bool.true_or, Bool.false_or] <;> ac_rfl
theorem usesOf_small {k : Int} (h : 1 ≤ k ∧ k ≤ 7) : (usesOf k).size ≤ 1000000000 := by
 obtain rfl | rfl | rfl | rfl | rfl | rfl | rfl : k = 1 ∨ k = 2 ∨ k = 3 ∨ k = 4 ∨ k = 5 ∨ k = 6 ∨ k = 7 := by omega
 all_goals decide
theorem cases9 (d : Dc) :
  ((hasName d.kind = true ∧ d.name.size = 0 ∧ A9 d = false) ∨ (hasName d.kind = false ∧ 0 < d.name.size ∧ A9 d = false)) ∨
  ((hasName d.kind = true ∧ 0 < d.name.size ∧ okName d.name = false ∧ A9 d = false)) ∨
  ((hasName d.kind = false ∧ d.name.size = 0 ∧ hasNames d.kind = !decide (0 < d.names.length) ∧ A9 d = false)) ∨
  ((hasName d.kind = false ∧ d.name.size = 0 ∧ hasNames d.kind = decide (0 < d.names.length) ∧ okNames d.names = false ∧ A9 d = false)) ∨
  ((hasName d.kind = false ∧ d.name.size = 0 ∧ hasNames d.kind = decide (0 < d.names.length) ∧ okNames d.names = true ∧ hasFaults d.kind = decide (0 < d.faults.length) ∧ A9 d = true) ∨ (hasName d.kind = false ∧ d.name.size = 0 ∧ hasNames d.kind = decide (0 < d.names.length) ∧ okNames d.names = true ∧ hasFaults d.kind = !decide (0 < d.faults.length) ∧ A9 d = false)) ∨
  ((hasName d.kind = true ∧ 0 < d.name.size ∧ okName d.name = true ∧ hasNames d.kind = !decide (0 < d.names.length) ∧ A9 d = false)) ∨
  ((hasName d.kind = true ∧ 0 < d.name.size ∧ okName d.name = true ∧ hasNames d.kind = decide (0 < d.names.length) ∧ okNames d.names = false ∧ A9 d = false)) ∨
  ((hasName d.kind = true ∧ 0 < d.name.size ∧ okName d.name = true ∧ hasNames d.kind = decide (0 < d.names.length) ∧ okNames d.names = true ∧ hasFaults d.kind = decide (0 < d.faults.length) ∧ A9 d = true) ∨ (hasName d.kind = true ∧ 0 < d.name.size ∧ okName d.name = true ∧ hasNames d.kind = decide (0 < d.names.length) ∧ okNames d.names = true ∧ hasFaults d.kind = !decide (0 < d.faults.length) ∧ A9 d = false)) := by
 have e : A9 d = ((hasName d.kind == !decide (d.name.size = 0)) && (decide (d.name.size = 0) || okName d.name) && (hasNames d.kind == decide (0 < d.names.length)) && okNames d.names && (hasFaults d.kind == decide (0 < d.faults.length))) := rfl
 rw [e]
 generalize hasName d.kind = a1
 generalize hasNames d.kind = a2
 generalize hasFaults d.kind = a3
 generalize okName d.name = b1
 generalize okNames d.names = b3
 generalize d.name.size = n1
 generalize d.names.length = n2
 generalize d.faults.length = n3
 cases n1 <;> cases n2 <;> cases n3 <;> cases a1 <;> cases a2 <;> cases a3 <;> cases b1 <;> cases b3 <;> simp
theorem cases9_bad (d : Dc) (h : A9 d = false) :
  ((hasName d.kind = true ∧ d.name.size = 0) ∨ (hasName d.kind = false ∧ 0 < d.name.size)) ∨
  ((hasName d.kind = true ∧ 0 < d.name.size ∧ okName d.name = false)) ∨
  ((hasName d.kind = false ∧ d.name.size = 0 ∧ hasNames d.kind = !decide (0 < d.names.length))) ∨
  ((hasName d.kind = false ∧ d.name.size = 0 ∧ hasNames d.kind = decide (0 < d.names.length) ∧ okNames d.names = false)) ∨
  ((hasName d.kind = false ∧ d.name.size = 0 ∧ hasNames d.kind = decide (0 < d.names.length) ∧ okNames d.names = true ∧ hasFaults d.kind = !decide (0 < d.faults.length))) ∨
  ((hasName d.kind = true ∧ 0 < d.name.size ∧ okName d.name = true ∧ hasNames d.kind = !decide (0 < d.names.length))) ∨
  ((hasName d.kind = true ∧ 0 < d.name.size ∧ okName d.name = true ∧ hasNames d.kind = decide (0 < d.names.length) ∧ okNames d.names = false)) ∨
  ((hasName d.kind = true ∧ 0 < d.name.size ∧ okName d.name = true ∧ hasNames d.kind = decide (0 < d.names.length) ∧ okNames d.names = true ∧ hasFaults d.kind = !decide (0 < d.faults.length))) := by
 simpa only [h, Bool.false_eq_true, Bool.true_eq_false, and_true, and_false, or_false, false_or] using cases9 d
theorem cases9_good (d : Dc) (h : A9 d = true) :
  ((hasName d.kind = false ∧ d.name.size = 0 ∧ hasNames d.kind = decide (0 < d.names.length) ∧ okNames d.names = true ∧ hasFaults d.kind = decide (0 < d.faults.length))) ∨
  ((hasName d.kind = true ∧ 0 < d.name.size ∧ okName d.name = true ∧ hasNames d.kind = decide (0 < d.names.length) ∧ okNames d.names = true ∧ hasFaults d.kind = decide (0 < d.faults.length))) := by
 simpa only [h, Bool.false_eq_true, Bool.true_eq_false, and_true, and_false, or_false, false_or] using cases9 d
/-- Sizes that isDecl takes. -/
def ILim (d : Dc) : Prop := d.names.length ≤ 1000000000 ∧ d.faults.length ≤ 1000000000 ∧ (∀ f ∈ d.faults, f.byzNames.length ≤ 1000000000 ∧ f.crashNames.length ≤ 1000000000) ∧ tmSize d.term ≤ 1000000000 ∧ tmSize d.read ≤ 1000000000 ∧ tmSize d.write ≤ 1000000000
/-- The test of a zero term. -/
theorem blank_tm (t : Tm) (v : Value) (w : World) (S : Nat → Prop) (hv : TmAt w S t v) (hz : tmSize t ≤ 1000000000) (W : World) :
  Calls Tryz.prog 108 #[v] W fun e w' => e = .returned (.bool (blank t)) ∧ Below W.heap.size W w' := by
 have hkl := tm_kids_length t
 cases hv with
 | mk op nm nd ws kids wA kA cw kc vs hw hwc hk hkc hl h =>
  have hkl : kids.length + ws.length < tmSize (.mk op nm nd ws kids) := hkl
  exact blank_ref op nd nm wA kA ws.length cw kids.length kc W (by omega) (by omega)

set_option maxRecDepth 100000 in
set_option maxHeartbeats 40000000 in
theorem isDecl_bad (d : Dc) (v : Value) (w : World) (S : Nat → Prop) (hd : DcAt w S d v) (hS : ∀ g, S g → g < w.heap.size) (hlim : ILim d) (h9a : A9 d = false) :
  Calls Tryz.prog 56 #[v] w fun e w' => e = .returned (.bool (okDc d)) ∧ Below w.heap.size w w' := by
 have hparts := okDc_fields (d := d)
 have hrange : ¬ (1 ≤ d.kind ∧ d.kind ≤ 7) → okDc d = false := by
  intro h
  unfold okDc
  by_cases h1 : 1 ≤ d.kind
  ·rw [decide_eq_true h1, decide_eq_false (show ¬ d.kind ≤ 7 by omega)]; simp
  ·rw [decide_eq_false h1]; simp
 obtain ⟨kind, line, name, names, faults, term, proto, read, write, use⟩ := d
 obtain ⟨nA, nc, fA, fc, vt, vr, vw, rfl, h1, h2, h3, h4, h5, h6, h7⟩ := hd
 obtain ⟨o1, m1, d1, wA1, wn1, wc1, kA1, kn1, kc1, rfl⟩ := h5.form
 obtain ⟨o2, m2, d2, wA2, wn2, wc2, kA2, kn2, kc2, rfl⟩ := h6.form
 obtain ⟨o3, m3, d3, wA3, wn3, wc3, kA3, kn3, kc3, rfl⟩ := h7.form
 obtain ⟨l1, l2, l3, l4, l5, l6⟩ := hlim
 simp only at h1 h2 h3 h4 h5 h6 h7 l1 l2 l3 l4 l5 l6 hparts hrange
 have H9 := Lib.hid h9a
 clear h9a
 simp only [Value.cells, List.append_toArray, List.cons_append, List.nil_append]
 have hS2 : ∀ (W : World), Below w.heap.size w W → ∀ g, S g → g < W.heap.size := fun W hW g hg => by have := hS g hg; have := hW.size; omega
 have HALL := Lib.hid (fun (W : World) (hW : Below w.heap.size w W) => all_ref names nA nc W S (h1.keep (kept_of hW hS)) (hS2 W hW) (by omega))
 have HT1 := Lib.hid (fun (W : World) (hW : Below w.heap.size w W) => isTerm_ref term _ W S (h5.keep (kept_of hW hS)) (hS2 W hW) (by omega))
 have HT2 := Lib.hid (fun (W : World) (hW : Below w.heap.size w W) => isTerm_ref read _ W S (h6.keep (kept_of hW hS)) (hS2 W hW) (by omega))
 have HT3 := Lib.hid (fun (W : World) (hW : Below w.heap.size w W) => isTerm_ref write _ W S (h7.keep (kept_of hW hS)) (hS2 W hW) (by omega))
 have HB1 := Lib.hid (fun (W : World) => blank_tm term _ w S h5 l4 W)
 have HB2 := Lib.hid (fun (W : World) => blank_tm read _ w S h6 l5 W)
 have HB3 := Lib.hid (fun (W : World) => blank_tm write _ w S h7 l6 W)
 have HFL := Lib.hid h3
 have HL3 := Lib.hid l3
 have HNM := Lib.hid (fun (x : ByteArray) (W : World) => isName_ref x W)
 clear h1 h3 h5 h6 h7 l3 l4 l5 l6
 obtain ⟨w0, hw0⟩ : ∃ w0 : World, w0 = w.alloc (.cells #[.int .i64 kind, .int .i64 line, .string name, .slice nA names.length nc, .slice fA faults.length fc, .int .i64 o1, .string m1, .int .i64 d1, .slice wA1 wn1 wc1, .slice kA1 kn1 kc1, .string proto, .int .i64 o2, .string m2, .int .i64 d2, .slice wA2 wn2 wc2, .slice kA2 kn2 kc2, .int .i64 o3, .string m3, .int .i64 d3, .slice wA3 wn3 wc3, .slice kA3 kn3 kc3, .string use] 54) := ⟨_, rfl⟩
 have hb0 : Below w.heap.size w w0 := by rw [hw0]; exact (Below.refl _ _).alloc (Nat.le_refl _) _
 have hz0 : w0.heap.size = w.heap.size + 1 := by rw [hw0]; simp
 have hr0 : w0.heap[w.heap.size]? = some (.cells #[.int .i64 kind, .int .i64 line, .string name, .slice nA names.length nc, .slice fA faults.length fc, .int .i64 o1, .string m1, .int .i64 d1, .slice wA1 wn1 wc1, .slice kA1 kn1 kc1, .string proto, .int .i64 o2, .string m2, .int .i64 d2, .slice wA2 wn2 wc2, .slice kA2 kn2 kc2, .int .i64 o3, .string m3, .int .i64 d3, .slice wA3 wn3 wc3, .slice kA3 kn3 kc3, .string use] 54 (0, 0)) := by rw [hw0]; exact heap_alloc_new w _
 have hlt0 : w.heap.size + 1 ≤ w0.heap.size := by omega
 have HR0 := Lib.hid hr0
 have HW0 := Lib.hid hw0
 clear hz0 hr0 hw0
 go_enter Tryz.func56, Tryz.ntmps56
 go_upto_region 1 with fail
 rw [← HW0.out]
 obtain ⟨c0, -, -, -, -, -, -, -, -, -, -, -, -, -, -, -, -, -, -, -, -, -, -⟩ := row22 HR0.out
 clear HW0
 by_cases hk1 : 1 ≤ kind
 ·have q1 : ¬ kind < (1 : Int) := by omega
  by_cases hk7 : kind ≤ 7
  ·have q7 : ¬ (7 : Int) < kind := by omega
   have hkk : 1 ≤ kind ∧ kind ≤ 7 := ⟨hk1, hk7⟩
   have HOK := Lib.hid (hparts hkk)
   obtain ⟨u78, u76, u70, u84, u80, u85⟩ := uses_has hkk
   have hsm := usesOf_small hkk
   have HU := Lib.hid (uses_ref kind w0 hkk)
   obtain ⟨u, hu⟩ : ∃ u, u = usesOf kind := ⟨_, rfl⟩
   rw [← hu] at u78 u76 u70 u84 u80 u85 hsm HU
   have H78 := Lib.hid (fun (W : World) => show Calls Tryz.prog 106 #[.string u, .int .u8 78] W (fun e w' => e = .returned (.bool (hasName kind)) ∧ W = w') by rw [← u78]; exact has_ref u 78 W hsm)
   have H76 := Lib.hid (fun (W : World) => show Calls Tryz.prog 106 #[.string u, .int .u8 76] W (fun e w' => e = .returned (.bool (hasNames kind)) ∧ W = w') by rw [← u76]; exact has_ref u 76 W hsm)
   have H70 := Lib.hid (fun (W : World) => show Calls Tryz.prog 106 #[.string u, .int .u8 70] W (fun e w' => e = .returned (.bool (hasFaults kind)) ∧ W = w') by rw [← u70]; exact has_ref u 70 W hsm)
   have H84 := Lib.hid (fun (W : World) => show Calls Tryz.prog 106 #[.string u, .int .u8 84] W (fun e w' => e = .returned (.bool (hasTerm kind)) ∧ W = w') by rw [← u84]; exact has_ref u 84 W hsm)
   have H80 := Lib.hid (fun (W : World) => show Calls Tryz.prog 106 #[.string u, .int .u8 80] W (fun e w' => e = .returned (.bool (hasConfig kind)) ∧ W = w') by rw [← u80]; exact has_ref u 80 W hsm)
   have H85 := Lib.hid (fun (W : World) => show Calls Tryz.prog 106 #[.string u, .int .u8 85] W (fun e w' => e = .returned (.bool (hasConfig kind || mayUse kind)) ∧ W = w') by rw [← u85]; exact has_ref u 85 W hsm)
   clear u78 u76 u70 u84 u80 u85 hsm hparts hrange hu hkk
   go_wp2_with fail
   refine HU.out.mono ?_
   rintro e w1 ⟨rfl, hb1⟩
   have hbw1 : Below (w.heap.size + 1) w0 w1 := hb1.mono (by omega)
   clear c0
   go_wp2
   go_loopw [4] (fun x wr => ∃ k : Nat, k ≤ faults.length ∧ x = .int .i64 k ∧ Below (w.heap.size + 1) w0 wr ∧ Hid (faults.all okFt = (faults.drop k).all okFt)) (fun x _ => faults.length - (intOf x).toNat)
   case atStart => exact ⟨0, Nat.zero_le _, rfl, hbw1, rfl⟩
   case round =>
    obtain ⟨k, hk, rfl, hb, hd⟩ := hrel
    have hsr := hb.size
    have hbw : Below w.heap.size w wr := hb0.trans (hb.mono (by omega))
    have hbs := hbw.size
    have HRr := Lib.hid ((hb.block _ (by omega)).trans HR0.out)
    obtain ⟨-, -, -, -, c4, -, -, -, -, -, -, -, -, -, -, -, -, -, -, -, -, -, -⟩ := row22 HRr.out
    by_cases hlt : k < faults.length
    ·obtain ⟨g, o, op, nm, x, y, bA, bn, bc, cA, cn, cc, rfl, hSg, hft, k0, k1, k2, k3, k4, k5⟩ := fault_cells6 (HFL.out.keep (P' := FtAt wr S) (kept_of hbw hS) (fun _ _ h => h.keep (kept_of hbw hS))) hlt
     have hgs : g < wr.heap.size := World.block_lt_of_cell? wr _ k0
     have hkI : (k : Int) < (faults.length : Int) := by omega
     have hk0 : (0 : Int) ≤ (k : Int) := by omega
     have hmem : faults[k] ∈ faults := List.getElem_mem hlt
     have hC := isFault_ref _ _ wr S hft (hS2 wr hbw) (HL3.out _ hmem)
     have hdk : (faults.drop k).all okFt = (okFt faults[k] && (faults.drop (k + 1)).all okFt) := by rw [List.drop_eq_getElem_cons hlt, List.all_cons]
     cases hq : okFt faults[k]
     ·rw [hq] at hC hdk
      have HC := Lib.hid hC
      have E := Lib.hid (show okDc ⟨kind, line, name, names, faults, term, proto, read, write, use⟩ = false by rw [HOK.out, hd.out, hdk, Bool.false_and]; simp)
      clear hC hdk hq hft
      go_wp2_with fail
      refine HC.out.mono ?_
      rintro e W2 ⟨rfl, hb2⟩
      go_wp2
      go_ret
      exact ⟨by rw [E.out]; rfl, hbw.trans (hb2.mono hbs)⟩
     ·rw [hq] at hC hdk
      have HC := Lib.hid hC
      have E := Lib.hid (show faults.all okFt = (faults.drop (k + 1)).all okFt by rw [hd.out, hdk, Bool.true_and])
      clear hC hdk hq hft
      go_wp2_with fail
      refine HC.out.mono ?_
      rintro e W2 ⟨rfl, hb2⟩
      go_wp2
      go_roundw
      case rel => exact ⟨k + 1, by omega, by go_num, hb.trans (hb2.mono (by omega)), E.out⟩
      case measure => simp [intOf]; omega
    ·obtain rfl : k = faults.length := by omega
     have hkI : ¬ (faults.length : Int) < (faults.length : Int) := by omega
     have HOK2 := Lib.hid (show okDc ⟨kind, line, name, names, faults, term, proto, read, write, use⟩ = (A9 ⟨kind, line, name, names, faults, term, proto, read, write, use⟩ && A11 ⟨kind, line, name, names, faults, term, proto, read, write, use⟩ && A13 ⟨kind, line, name, names, faults, term, proto, read, write, use⟩ && A15 ⟨kind, line, name, names, faults, term, proto, read, write, use⟩) by rw [HOK.out, hd.out, List.drop_length, List.all_nil, Bool.and_true])
     clear hd HOK
     go_upto_region 9 with fail
     clear c4
     obtain ⟨-, -, c2, c3, c4, -, -, -, -, -, -, -, -, -, -, -, -, -, -, -, -, -, -⟩ := row22 HRr.out
     go_cut [70] (fun s70 wx => s70 = .bool true ∧ Below wr.heap.size wr wx)
     case first =>
      have hwlt : w.heap.size < wr.heap.size := by omega
      have hE := H9.out
      have h9 := cases9_bad ⟨kind, line, name, names, faults, term, proto, read, write, use⟩ H9.out
      simp only at h9
      rcases h9 with h9 | h9 | h9 | h9 | h9 | h9 | h9 | h9
      case' inl =>
       have zU1 := True.intro
       have zU2 := True.intro
       have zU3 := True.intro
       have zU4 := True.intro
       rcases h9 with ⟨hN, hnm⟩ | ⟨hN, hnm⟩
      case' inr.inl =>
       have zU2 := True.intro
       have zU3 := True.intro
       have zU4 := True.intro
       obtain ⟨hN, hnm, hO⟩ := h9
      case' inr.inr.inl =>
       have zUN := True.intro
       have zU3 := True.intro
       have zU4 := True.intro
       obtain ⟨hN, hnm, hL⟩ := h9
      case' inr.inr.inr.inl =>
       have zUN := True.intro
       have zU4 := True.intro
       obtain ⟨hN, hnm, hL, hA⟩ := h9
      case' inr.inr.inr.inr.inl =>
       have zUN := True.intro
       obtain ⟨hN, hnm, hL, hA, hF⟩ := h9
      case' inr.inr.inr.inr.inr.inl =>
       have zU3 := True.intro
       have zU4 := True.intro
       obtain ⟨hN, hnm, hO, hL⟩ := h9
      case' inr.inr.inr.inr.inr.inr.inl =>
       have zU4 := True.intro
       obtain ⟨hN, hnm, hO, hL, hA⟩ := h9
      case' inr.inr.inr.inr.inr.inr.inr =>
       obtain ⟨hN, hnm, hO, hL, hA, hF⟩ := h9
      all_goals
       (try rw [hN] at H78)
       (try rw [hL] at H76)
       (try rw [hF] at H70)
       have HN := Lib.hid (fun (W : World) => HNM.out name W)
       have HA := HALL
       (try rw [hO] at HN)
       (try rw [hA] at HA)
       have hx := (Below.refl wr.heap.size wr).drew
       have hemp : 0 < name.size → name.toList.isEmpty = false := toList_isEmpty
       have hemp0 : name.size = 0 → name.toList = [] := fun h => by rw [size_zero h]; simp
       first
        | (have hne := hemp hnm; have hne2 := toList_ne hnm)
        | (have hne := hemp0 hnm)
       have zl1 : (decide (0 < names.length) != decide (0 < names.length)) = false := bne_self_eq_false _
       have zl2 : ((!decide (0 < names.length)) != decide (0 < names.length)) = true := by cases decide (0 < names.length) <;> rfl
       have zf1 : (decide (0 < faults.length) != decide (0 < faults.length)) = false := bne_self_eq_false _
       have zf2 : ((!decide (0 < faults.length)) != decide (0 < faults.length)) = true := by cases decide (0 < faults.length) <;> rfl
       have HE := Lib.hid hE
       clear hE hemp hemp0
       (try clear hN)
       (try clear hnm)
       (try clear hO)
       (try clear hL)
       (try clear hA)
       (try clear hF)
       refine wp_region_held_drew (S := fun w' => w'.cell? ⟨w.heap.size, 2, none⟩ = wr.cell? ⟨w.heap.size, 2, none⟩ ∧ w'.cell? ⟨w.heap.size, 3, none⟩ = wr.cell? ⟨w.heap.size, 3, none⟩ ∧ w'.cell? ⟨w.heap.size, 4, none⟩ = wr.cell? ⟨w.heap.size, 4, none⟩) (by kernel_rfl) (by exact ⟨hx.cell (p := ⟨w.heap.size, 2, none⟩) hwlt, hx.cell (p := ⟨w.heap.size, 3, none⟩) hwlt, hx.cell (p := ⟨w.heap.size, 4, none⟩) hwlt⟩) (fun hHeld => ?_)
       (refine wpAnyH_take (i := 0) (oi := _) (v := ?_) rfl (by kernel_rfl) (by kernel_rfl) (by kernel_rfl) (fun _ _ _ h => h) (Or.inl ⟨by kernel_rfl, ?_⟩) hHeld ?_; rotate_left; focus (intro w9 hS9; (try dsimp only at hS9); go_simp; (try with_reducible rfl); done))
       (try simp only [Act.put, List.setIfInBounds_toArray])
       (refine wpAnyH_take (i := 2) (oi := _) (v := ?_) rfl (by kernel_rfl) (by kernel_rfl) (by kernel_rfl) (fun _ _ _ h => h) (Or.inl ⟨by kernel_rfl, ?_⟩) hHeld ?_; rotate_left; focus (intro w9 hS9; (try dsimp only at hS9); go_simp; (try with_reducible rfl); done))
       (try simp only [Act.put])
       (refine wpAnyH_take (i := 3) (oi := _) (v := ?_) rfl (by kernel_rfl) (by kernel_rfl) (by kernel_rfl) (fun _ _ _ h => h) (Or.inl ⟨by kernel_rfl, ?_⟩) hHeld ?_; rotate_left; focus (intro w9 hS9; (try dsimp only at hS9); go_simp; (try with_reducible rfl); done))
       (try simp only [Act.put])
       (refine wpAnyH_take (i := 4) (oi := _) (v := ?_) rfl (by kernel_rfl) (by kernel_rfl) (by kernel_rfl) (fun _ _ _ h => h) (Or.inl ⟨by kernel_rfl, ?_⟩) hHeld ?_; rotate_left; focus (intro w9 hS9; (try dsimp only at hS9); go_simp; (try with_reducible rfl); done))
       (try simp only [Act.put])
       (refine wpAnyH_ready (rs := [1]) (by kernel_rfl) (by simp) ?_; refine AllReadyH.cons (o := _) rfl (fun K hK => ?_) AllReadyH.nil; go_simp; (go_at_call 106; refine (H78.out _).mono ?_; rintro e w8 ⟨rfl, rfl⟩); (try go_simp); refine hK.out _ _ (by exact ⟨hx.cell (p := ⟨w.heap.size, 2, none⟩) hwlt, hx.cell (p := ⟨w.heap.size, 3, none⟩) hwlt, hx.cell (p := ⟨w.heap.size, 4, none⟩) hwlt⟩) (fun hHeld => ?_); clear hK K)
       (try simp only [Act.put, List.setIfInBounds_toArray, List.set_cons_zero, List.set_cons_succ])
       (refine wpAnyH_take (i := 5) (oi := _) (v := ?_) rfl (by kernel_rfl) (by kernel_rfl) (by kernel_rfl) (fun _ _ _ h => h) (Or.inl ⟨by kernel_rfl, ?_⟩) hHeld ?_; rotate_left; focus (intro w9 hS9; (try dsimp only at hS9); go_simp; (try with_reducible rfl); done))
       (try simp only [Act.put, List.setIfInBounds_toArray])
       (refine wpAnyH_take (i := 6) (oi := _) (v := ?_) rfl (by kernel_rfl) (by kernel_rfl) (by kernel_rfl) (fun _ _ _ h => h) (Or.inl ⟨by kernel_rfl, ?_⟩) hHeld ?_; rotate_left; focus (intro w9 hS9; (try dsimp only at hS9); go_simp; (try with_reducible rfl); done))
       (try simp only [Act.put])
       (first | (have := zU1; refine wpAnyH_take (i := 7) (oi := _) (v := undef) rfl (by kernel_rfl) (by kernel_rfl) (by kernel_rfl) (fun _ _ _ h => h) (Or.inr ⟨by kernel_rfl, rfl⟩) hHeld ?_) | (refine wpAnyH_take (i := 7) (oi := _) (v := ?_) rfl (by kernel_rfl) (by kernel_rfl) (by kernel_rfl) (fun _ _ _ h => h) (Or.inl ⟨by kernel_rfl, ?_⟩) hHeld ?_; rotate_left; focus (intro w9 hS9; (try dsimp only at hS9); go_simp; (try with_reducible rfl); done)))
       (try simp only [Act.put])
       (first | (have := zU1; refine wpAnyH_take (i := 8) (oi := _) (v := undef) rfl (by kernel_rfl) (by kernel_rfl) (by kernel_rfl) (fun _ _ _ h => h) (Or.inr ⟨by kernel_rfl, rfl⟩) hHeld ?_) | (refine wpAnyH_take (i := 8) (oi := _) (v := ?_) rfl (by kernel_rfl) (by kernel_rfl) (by kernel_rfl) (fun _ _ _ h => h) (Or.inl ⟨by kernel_rfl, ?_⟩) hHeld ?_; rotate_left; focus (intro w9 hS9; (try dsimp only at hS9); go_simp; (try with_reducible rfl); done)))
       (try simp only [Act.put])
       (first | (have := zU1; refine wpAnyH_take (i := 9) (oi := _) (v := undef) rfl (by kernel_rfl) (by kernel_rfl) (by kernel_rfl) (fun _ _ _ h => h) (Or.inr ⟨by kernel_rfl, rfl⟩) hHeld ?_) | (refine wpAnyH_take (i := 9) (oi := _) (v := ?_) rfl (by kernel_rfl) (by kernel_rfl) (by kernel_rfl) (fun _ _ _ h => h) (Or.inl ⟨by kernel_rfl, ?_⟩) hHeld ?_; rotate_left; focus (intro w9 hS9; (try dsimp only at hS9); go_simp; (try with_reducible rfl); done)))
       (try simp only [Act.put])
       (first | (have := zU1; refine wpAnyH_take (i := 10) (oi := _) (v := undef) rfl (by kernel_rfl) (by kernel_rfl) (by kernel_rfl) (fun _ _ _ h => h) (Or.inr ⟨by kernel_rfl, rfl⟩) hHeld ?_) | (refine wpAnyH_take (i := 10) (oi := _) (v := ?_) rfl (by kernel_rfl) (by kernel_rfl) (by kernel_rfl) (fun _ _ _ h => h) (Or.inl ⟨by kernel_rfl, ?_⟩) hHeld ?_; rotate_left; focus (intro w9 hS9; (try dsimp only at hS9); go_simp; (try with_reducible rfl); done)))
       (try simp only [Act.put])
       (first | (have := zU1; refine wpAnyH_take (i := 11) (oi := _) (v := undef) rfl (by kernel_rfl) (by kernel_rfl) (by kernel_rfl) (fun _ _ _ h => h) (Or.inr ⟨by kernel_rfl, rfl⟩) hHeld ?_) | (have := zUN; refine wpAnyH_take (i := 11) (oi := _) (v := undef) rfl (by kernel_rfl) (by kernel_rfl) (by kernel_rfl) (fun _ _ _ h => h) (Or.inr ⟨by kernel_rfl, rfl⟩) hHeld ?_) | (refine wpAnyH_take (i := 11) (oi := _) (v := ?_) rfl (by kernel_rfl) (by kernel_rfl) (by kernel_rfl) (fun _ _ _ h => h) (Or.inl ⟨by kernel_rfl, ?_⟩) hHeld ?_; rotate_left; focus (intro w9 hS9; (try dsimp only at hS9); go_simp; (try with_reducible rfl); done)))
       (try simp only [Act.put])
       (first | (have := zU1; refine wpAnyH_take (i := 12) (oi := _) (v := undef) rfl (by kernel_rfl) (by kernel_rfl) (by kernel_rfl) (fun _ _ _ h => h) (Or.inr ⟨by kernel_rfl, rfl⟩) hHeld ?_) | (have := zUN; refine wpAnyH_take (i := 12) (oi := _) (v := undef) rfl (by kernel_rfl) (by kernel_rfl) (by kernel_rfl) (fun _ _ _ h => h) (Or.inr ⟨by kernel_rfl, rfl⟩) hHeld ?_) | (refine wpAnyH_take (i := 12) (oi := _) (v := ?_) rfl (by kernel_rfl) (by kernel_rfl) (by kernel_rfl) (fun _ _ _ h => h) (Or.inl ⟨by kernel_rfl, ?_⟩) hHeld ?_; rotate_left; focus (intro w9 hS9; (try dsimp only at hS9); go_simp; (try with_reducible rfl); done)))
       (try simp only [Act.put])
       (first | (have := zU1; refine wpAnyH_take (i := 13) (oi := _) (v := undef) rfl (by kernel_rfl) (by kernel_rfl) (by kernel_rfl) (fun _ _ _ h => h) (Or.inr ⟨by kernel_rfl, rfl⟩) hHeld ?_) | (have := zUN; refine wpAnyH_take (i := 13) (oi := _) (v := undef) rfl (by kernel_rfl) (by kernel_rfl) (by kernel_rfl) (fun _ _ _ h => h) (Or.inr ⟨by kernel_rfl, rfl⟩) hHeld ?_) | (refine wpAnyH_ready (rs := [13]) (by kernel_rfl) (by simp) ?_; refine AllReadyH.cons (o := _) rfl (fun K hK => ?_) AllReadyH.nil; go_simp; (go_at_call 92; refine (HN.out _).mono ?_; rintro e w8 ⟨rfl, hv⟩; have hx := hx.trans (hv.mono hx.size)); (try go_simp); refine hK.out _ _ (by exact ⟨hx.cell (p := ⟨w.heap.size, 2, none⟩) hwlt, hx.cell (p := ⟨w.heap.size, 3, none⟩) hwlt, hx.cell (p := ⟨w.heap.size, 4, none⟩) hwlt⟩) (fun hHeld => ?_); clear hK K))
       (try simp only [Act.put])
       (first | (have := zU1; refine wpAnyH_take (i := 14) (oi := _) (v := undef) rfl (by kernel_rfl) (by kernel_rfl) (by kernel_rfl) (fun _ _ _ h => h) (Or.inr ⟨by kernel_rfl, rfl⟩) hHeld ?_) | (have := zUN; refine wpAnyH_take (i := 14) (oi := _) (v := undef) rfl (by kernel_rfl) (by kernel_rfl) (by kernel_rfl) (fun _ _ _ h => h) (Or.inr ⟨by kernel_rfl, rfl⟩) hHeld ?_) | (refine wpAnyH_take (i := 14) (oi := _) (v := ?_) rfl (by kernel_rfl) (by kernel_rfl) (by kernel_rfl) (fun _ _ _ h => h) (Or.inl ⟨by kernel_rfl, ?_⟩) hHeld ?_; rotate_left; focus (intro w9 hS9; (try dsimp only at hS9); go_simp; (try with_reducible rfl); done)))
       (try simp only [Act.put, List.setIfInBounds_toArray])
       (first | (have := zU1; refine wpAnyH_take (i := 15) (oi := _) (v := undef) rfl (by kernel_rfl) (by kernel_rfl) (by kernel_rfl) (fun _ _ _ h => h) (Or.inr ⟨by kernel_rfl, rfl⟩) hHeld ?_) | (refine wpAnyH_take (i := 15) (oi := _) (v := ?_) rfl (by kernel_rfl) (by kernel_rfl) (by kernel_rfl) (fun _ _ _ h => h) (Or.inl ⟨by kernel_rfl, ?_⟩) hHeld ?_; rotate_left; focus (intro w9 hS9; (try dsimp only at hS9); go_simp; (try with_reducible rfl); done)))
       (try simp only [Act.put])
       (refine wpAnyH_take (i := 16) (oi := _) (v := ?_) rfl (by kernel_rfl) (by kernel_rfl) (by kernel_rfl) (fun _ _ _ h => h) (Or.inl ⟨by kernel_rfl, ?_⟩) hHeld ?_; rotate_left; focus (intro w9 hS9; (try dsimp only at hS9); go_simp; (try with_reducible rfl); done))
       (try simp only [Act.put])
       (refine wpAnyH_take (i := 17) (oi := _) (v := ?_) rfl (by kernel_rfl) (by kernel_rfl) (by kernel_rfl) (fun _ _ _ h => h) (Or.inl ⟨by kernel_rfl, ?_⟩) hHeld ?_; rotate_left; focus (intro w9 hS9; (try dsimp only at hS9); go_simp; (try with_reducible rfl); done))
       (try simp only [Act.put])
       (first | (have := zU2; refine wpAnyH_take (i := 18) (oi := _) (v := undef) rfl (by kernel_rfl) (by kernel_rfl) (by kernel_rfl) (fun _ _ _ h => h) (Or.inr ⟨by kernel_rfl, rfl⟩) hHeld ?_) | (refine wpAnyH_take (i := 18) (oi := _) (v := ?_) rfl (by kernel_rfl) (by kernel_rfl) (by kernel_rfl) (fun _ _ _ h => h) (Or.inl ⟨by kernel_rfl, ?_⟩) hHeld ?_; rotate_left; focus (intro w9 hS9; (try dsimp only at hS9); go_simp; (try with_reducible rfl); done)))
       (try simp only [Act.put])
       (first | (have := zU2; refine wpAnyH_take (i := 20) (oi := _) (v := undef) rfl (by kernel_rfl) (by kernel_rfl) (by kernel_rfl) (fun _ _ _ h => h) (Or.inr ⟨by kernel_rfl, rfl⟩) hHeld ?_) | (refine wpAnyH_take (i := 20) (oi := _) (v := ?_) rfl (by kernel_rfl) (by kernel_rfl) (by kernel_rfl) (fun _ _ _ h => h) (Or.inl ⟨by kernel_rfl, ?_⟩) hHeld ?_; rotate_left; focus (intro w9 hS9; (try dsimp only at hS9); go_simp; (try with_reducible rfl); done)))
       (try simp only [Act.put])
       (first | (have := zU2; refine wpAnyH_take (i := 21) (oi := _) (v := undef) rfl (by kernel_rfl) (by kernel_rfl) (by kernel_rfl) (fun _ _ _ h => h) (Or.inr ⟨by kernel_rfl, rfl⟩) hHeld ?_) | (refine wpAnyH_take (i := 21) (oi := _) (v := ?_) rfl (by kernel_rfl) (by kernel_rfl) (by kernel_rfl) (fun _ _ _ h => h) (Or.inl ⟨by kernel_rfl, ?_⟩) hHeld ?_; rotate_left; focus (intro w9 hS9; (try dsimp only at hS9); go_simp; (try with_reducible rfl); done)))
       (try simp only [Act.put])
       (first | (have := zU2; refine wpAnyH_take (i := 22) (oi := _) (v := undef) rfl (by kernel_rfl) (by kernel_rfl) (by kernel_rfl) (fun _ _ _ h => h) (Or.inr ⟨by kernel_rfl, rfl⟩) hHeld ?_) | (refine wpAnyH_take (i := 22) (oi := _) (v := ?_) rfl (by kernel_rfl) (by kernel_rfl) (by kernel_rfl) (fun _ _ _ h => h) (Or.inl ⟨by kernel_rfl, ?_⟩) hHeld ?_; rotate_left; focus (intro w9 hS9; (try dsimp only at hS9); go_simp; (try with_reducible rfl); done)))
       (try simp only [Act.put])
       (first | (have := zU2; refine wpAnyH_take (i := 23) (oi := _) (v := undef) rfl (by kernel_rfl) (by kernel_rfl) (by kernel_rfl) (fun _ _ _ h => h) (Or.inr ⟨by kernel_rfl, rfl⟩) hHeld ?_) | (refine wpAnyH_take (i := 23) (oi := _) (v := ?_) rfl (by kernel_rfl) (by kernel_rfl) (by kernel_rfl) (fun _ _ _ h => h) (Or.inl ⟨by kernel_rfl, ?_⟩) hHeld ?_; rotate_left; focus (intro w9 hS9; (try dsimp only at hS9); go_simp; (try with_reducible rfl); done)))
       (try simp only [Act.put])
       (first | (have := zU2; refine wpAnyH_take (i := 19) (oi := _) (v := undef) rfl (by kernel_rfl) (by kernel_rfl) (by kernel_rfl) (fun _ _ _ h => h) (Or.inr ⟨by kernel_rfl, rfl⟩) hHeld ?_) | (refine wpAnyH_ready (rs := [19]) (by kernel_rfl) (by simp) ?_; refine AllReadyH.cons (o := _) rfl (fun K hK => ?_) AllReadyH.nil; go_simp; (go_at_call 106; refine (H76.out _).mono ?_; rintro e w8 ⟨rfl, rfl⟩); (try go_simp); refine hK.out _ _ (by exact ⟨hx.cell (p := ⟨w.heap.size, 2, none⟩) hwlt, hx.cell (p := ⟨w.heap.size, 3, none⟩) hwlt, hx.cell (p := ⟨w.heap.size, 4, none⟩) hwlt⟩) (fun hHeld => ?_); clear hK K))
       (try simp only [Act.put])
       (first | (have := zU2; refine wpAnyH_take (i := 24) (oi := _) (v := undef) rfl (by kernel_rfl) (by kernel_rfl) (by kernel_rfl) (fun _ _ _ h => h) (Or.inr ⟨by kernel_rfl, rfl⟩) hHeld ?_) | (refine wpAnyH_take (i := 24) (oi := _) (v := ?_) rfl (by kernel_rfl) (by kernel_rfl) (by kernel_rfl) (fun _ _ _ h => h) (Or.inl ⟨by kernel_rfl, ?_⟩) hHeld ?_; rotate_left; focus (intro w9 hS9; (try dsimp only at hS9); go_simp; (try with_reducible rfl); done)))
       (try simp only [Act.put, List.setIfInBounds_toArray])
       (refine wpAnyH_take (i := 25) (oi := _) (v := ?_) rfl (by kernel_rfl) (by kernel_rfl) (by kernel_rfl) (fun _ _ _ h => h) (Or.inl ⟨by kernel_rfl, ?_⟩) hHeld ?_; rotate_left; focus (intro w9 hS9; (try dsimp only at hS9); go_simp; (try with_reducible rfl); done))
       (try simp only [Act.put])
       (refine wpAnyH_take (i := 26) (oi := _) (v := ?_) rfl (by kernel_rfl) (by kernel_rfl) (by kernel_rfl) (fun _ _ _ h => h) (Or.inl ⟨by kernel_rfl, ?_⟩) hHeld ?_; rotate_left; focus (intro w9 hS9; (try dsimp only at hS9); go_simp; (try with_reducible rfl); done))
       (try simp only [Act.put])
       (first | (have := zU3; refine wpAnyH_take (i := 27) (oi := _) (v := undef) rfl (by kernel_rfl) (by kernel_rfl) (by kernel_rfl) (fun _ _ _ h => h) (Or.inr ⟨by kernel_rfl, rfl⟩) hHeld ?_) | (refine wpAnyH_take (i := 27) (oi := _) (v := ?_) rfl (by kernel_rfl) (by kernel_rfl) (by kernel_rfl) (fun _ _ _ h => h) (Or.inl ⟨by kernel_rfl, ?_⟩) hHeld ?_; rotate_left; focus (intro w9 hS9; (try dsimp only at hS9); go_simp; (try with_reducible rfl); done)))
       (try simp only [Act.put])
       (first | (have := zU3; refine wpAnyH_take (i := 28) (oi := _) (v := undef) rfl (by kernel_rfl) (by kernel_rfl) (by kernel_rfl) (fun _ _ _ h => h) (Or.inr ⟨by kernel_rfl, rfl⟩) hHeld ?_) | (refine wpAnyH_take (i := 28) (oi := _) (v := ?_) rfl (by kernel_rfl) (by kernel_rfl) (by kernel_rfl) (fun _ _ _ h => h) (Or.inl ⟨by kernel_rfl, ?_⟩) hHeld ?_; rotate_left; focus (intro w9 hS9; (try dsimp only at hS9); go_simp; (try with_reducible rfl); done)))
       (try simp only [Act.put])
       (first | (have := zU3; refine wpAnyH_take (i := 29) (oi := _) (v := undef) rfl (by kernel_rfl) (by kernel_rfl) (by kernel_rfl) (fun _ _ _ h => h) (Or.inr ⟨by kernel_rfl, rfl⟩) hHeld ?_) | (refine wpAnyH_ready (rs := [29]) (by kernel_rfl) (by simp) ?_; refine AllReadyH.cons (o := _) rfl (fun K hK => ?_) AllReadyH.nil; go_simp; (go_at_call 107; refine (HA.out _ (hbw.trans (hx.mono hbs))).mono ?_; rintro e w8 ⟨rfl, hv⟩; have hx := hx.trans (hv.mono hx.size)); (try go_simp); refine hK.out _ _ (by exact ⟨hx.cell (p := ⟨w.heap.size, 2, none⟩) hwlt, hx.cell (p := ⟨w.heap.size, 3, none⟩) hwlt, hx.cell (p := ⟨w.heap.size, 4, none⟩) hwlt⟩) (fun hHeld => ?_); clear hK K))
       (try simp only [Act.put])
       (first | (have := zU3; refine wpAnyH_take (i := 30) (oi := _) (v := undef) rfl (by kernel_rfl) (by kernel_rfl) (by kernel_rfl) (fun _ _ _ h => h) (Or.inr ⟨by kernel_rfl, rfl⟩) hHeld ?_) | (refine wpAnyH_take (i := 30) (oi := _) (v := ?_) rfl (by kernel_rfl) (by kernel_rfl) (by kernel_rfl) (fun _ _ _ h => h) (Or.inl ⟨by kernel_rfl, ?_⟩) hHeld ?_; rotate_left; focus (intro w9 hS9; (try dsimp only at hS9); go_simp; (try with_reducible rfl); done)))
       (try simp only [Act.put, List.setIfInBounds_toArray])
       (refine wpAnyH_take (i := 31) (oi := _) (v := ?_) rfl (by kernel_rfl) (by kernel_rfl) (by kernel_rfl) (fun _ _ _ h => h) (Or.inl ⟨by kernel_rfl, ?_⟩) hHeld ?_; rotate_left; focus (intro w9 hS9; (try dsimp only at hS9); go_simp; (try with_reducible rfl); done))
       (try simp only [Act.put])
       (refine wpAnyH_take (i := 32) (oi := _) (v := ?_) rfl (by kernel_rfl) (by kernel_rfl) (by kernel_rfl) (fun _ _ _ h => h) (Or.inl ⟨by kernel_rfl, ?_⟩) hHeld ?_; rotate_left; focus (intro w9 hS9; (try dsimp only at hS9); go_simp; (try with_reducible rfl); done))
       (try simp only [Act.put])
       (first | (have := zU4; refine wpAnyH_take (i := 33) (oi := _) (v := undef) rfl (by kernel_rfl) (by kernel_rfl) (by kernel_rfl) (fun _ _ _ h => h) (Or.inr ⟨by kernel_rfl, rfl⟩) hHeld ?_) | (refine wpAnyH_take (i := 33) (oi := _) (v := ?_) rfl (by kernel_rfl) (by kernel_rfl) (by kernel_rfl) (fun _ _ _ h => h) (Or.inl ⟨by kernel_rfl, ?_⟩) hHeld ?_; rotate_left; focus (intro w9 hS9; (try dsimp only at hS9); go_simp; (try with_reducible rfl); done)))
       (try simp only [Act.put])
       (first | (have := zU4; refine wpAnyH_take (i := 35) (oi := _) (v := undef) rfl (by kernel_rfl) (by kernel_rfl) (by kernel_rfl) (fun _ _ _ h => h) (Or.inr ⟨by kernel_rfl, rfl⟩) hHeld ?_) | (refine wpAnyH_take (i := 35) (oi := _) (v := ?_) rfl (by kernel_rfl) (by kernel_rfl) (by kernel_rfl) (fun _ _ _ h => h) (Or.inl ⟨by kernel_rfl, ?_⟩) hHeld ?_; rotate_left; focus (intro w9 hS9; (try dsimp only at hS9); go_simp; (try with_reducible rfl); done)))
       (try simp only [Act.put])
       (first | (have := zU4; refine wpAnyH_take (i := 36) (oi := _) (v := undef) rfl (by kernel_rfl) (by kernel_rfl) (by kernel_rfl) (fun _ _ _ h => h) (Or.inr ⟨by kernel_rfl, rfl⟩) hHeld ?_) | (refine wpAnyH_take (i := 36) (oi := _) (v := ?_) rfl (by kernel_rfl) (by kernel_rfl) (by kernel_rfl) (fun _ _ _ h => h) (Or.inl ⟨by kernel_rfl, ?_⟩) hHeld ?_; rotate_left; focus (intro w9 hS9; (try dsimp only at hS9); go_simp; (try with_reducible rfl); done)))
       (try simp only [Act.put])
       (first | (have := zU4; refine wpAnyH_take (i := 37) (oi := _) (v := undef) rfl (by kernel_rfl) (by kernel_rfl) (by kernel_rfl) (fun _ _ _ h => h) (Or.inr ⟨by kernel_rfl, rfl⟩) hHeld ?_) | (refine wpAnyH_take (i := 37) (oi := _) (v := ?_) rfl (by kernel_rfl) (by kernel_rfl) (by kernel_rfl) (fun _ _ _ h => h) (Or.inl ⟨by kernel_rfl, ?_⟩) hHeld ?_; rotate_left; focus (intro w9 hS9; (try dsimp only at hS9); go_simp; (try with_reducible rfl); done)))
       (try simp only [Act.put])
       (first | (have := zU4; refine wpAnyH_take (i := 38) (oi := _) (v := undef) rfl (by kernel_rfl) (by kernel_rfl) (by kernel_rfl) (fun _ _ _ h => h) (Or.inr ⟨by kernel_rfl, rfl⟩) hHeld ?_) | (refine wpAnyH_take (i := 38) (oi := _) (v := ?_) rfl (by kernel_rfl) (by kernel_rfl) (by kernel_rfl) (fun _ _ _ h => h) (Or.inl ⟨by kernel_rfl, ?_⟩) hHeld ?_; rotate_left; focus (intro w9 hS9; (try dsimp only at hS9); go_simp; (try with_reducible rfl); done)))
       (try simp only [Act.put])
       (first | (have := zU4; refine wpAnyH_take (i := 34) (oi := _) (v := undef) rfl (by kernel_rfl) (by kernel_rfl) (by kernel_rfl) (fun _ _ _ h => h) (Or.inr ⟨by kernel_rfl, rfl⟩) hHeld ?_) | (refine wpAnyH_ready (rs := [34]) (by kernel_rfl) (by simp) ?_; refine AllReadyH.cons (o := _) rfl (fun K hK => ?_) AllReadyH.nil; go_simp; (go_at_call 106; refine (H70.out _).mono ?_; rintro e w8 ⟨rfl, rfl⟩); (try go_simp); refine hK.out _ _ (by exact ⟨hx.cell (p := ⟨w.heap.size, 2, none⟩) hwlt, hx.cell (p := ⟨w.heap.size, 3, none⟩) hwlt, hx.cell (p := ⟨w.heap.size, 4, none⟩) hwlt⟩) (fun hHeld => ?_); clear hK K))
       (try simp only [Act.put])
       (first | (have := zU4; refine wpAnyH_take (i := 39) (oi := _) (v := undef) rfl (by kernel_rfl) (by kernel_rfl) (by kernel_rfl) (fun _ _ _ h => h) (Or.inr ⟨by kernel_rfl, rfl⟩) hHeld ?_) | (refine wpAnyH_take (i := 39) (oi := _) (v := ?_) rfl (by kernel_rfl) (by kernel_rfl) (by kernel_rfl) (fun _ _ _ h => h) (Or.inl ⟨by kernel_rfl, ?_⟩) hHeld ?_; rotate_left; focus (intro w9 hS9; (try dsimp only at hS9); go_simp; (try with_reducible rfl); done)))
       (try simp only [Act.put, List.setIfInBounds_toArray])
       (refine wpAnyH_take (i := 40) (oi := _) (v := ?_) rfl (by kernel_rfl) (by kernel_rfl) (by kernel_rfl) (fun _ _ _ h => h) (Or.inl ⟨by kernel_rfl, ?_⟩) hHeld ?_; rotate_left; focus (intro w9 hS9; (try dsimp only at hS9); go_simp; (try with_reducible rfl); done))
       (try simp only [Act.put])
       refine wpAnyH_done (by kernel_rfl) ?_ _
       go_wp2_with fail
       go_meet
       exact ⟨congrArg Value.bool (by first | rfl | (rw [HE.out]; rfl)), hx⟩
     case rest =>
      obtain ⟨rfl, hb9⟩ := hcut
      obtain ⟨W9, hW9⟩ : ∃ W9 : World, W9 = wc := ⟨_, rfl⟩
      rw [← hW9] at hb9
      rw [← hW9]
      clear hW9 c2 c3 c4
      have hbw9 : Below w.heap.size w W9 := hbw.trans (hb9.mono hbs)
      have hs9 := hb9.size
      have HR9 := Lib.hid ((hb9.block _ (by omega)).trans HRr.out)
      clear hb HRr
      have E := Lib.hid (show okDc ⟨kind, line, name, names, faults, term, proto, read, write, use⟩ = false by rw [HOK2.out, H9.out, Bool.false_and, Bool.false_and, Bool.false_and])
      go_wp2
      go_ret
      exact ⟨by rw [E.out]; rfl, hbw9⟩
  ·have q7 : (7 : Int) < kind := by omega
   have E := Lib.hid (hrange (by omega))
   clear hparts hrange
   go_wp2
   go_ret
   exact ⟨by rw [E.out]; rfl, hb0⟩
 ·have q1 : kind < (1 : Int) := by omega
  have E := Lib.hid (hrange (by omega))
  clear hparts hrange
  go_wp2
  go_ret
  exact ⟨by rw [E.out]; rfl, hb0⟩
set_option maxRecDepth 100000 in
set_option maxHeartbeats 40000000 in
theorem isDecl_good (d : Dc) (v : Value) (w : World) (S : Nat → Prop) (hd : DcAt w S d v) (hS : ∀ g, S g → g < w.heap.size) (hlim : ILim d) (h9a : A9 d = true) :
  Calls Tryz.prog 56 #[v] w fun e w' => e = .returned (.bool (okDc d)) ∧ Below w.heap.size w w' := by
 have hparts := okDc_fields (d := d)
 have hrange : ¬ (1 ≤ d.kind ∧ d.kind ≤ 7) → okDc d = false := by
  intro h
  unfold okDc
  by_cases h1 : 1 ≤ d.kind
  ·rw [decide_eq_true h1, decide_eq_false (show ¬ d.kind ≤ 7 by omega)]; simp
  ·rw [decide_eq_false h1]; simp
 obtain ⟨kind, line, name, names, faults, term, proto, read, write, use⟩ := d
 obtain ⟨nA, nc, fA, fc, vt, vr, vw, rfl, h1, h2, h3, h4, h5, h6, h7⟩ := hd
 obtain ⟨o1, m1, d1, wA1, wn1, wc1, kA1, kn1, kc1, rfl⟩ := h5.form
 obtain ⟨o2, m2, d2, wA2, wn2, wc2, kA2, kn2, kc2, rfl⟩ := h6.form
 obtain ⟨o3, m3, d3, wA3, wn3, wc3, kA3, kn3, kc3, rfl⟩ := h7.form
 obtain ⟨l1, l2, l3, l4, l5, l6⟩ := hlim
 simp only at h1 h2 h3 h4 h5 h6 h7 l1 l2 l3 l4 l5 l6 hparts hrange
 have H9 := Lib.hid h9a
 clear h9a
 simp only [Value.cells, List.append_toArray, List.cons_append, List.nil_append]
 have hS2 : ∀ (W : World), Below w.heap.size w W → ∀ g, S g → g < W.heap.size := fun W hW g hg => by have := hS g hg; have := hW.size; omega
 have HALL := Lib.hid (fun (W : World) (hW : Below w.heap.size w W) => all_ref names nA nc W S (h1.keep (kept_of hW hS)) (hS2 W hW) (by omega))
 have HT1 := Lib.hid (fun (W : World) (hW : Below w.heap.size w W) => isTerm_ref term _ W S (h5.keep (kept_of hW hS)) (hS2 W hW) (by omega))
 have HT2 := Lib.hid (fun (W : World) (hW : Below w.heap.size w W) => isTerm_ref read _ W S (h6.keep (kept_of hW hS)) (hS2 W hW) (by omega))
 have HT3 := Lib.hid (fun (W : World) (hW : Below w.heap.size w W) => isTerm_ref write _ W S (h7.keep (kept_of hW hS)) (hS2 W hW) (by omega))
 have HB1 := Lib.hid (fun (W : World) => blank_tm term _ w S h5 l4 W)
 have HB2 := Lib.hid (fun (W : World) => blank_tm read _ w S h6 l5 W)
 have HB3 := Lib.hid (fun (W : World) => blank_tm write _ w S h7 l6 W)
 have HFL := Lib.hid h3
 have HL3 := Lib.hid l3
 have HNM := Lib.hid (fun (x : ByteArray) (W : World) => isName_ref x W)
 clear h1 h3 h5 h6 h7 l3 l4 l5 l6
 obtain ⟨w0, hw0⟩ : ∃ w0 : World, w0 = w.alloc (.cells #[.int .i64 kind, .int .i64 line, .string name, .slice nA names.length nc, .slice fA faults.length fc, .int .i64 o1, .string m1, .int .i64 d1, .slice wA1 wn1 wc1, .slice kA1 kn1 kc1, .string proto, .int .i64 o2, .string m2, .int .i64 d2, .slice wA2 wn2 wc2, .slice kA2 kn2 kc2, .int .i64 o3, .string m3, .int .i64 d3, .slice wA3 wn3 wc3, .slice kA3 kn3 kc3, .string use] 54) := ⟨_, rfl⟩
 have hb0 : Below w.heap.size w w0 := by rw [hw0]; exact (Below.refl _ _).alloc (Nat.le_refl _) _
 have hz0 : w0.heap.size = w.heap.size + 1 := by rw [hw0]; simp
 have hr0 : w0.heap[w.heap.size]? = some (.cells #[.int .i64 kind, .int .i64 line, .string name, .slice nA names.length nc, .slice fA faults.length fc, .int .i64 o1, .string m1, .int .i64 d1, .slice wA1 wn1 wc1, .slice kA1 kn1 kc1, .string proto, .int .i64 o2, .string m2, .int .i64 d2, .slice wA2 wn2 wc2, .slice kA2 kn2 kc2, .int .i64 o3, .string m3, .int .i64 d3, .slice wA3 wn3 wc3, .slice kA3 kn3 kc3, .string use] 54 (0, 0)) := by rw [hw0]; exact heap_alloc_new w _
 have hlt0 : w.heap.size + 1 ≤ w0.heap.size := by omega
 have HR0 := Lib.hid hr0
 have HW0 := Lib.hid hw0
 clear hz0 hr0 hw0
 go_enter Tryz.func56, Tryz.ntmps56
 go_upto_region 1 with fail
 rw [← HW0.out]
 obtain ⟨c0, -, -, -, -, -, -, -, -, -, -, -, -, -, -, -, -, -, -, -, -, -, -⟩ := row22 HR0.out
 clear HW0
 by_cases hk1 : 1 ≤ kind
 ·have q1 : ¬ kind < (1 : Int) := by omega
  by_cases hk7 : kind ≤ 7
  ·have q7 : ¬ (7 : Int) < kind := by omega
   have hkk : 1 ≤ kind ∧ kind ≤ 7 := ⟨hk1, hk7⟩
   have HOK := Lib.hid (hparts hkk)
   obtain ⟨u78, u76, u70, u84, u80, u85⟩ := uses_has hkk
   have hsm := usesOf_small hkk
   have HU := Lib.hid (uses_ref kind w0 hkk)
   obtain ⟨u, hu⟩ : ∃ u, u = usesOf kind := ⟨_, rfl⟩
   rw [← hu] at u78 u76 u70 u84 u80 u85 hsm HU
   have H78 := Lib.hid (fun (W : World) => show Calls Tryz.prog 106 #[.string u, .int .u8 78] W (fun e w' => e = .returned (.bool (hasName kind)) ∧ W = w') by rw [← u78]; exact has_ref u 78 W hsm)
   have H76 := Lib.hid (fun (W : World) => show Calls Tryz.prog 106 #[.string u, .int .u8 76] W (fun e w' => e = .returned (.bool (hasNames kind)) ∧ W = w') by rw [← u76]; exact has_ref u 76 W hsm)
   have H70 := Lib.hid (fun (W : World) => show Calls Tryz.prog 106 #[.string u, .int .u8 70] W (fun e w' => e = .returned (.bool (hasFaults kind)) ∧ W = w') by rw [← u70]; exact has_ref u 70 W hsm)
   have H84 := Lib.hid (fun (W : World) => show Calls Tryz.prog 106 #[.string u, .int .u8 84] W (fun e w' => e = .returned (.bool (hasTerm kind)) ∧ W = w') by rw [← u84]; exact has_ref u 84 W hsm)
   have H80 := Lib.hid (fun (W : World) => show Calls Tryz.prog 106 #[.string u, .int .u8 80] W (fun e w' => e = .returned (.bool (hasConfig kind)) ∧ W = w') by rw [← u80]; exact has_ref u 80 W hsm)
   have H85 := Lib.hid (fun (W : World) => show Calls Tryz.prog 106 #[.string u, .int .u8 85] W (fun e w' => e = .returned (.bool (hasConfig kind || mayUse kind)) ∧ W = w') by rw [← u85]; exact has_ref u 85 W hsm)
   clear u78 u76 u70 u84 u80 u85 hsm hparts hrange hu hkk
   go_wp2_with fail
   refine HU.out.mono ?_
   rintro e w1 ⟨rfl, hb1⟩
   have hbw1 : Below (w.heap.size + 1) w0 w1 := hb1.mono (by omega)
   clear c0
   go_wp2
   go_loopw [4] (fun x wr => ∃ k : Nat, k ≤ faults.length ∧ x = .int .i64 k ∧ Below (w.heap.size + 1) w0 wr ∧ Hid (faults.all okFt = (faults.drop k).all okFt)) (fun x _ => faults.length - (intOf x).toNat)
   case atStart => exact ⟨0, Nat.zero_le _, rfl, hbw1, rfl⟩
   case round =>
    obtain ⟨k, hk, rfl, hb, hd⟩ := hrel
    have hsr := hb.size
    have hbw : Below w.heap.size w wr := hb0.trans (hb.mono (by omega))
    have hbs := hbw.size
    have HRr := Lib.hid ((hb.block _ (by omega)).trans HR0.out)
    obtain ⟨-, -, -, -, c4, -, -, -, -, -, -, -, -, -, -, -, -, -, -, -, -, -, -⟩ := row22 HRr.out
    by_cases hlt : k < faults.length
    ·obtain ⟨g, o, op, nm, x, y, bA, bn, bc, cA, cn, cc, rfl, hSg, hft, k0, k1, k2, k3, k4, k5⟩ := fault_cells6 (HFL.out.keep (P' := FtAt wr S) (kept_of hbw hS) (fun _ _ h => h.keep (kept_of hbw hS))) hlt
     have hgs : g < wr.heap.size := World.block_lt_of_cell? wr _ k0
     have hkI : (k : Int) < (faults.length : Int) := by omega
     have hk0 : (0 : Int) ≤ (k : Int) := by omega
     have hmem : faults[k] ∈ faults := List.getElem_mem hlt
     have hC := isFault_ref _ _ wr S hft (hS2 wr hbw) (HL3.out _ hmem)
     have hdk : (faults.drop k).all okFt = (okFt faults[k] && (faults.drop (k + 1)).all okFt) := by rw [List.drop_eq_getElem_cons hlt, List.all_cons]
     cases hq : okFt faults[k]
     ·rw [hq] at hC hdk
      have HC := Lib.hid hC
      have E := Lib.hid (show okDc ⟨kind, line, name, names, faults, term, proto, read, write, use⟩ = false by rw [HOK.out, hd.out, hdk, Bool.false_and]; simp)
      clear hC hdk hq hft
      go_wp2_with fail
      refine HC.out.mono ?_
      rintro e W2 ⟨rfl, hb2⟩
      go_wp2
      go_ret
      exact ⟨by rw [E.out]; rfl, hbw.trans (hb2.mono hbs)⟩
     ·rw [hq] at hC hdk
      have HC := Lib.hid hC
      have E := Lib.hid (show faults.all okFt = (faults.drop (k + 1)).all okFt by rw [hd.out, hdk, Bool.true_and])
      clear hC hdk hq hft
      go_wp2_with fail
      refine HC.out.mono ?_
      rintro e W2 ⟨rfl, hb2⟩
      go_wp2
      go_roundw
      case rel => exact ⟨k + 1, by omega, by go_num, hb.trans (hb2.mono (by omega)), E.out⟩
      case measure => simp [intOf]; omega
    ·obtain rfl : k = faults.length := by omega
     have hkI : ¬ (faults.length : Int) < (faults.length : Int) := by omega
     have HOK2 := Lib.hid (show okDc ⟨kind, line, name, names, faults, term, proto, read, write, use⟩ = (A9 ⟨kind, line, name, names, faults, term, proto, read, write, use⟩ && A11 ⟨kind, line, name, names, faults, term, proto, read, write, use⟩ && A13 ⟨kind, line, name, names, faults, term, proto, read, write, use⟩ && A15 ⟨kind, line, name, names, faults, term, proto, read, write, use⟩) by rw [HOK.out, hd.out, List.drop_length, List.all_nil, Bool.and_true])
     clear hd HOK
     go_upto_region 9 with fail
     clear c4
     obtain ⟨-, -, c2, c3, c4, -, -, -, -, -, -, -, -, -, -, -, -, -, -, -, -, -, -⟩ := row22 HRr.out
     go_cut [70] (fun s70 wx => s70 = .bool false ∧ Below wr.heap.size wr wx)
     case first =>
      have hwlt : w.heap.size < wr.heap.size := by omega
      have hE := H9.out
      have h9 := cases9_good ⟨kind, line, name, names, faults, term, proto, read, write, use⟩ H9.out
      simp only at h9
      rcases h9 with h9 | h9
      case' inl =>
       have zUN := True.intro
       obtain ⟨hN, hnm, hL, hA, hF⟩ := h9
      case' inr =>
       obtain ⟨hN, hnm, hO, hL, hA, hF⟩ := h9
      all_goals
       (try rw [hN] at H78)
       (try rw [hL] at H76)
       (try rw [hF] at H70)
       have HN := Lib.hid (fun (W : World) => HNM.out name W)
       have HA := HALL
       (try rw [hO] at HN)
       (try rw [hA] at HA)
       have hx := (Below.refl wr.heap.size wr).drew
       have hemp : 0 < name.size → name.toList.isEmpty = false := toList_isEmpty
       have hemp0 : name.size = 0 → name.toList = [] := fun h => by rw [size_zero h]; simp
       first
        | (have hne := hemp hnm; have hne2 := toList_ne hnm)
        | (have hne := hemp0 hnm)
       have zl1 : (decide (0 < names.length) != decide (0 < names.length)) = false := bne_self_eq_false _
       have zl2 : ((!decide (0 < names.length)) != decide (0 < names.length)) = true := by cases decide (0 < names.length) <;> rfl
       have zf1 : (decide (0 < faults.length) != decide (0 < faults.length)) = false := bne_self_eq_false _
       have zf2 : ((!decide (0 < faults.length)) != decide (0 < faults.length)) = true := by cases decide (0 < faults.length) <;> rfl
       have HE := Lib.hid hE
       clear hE hemp hemp0
       (try clear hN)
       (try clear hnm)
       (try clear hO)
       (try clear hL)
       (try clear hA)
       (try clear hF)
       refine wp_region_held_drew (S := fun w' => w'.cell? ⟨w.heap.size, 2, none⟩ = wr.cell? ⟨w.heap.size, 2, none⟩ ∧ w'.cell? ⟨w.heap.size, 3, none⟩ = wr.cell? ⟨w.heap.size, 3, none⟩ ∧ w'.cell? ⟨w.heap.size, 4, none⟩ = wr.cell? ⟨w.heap.size, 4, none⟩) (by kernel_rfl) (by exact ⟨hx.cell (p := ⟨w.heap.size, 2, none⟩) hwlt, hx.cell (p := ⟨w.heap.size, 3, none⟩) hwlt, hx.cell (p := ⟨w.heap.size, 4, none⟩) hwlt⟩) (fun hHeld => ?_)
       (refine wpAnyH_take (i := 0) (oi := _) (v := ?_) rfl (by kernel_rfl) (by kernel_rfl) (by kernel_rfl) (fun _ _ _ h => h) (Or.inl ⟨by kernel_rfl, ?_⟩) hHeld ?_; rotate_left; focus (intro w9 hS9; (try dsimp only at hS9); go_simp; (try with_reducible rfl); done))
       (try simp only [Act.put, List.setIfInBounds_toArray])
       (refine wpAnyH_take (i := 2) (oi := _) (v := ?_) rfl (by kernel_rfl) (by kernel_rfl) (by kernel_rfl) (fun _ _ _ h => h) (Or.inl ⟨by kernel_rfl, ?_⟩) hHeld ?_; rotate_left; focus (intro w9 hS9; (try dsimp only at hS9); go_simp; (try with_reducible rfl); done))
       (try simp only [Act.put])
       (refine wpAnyH_take (i := 3) (oi := _) (v := ?_) rfl (by kernel_rfl) (by kernel_rfl) (by kernel_rfl) (fun _ _ _ h => h) (Or.inl ⟨by kernel_rfl, ?_⟩) hHeld ?_; rotate_left; focus (intro w9 hS9; (try dsimp only at hS9); go_simp; (try with_reducible rfl); done))
       (try simp only [Act.put])
       (refine wpAnyH_take (i := 4) (oi := _) (v := ?_) rfl (by kernel_rfl) (by kernel_rfl) (by kernel_rfl) (fun _ _ _ h => h) (Or.inl ⟨by kernel_rfl, ?_⟩) hHeld ?_; rotate_left; focus (intro w9 hS9; (try dsimp only at hS9); go_simp; (try with_reducible rfl); done))
       (try simp only [Act.put])
       (refine wpAnyH_ready (rs := [1]) (by kernel_rfl) (by simp) ?_; refine AllReadyH.cons (o := _) rfl (fun K hK => ?_) AllReadyH.nil; go_simp; (go_at_call 106; refine (H78.out _).mono ?_; rintro e w8 ⟨rfl, rfl⟩); (try go_simp); refine hK.out _ _ (by exact ⟨hx.cell (p := ⟨w.heap.size, 2, none⟩) hwlt, hx.cell (p := ⟨w.heap.size, 3, none⟩) hwlt, hx.cell (p := ⟨w.heap.size, 4, none⟩) hwlt⟩) (fun hHeld => ?_); clear hK K)
       (try simp only [Act.put, List.setIfInBounds_toArray, List.set_cons_zero, List.set_cons_succ])
       (refine wpAnyH_take (i := 5) (oi := _) (v := ?_) rfl (by kernel_rfl) (by kernel_rfl) (by kernel_rfl) (fun _ _ _ h => h) (Or.inl ⟨by kernel_rfl, ?_⟩) hHeld ?_; rotate_left; focus (intro w9 hS9; (try dsimp only at hS9); go_simp; (try with_reducible rfl); done))
       (try simp only [Act.put, List.setIfInBounds_toArray])
       (refine wpAnyH_take (i := 6) (oi := _) (v := ?_) rfl (by kernel_rfl) (by kernel_rfl) (by kernel_rfl) (fun _ _ _ h => h) (Or.inl ⟨by kernel_rfl, ?_⟩) hHeld ?_; rotate_left; focus (intro w9 hS9; (try dsimp only at hS9); go_simp; (try with_reducible rfl); done))
       (try simp only [Act.put])
       (refine wpAnyH_take (i := 7) (oi := _) (v := ?_) rfl (by kernel_rfl) (by kernel_rfl) (by kernel_rfl) (fun _ _ _ h => h) (Or.inl ⟨by kernel_rfl, ?_⟩) hHeld ?_; rotate_left; focus (intro w9 hS9; (try dsimp only at hS9); go_simp; (try with_reducible rfl); done))
       (try simp only [Act.put])
       (refine wpAnyH_take (i := 8) (oi := _) (v := ?_) rfl (by kernel_rfl) (by kernel_rfl) (by kernel_rfl) (fun _ _ _ h => h) (Or.inl ⟨by kernel_rfl, ?_⟩) hHeld ?_; rotate_left; focus (intro w9 hS9; (try dsimp only at hS9); go_simp; (try with_reducible rfl); done))
       (try simp only [Act.put])
       (refine wpAnyH_take (i := 9) (oi := _) (v := ?_) rfl (by kernel_rfl) (by kernel_rfl) (by kernel_rfl) (fun _ _ _ h => h) (Or.inl ⟨by kernel_rfl, ?_⟩) hHeld ?_; rotate_left; focus (intro w9 hS9; (try dsimp only at hS9); go_simp; (try with_reducible rfl); done))
       (try simp only [Act.put])
       (refine wpAnyH_take (i := 10) (oi := _) (v := ?_) rfl (by kernel_rfl) (by kernel_rfl) (by kernel_rfl) (fun _ _ _ h => h) (Or.inl ⟨by kernel_rfl, ?_⟩) hHeld ?_; rotate_left; focus (intro w9 hS9; (try dsimp only at hS9); go_simp; (try with_reducible rfl); done))
       (try simp only [Act.put])
       (first | (have := zUN; refine wpAnyH_take (i := 11) (oi := _) (v := undef) rfl (by kernel_rfl) (by kernel_rfl) (by kernel_rfl) (fun _ _ _ h => h) (Or.inr ⟨by kernel_rfl, rfl⟩) hHeld ?_) | (refine wpAnyH_take (i := 11) (oi := _) (v := ?_) rfl (by kernel_rfl) (by kernel_rfl) (by kernel_rfl) (fun _ _ _ h => h) (Or.inl ⟨by kernel_rfl, ?_⟩) hHeld ?_; rotate_left; focus (intro w9 hS9; (try dsimp only at hS9); go_simp; (try with_reducible rfl); done)))
       (try simp only [Act.put])
       (first | (have := zUN; refine wpAnyH_take (i := 12) (oi := _) (v := undef) rfl (by kernel_rfl) (by kernel_rfl) (by kernel_rfl) (fun _ _ _ h => h) (Or.inr ⟨by kernel_rfl, rfl⟩) hHeld ?_) | (refine wpAnyH_take (i := 12) (oi := _) (v := ?_) rfl (by kernel_rfl) (by kernel_rfl) (by kernel_rfl) (fun _ _ _ h => h) (Or.inl ⟨by kernel_rfl, ?_⟩) hHeld ?_; rotate_left; focus (intro w9 hS9; (try dsimp only at hS9); go_simp; (try with_reducible rfl); done)))
       (try simp only [Act.put])
       (first | (have := zUN; refine wpAnyH_take (i := 13) (oi := _) (v := undef) rfl (by kernel_rfl) (by kernel_rfl) (by kernel_rfl) (fun _ _ _ h => h) (Or.inr ⟨by kernel_rfl, rfl⟩) hHeld ?_) | (refine wpAnyH_ready (rs := [13]) (by kernel_rfl) (by simp) ?_; refine AllReadyH.cons (o := _) rfl (fun K hK => ?_) AllReadyH.nil; go_simp; (go_at_call 92; refine (HN.out _).mono ?_; rintro e w8 ⟨rfl, hv⟩; have hx := hx.trans (hv.mono hx.size)); (try go_simp); refine hK.out _ _ (by exact ⟨hx.cell (p := ⟨w.heap.size, 2, none⟩) hwlt, hx.cell (p := ⟨w.heap.size, 3, none⟩) hwlt, hx.cell (p := ⟨w.heap.size, 4, none⟩) hwlt⟩) (fun hHeld => ?_); clear hK K))
       (try simp only [Act.put])
       (first | (have := zUN; refine wpAnyH_take (i := 14) (oi := _) (v := undef) rfl (by kernel_rfl) (by kernel_rfl) (by kernel_rfl) (fun _ _ _ h => h) (Or.inr ⟨by kernel_rfl, rfl⟩) hHeld ?_) | (refine wpAnyH_take (i := 14) (oi := _) (v := ?_) rfl (by kernel_rfl) (by kernel_rfl) (by kernel_rfl) (fun _ _ _ h => h) (Or.inl ⟨by kernel_rfl, ?_⟩) hHeld ?_; rotate_left; focus (intro w9 hS9; (try dsimp only at hS9); go_simp; (try with_reducible rfl); done)))
       (try simp only [Act.put, List.setIfInBounds_toArray])
       (refine wpAnyH_take (i := 15) (oi := _) (v := ?_) rfl (by kernel_rfl) (by kernel_rfl) (by kernel_rfl) (fun _ _ _ h => h) (Or.inl ⟨by kernel_rfl, ?_⟩) hHeld ?_; rotate_left; focus (intro w9 hS9; (try dsimp only at hS9); go_simp; (try with_reducible rfl); done))
       (try simp only [Act.put])
       (refine wpAnyH_take (i := 16) (oi := _) (v := ?_) rfl (by kernel_rfl) (by kernel_rfl) (by kernel_rfl) (fun _ _ _ h => h) (Or.inl ⟨by kernel_rfl, ?_⟩) hHeld ?_; rotate_left; focus (intro w9 hS9; (try dsimp only at hS9); go_simp; (try with_reducible rfl); done))
       (try simp only [Act.put])
       (refine wpAnyH_take (i := 17) (oi := _) (v := ?_) rfl (by kernel_rfl) (by kernel_rfl) (by kernel_rfl) (fun _ _ _ h => h) (Or.inl ⟨by kernel_rfl, ?_⟩) hHeld ?_; rotate_left; focus (intro w9 hS9; (try dsimp only at hS9); go_simp; (try with_reducible rfl); done))
       (try simp only [Act.put])
       (refine wpAnyH_take (i := 18) (oi := _) (v := ?_) rfl (by kernel_rfl) (by kernel_rfl) (by kernel_rfl) (fun _ _ _ h => h) (Or.inl ⟨by kernel_rfl, ?_⟩) hHeld ?_; rotate_left; focus (intro w9 hS9; (try dsimp only at hS9); go_simp; (try with_reducible rfl); done))
       (try simp only [Act.put])
       (refine wpAnyH_take (i := 20) (oi := _) (v := ?_) rfl (by kernel_rfl) (by kernel_rfl) (by kernel_rfl) (fun _ _ _ h => h) (Or.inl ⟨by kernel_rfl, ?_⟩) hHeld ?_; rotate_left; focus (intro w9 hS9; (try dsimp only at hS9); go_simp; (try with_reducible rfl); done))
       (try simp only [Act.put])
       (refine wpAnyH_take (i := 21) (oi := _) (v := ?_) rfl (by kernel_rfl) (by kernel_rfl) (by kernel_rfl) (fun _ _ _ h => h) (Or.inl ⟨by kernel_rfl, ?_⟩) hHeld ?_; rotate_left; focus (intro w9 hS9; (try dsimp only at hS9); go_simp; (try with_reducible rfl); done))
       (try simp only [Act.put])
       (refine wpAnyH_take (i := 22) (oi := _) (v := ?_) rfl (by kernel_rfl) (by kernel_rfl) (by kernel_rfl) (fun _ _ _ h => h) (Or.inl ⟨by kernel_rfl, ?_⟩) hHeld ?_; rotate_left; focus (intro w9 hS9; (try dsimp only at hS9); go_simp; (try with_reducible rfl); done))
       (try simp only [Act.put])
       (refine wpAnyH_take (i := 23) (oi := _) (v := ?_) rfl (by kernel_rfl) (by kernel_rfl) (by kernel_rfl) (fun _ _ _ h => h) (Or.inl ⟨by kernel_rfl, ?_⟩) hHeld ?_; rotate_left; focus (intro w9 hS9; (try dsimp only at hS9); go_simp; (try with_reducible rfl); done))
       (try simp only [Act.put])
       (first | (refine wpAnyH_ready (rs := [19]) (by kernel_rfl) (by simp) ?_; refine AllReadyH.cons (o := _) rfl (fun K hK => ?_) AllReadyH.nil; go_simp; (go_at_call 106; refine (H76.out _).mono ?_; rintro e w8 ⟨rfl, rfl⟩); (try go_simp); refine hK.out _ _ (by exact ⟨hx.cell (p := ⟨w.heap.size, 2, none⟩) hwlt, hx.cell (p := ⟨w.heap.size, 3, none⟩) hwlt, hx.cell (p := ⟨w.heap.size, 4, none⟩) hwlt⟩) (fun hHeld => ?_); clear hK K))
       (try simp only [Act.put, List.setIfInBounds_toArray, List.set_cons_zero, List.set_cons_succ])
       (refine wpAnyH_take (i := 24) (oi := _) (v := ?_) rfl (by kernel_rfl) (by kernel_rfl) (by kernel_rfl) (fun _ _ _ h => h) (Or.inl ⟨by kernel_rfl, ?_⟩) hHeld ?_; rotate_left; focus (intro w9 hS9; (try dsimp only at hS9); go_simp; (try with_reducible rfl); done))
       (try simp only [Act.put, List.setIfInBounds_toArray])
       (refine wpAnyH_take (i := 25) (oi := _) (v := ?_) rfl (by kernel_rfl) (by kernel_rfl) (by kernel_rfl) (fun _ _ _ h => h) (Or.inl ⟨by kernel_rfl, ?_⟩) hHeld ?_; rotate_left; focus (intro w9 hS9; (try dsimp only at hS9); go_simp; (try with_reducible rfl); done))
       (try simp only [Act.put])
       (refine wpAnyH_take (i := 26) (oi := _) (v := ?_) rfl (by kernel_rfl) (by kernel_rfl) (by kernel_rfl) (fun _ _ _ h => h) (Or.inl ⟨by kernel_rfl, ?_⟩) hHeld ?_; rotate_left; focus (intro w9 hS9; (try dsimp only at hS9); go_simp; (try with_reducible rfl); done))
       (try simp only [Act.put])
       (refine wpAnyH_take (i := 27) (oi := _) (v := ?_) rfl (by kernel_rfl) (by kernel_rfl) (by kernel_rfl) (fun _ _ _ h => h) (Or.inl ⟨by kernel_rfl, ?_⟩) hHeld ?_; rotate_left; focus (intro w9 hS9; (try dsimp only at hS9); go_simp; (try with_reducible rfl); done))
       (try simp only [Act.put])
       (refine wpAnyH_take (i := 28) (oi := _) (v := ?_) rfl (by kernel_rfl) (by kernel_rfl) (by kernel_rfl) (fun _ _ _ h => h) (Or.inl ⟨by kernel_rfl, ?_⟩) hHeld ?_; rotate_left; focus (intro w9 hS9; (try dsimp only at hS9); go_simp; (try with_reducible rfl); done))
       (try simp only [Act.put])
       (first | (refine wpAnyH_ready (rs := [29]) (by kernel_rfl) (by simp) ?_; refine AllReadyH.cons (o := _) rfl (fun K hK => ?_) AllReadyH.nil; go_simp; (go_at_call 107; refine (HA.out _ (hbw.trans (hx.mono hbs))).mono ?_; rintro e w8 ⟨rfl, hv⟩; have hx := hx.trans (hv.mono hx.size)); (try go_simp); refine hK.out _ _ (by exact ⟨hx.cell (p := ⟨w.heap.size, 2, none⟩) hwlt, hx.cell (p := ⟨w.heap.size, 3, none⟩) hwlt, hx.cell (p := ⟨w.heap.size, 4, none⟩) hwlt⟩) (fun hHeld => ?_); clear hK K))
       (try simp only [Act.put, List.setIfInBounds_toArray, List.set_cons_zero, List.set_cons_succ])
       (refine wpAnyH_take (i := 30) (oi := _) (v := ?_) rfl (by kernel_rfl) (by kernel_rfl) (by kernel_rfl) (fun _ _ _ h => h) (Or.inl ⟨by kernel_rfl, ?_⟩) hHeld ?_; rotate_left; focus (intro w9 hS9; (try dsimp only at hS9); go_simp; (try with_reducible rfl); done))
       (try simp only [Act.put, List.setIfInBounds_toArray])
       (refine wpAnyH_take (i := 31) (oi := _) (v := ?_) rfl (by kernel_rfl) (by kernel_rfl) (by kernel_rfl) (fun _ _ _ h => h) (Or.inl ⟨by kernel_rfl, ?_⟩) hHeld ?_; rotate_left; focus (intro w9 hS9; (try dsimp only at hS9); go_simp; (try with_reducible rfl); done))
       (try simp only [Act.put])
       (refine wpAnyH_take (i := 32) (oi := _) (v := ?_) rfl (by kernel_rfl) (by kernel_rfl) (by kernel_rfl) (fun _ _ _ h => h) (Or.inl ⟨by kernel_rfl, ?_⟩) hHeld ?_; rotate_left; focus (intro w9 hS9; (try dsimp only at hS9); go_simp; (try with_reducible rfl); done))
       (try simp only [Act.put])
       (refine wpAnyH_take (i := 33) (oi := _) (v := ?_) rfl (by kernel_rfl) (by kernel_rfl) (by kernel_rfl) (fun _ _ _ h => h) (Or.inl ⟨by kernel_rfl, ?_⟩) hHeld ?_; rotate_left; focus (intro w9 hS9; (try dsimp only at hS9); go_simp; (try with_reducible rfl); done))
       (try simp only [Act.put])
       (refine wpAnyH_take (i := 35) (oi := _) (v := ?_) rfl (by kernel_rfl) (by kernel_rfl) (by kernel_rfl) (fun _ _ _ h => h) (Or.inl ⟨by kernel_rfl, ?_⟩) hHeld ?_; rotate_left; focus (intro w9 hS9; (try dsimp only at hS9); go_simp; (try with_reducible rfl); done))
       (try simp only [Act.put])
       (refine wpAnyH_take (i := 36) (oi := _) (v := ?_) rfl (by kernel_rfl) (by kernel_rfl) (by kernel_rfl) (fun _ _ _ h => h) (Or.inl ⟨by kernel_rfl, ?_⟩) hHeld ?_; rotate_left; focus (intro w9 hS9; (try dsimp only at hS9); go_simp; (try with_reducible rfl); done))
       (try simp only [Act.put])
       (refine wpAnyH_take (i := 37) (oi := _) (v := ?_) rfl (by kernel_rfl) (by kernel_rfl) (by kernel_rfl) (fun _ _ _ h => h) (Or.inl ⟨by kernel_rfl, ?_⟩) hHeld ?_; rotate_left; focus (intro w9 hS9; (try dsimp only at hS9); go_simp; (try with_reducible rfl); done))
       (try simp only [Act.put])
       (refine wpAnyH_take (i := 38) (oi := _) (v := ?_) rfl (by kernel_rfl) (by kernel_rfl) (by kernel_rfl) (fun _ _ _ h => h) (Or.inl ⟨by kernel_rfl, ?_⟩) hHeld ?_; rotate_left; focus (intro w9 hS9; (try dsimp only at hS9); go_simp; (try with_reducible rfl); done))
       (try simp only [Act.put])
       (first | (refine wpAnyH_ready (rs := [34]) (by kernel_rfl) (by simp) ?_; refine AllReadyH.cons (o := _) rfl (fun K hK => ?_) AllReadyH.nil; go_simp; (go_at_call 106; refine (H70.out _).mono ?_; rintro e w8 ⟨rfl, rfl⟩); (try go_simp); refine hK.out _ _ (by exact ⟨hx.cell (p := ⟨w.heap.size, 2, none⟩) hwlt, hx.cell (p := ⟨w.heap.size, 3, none⟩) hwlt, hx.cell (p := ⟨w.heap.size, 4, none⟩) hwlt⟩) (fun hHeld => ?_); clear hK K))
       (try simp only [Act.put, List.setIfInBounds_toArray, List.set_cons_zero, List.set_cons_succ])
       (refine wpAnyH_take (i := 39) (oi := _) (v := ?_) rfl (by kernel_rfl) (by kernel_rfl) (by kernel_rfl) (fun _ _ _ h => h) (Or.inl ⟨by kernel_rfl, ?_⟩) hHeld ?_; rotate_left; focus (intro w9 hS9; (try dsimp only at hS9); go_simp; (try with_reducible rfl); done))
       (try simp only [Act.put, List.setIfInBounds_toArray])
       (refine wpAnyH_take (i := 40) (oi := _) (v := ?_) rfl (by kernel_rfl) (by kernel_rfl) (by kernel_rfl) (fun _ _ _ h => h) (Or.inl ⟨by kernel_rfl, ?_⟩) hHeld ?_; rotate_left; focus (intro w9 hS9; (try dsimp only at hS9); go_simp; (try with_reducible rfl); done))
       (try simp only [Act.put])
       refine wpAnyH_done (by kernel_rfl) ?_ _
       go_wp2_with fail
       go_meet
       exact ⟨congrArg Value.bool (by first | rfl | (rw [HE.out]; rfl)), hx⟩
     case rest =>
      obtain ⟨rfl, hb9⟩ := hcut
      obtain ⟨W9, hW9⟩ : ∃ W9 : World, W9 = wc := ⟨_, rfl⟩
      rw [← hW9] at hb9
      rw [← hW9]
      clear hW9 c2 c3 c4
      have hbw9 : Below w.heap.size w W9 := hbw.trans (hb9.mono hbs)
      have hs9 := hb9.size
      have HR9 := Lib.hid ((hb9.block _ (by omega)).trans HRr.out)
      clear hb HRr
      rw [H9.out, Bool.true_and] at HOK2
      go_upto_region 11 with fail
      have hlt9 : w.heap.size < W9.heap.size := by omega
      go_cut [89] (fun s89 wx => s89 = .bool (!A11 ⟨kind, line, name, names, faults, term, proto, read, write, use⟩) ∧ Below W9.heap.size W9 wx)
      case first =>
       cases hT : hasTerm kind
       ·rw [hT] at H84
        cases hbk : blank term
        ·have HBt := HB1
         rw [hbk] at HBt
         have EA := Lib.hid (show A11 ⟨kind, line, name, names, faults, term, proto, read, write, use⟩ = false by unfold A11; simp only [hT]; exact hbk)
         clear hT hbk
         obtain ⟨-, -, -, -, -, q1_5, q1_6, q1_7, q1_8, q1_9, -, -, -, -, -, -, -, -, -, -, -, -, -⟩ := row22 HR9.out
         go_wp2_with fail
         refine (H84.out _).mono ?_
         rintro e w' ⟨rfl, rfl⟩
         go_wp2_with fail
         refine (H84.out _).mono ?_
         rintro e w' ⟨rfl, rfl⟩
         go_wp2_with fail
         refine (HBt.out W9).mono ?_
         rintro e y2 ⟨rfl, hz2⟩
         clear q1_5 q1_6 q1_7 q1_8 q1_9
         go_wp2_with fail
         go_meet
         exact ⟨congrArg Value.bool (by rw [EA.out]; rfl), hz2⟩
        ·have HBt := HB1
         rw [hbk] at HBt
         have EA := Lib.hid (show A11 ⟨kind, line, name, names, faults, term, proto, read, write, use⟩ = true by unfold A11; simp only [hT]; exact hbk)
         clear hT hbk
         obtain ⟨-, -, -, -, -, q3_5, q3_6, q3_7, q3_8, q3_9, -, -, -, -, -, -, -, -, -, -, -, -, -⟩ := row22 HR9.out
         go_wp2_with fail
         refine (H84.out _).mono ?_
         rintro e w' ⟨rfl, rfl⟩
         go_wp2_with fail
         refine (H84.out _).mono ?_
         rintro e w' ⟨rfl, rfl⟩
         go_wp2_with fail
         refine (HBt.out W9).mono ?_
         rintro e y4 ⟨rfl, hz4⟩
         clear q3_5 q3_6 q3_7 q3_8 q3_9
         go_wp2_with fail
         go_meet
         exact ⟨congrArg Value.bool (by rw [EA.out]; rfl), hz4⟩
       ·rw [hT] at H84
        cases hbk : okTm term
        ·have HTt := HT1
         rw [hbk] at HTt
         have EA := Lib.hid (show A11 ⟨kind, line, name, names, faults, term, proto, read, write, use⟩ = false by unfold A11; simp only [hT]; exact hbk)
         clear hT hbk
         obtain ⟨-, -, -, -, -, q5_5, q5_6, q5_7, q5_8, q5_9, -, -, -, -, -, -, -, -, -, -, -, -, -⟩ := row22 HR9.out
         go_wp2_with fail
         refine (H84.out _).mono ?_
         rintro e w' ⟨rfl, rfl⟩
         go_wp2_with fail
         refine (HTt.out W9 hbw9).mono ?_
         rintro e y6 ⟨rfl, hz6⟩
         clear q5_5 q5_6 q5_7 q5_8 q5_9
         go_wp2_with fail
         go_meet
         exact ⟨congrArg Value.bool (by rw [EA.out]; rfl), hz6⟩
        ·have HTt := HT1
         rw [hbk] at HTt
         have EA := Lib.hid (show A11 ⟨kind, line, name, names, faults, term, proto, read, write, use⟩ = true by unfold A11; simp only [hT]; exact hbk)
         clear hT hbk
         obtain ⟨-, -, -, -, -, q7_5, q7_6, q7_7, q7_8, q7_9, -, -, -, -, -, -, -, -, -, -, -, -, -⟩ := row22 HR9.out
         go_wp2_with fail
         refine (H84.out _).mono ?_
         rintro e w' ⟨rfl, rfl⟩
         go_wp2_with fail
         refine (HTt.out W9 hbw9).mono ?_
         rintro e y8 ⟨rfl, hz8⟩
         clear q7_5 q7_6 q7_7 q7_8 q7_9
         go_wp2_with fail
         refine (H84.out _).mono ?_
         rintro e w' ⟨rfl, rfl⟩
         go_wp2_with fail
         go_meet
         exact ⟨congrArg Value.bool (by rw [EA.out]; rfl), hz8⟩
      case rest =>
       obtain ⟨rfl, hb11⟩ := hcut
       obtain ⟨W11, hW11⟩ : ∃ W11 : World, W11 = wc := ⟨_, rfl⟩
       rw [← hW11] at hb11
       rw [← hW11]
       clear hW11
       have hbw11 : Below w.heap.size w W11 := hbw9.trans (hb11.mono hbw9.size)
       have HR11 := Lib.hid ((hb11.block _ hlt9).trans HR9.out)
       have hlt11 : w.heap.size < W11.heap.size := Nat.lt_of_lt_of_le hlt9 hb11.size
       cases h11 : A11 ⟨kind, line, name, names, faults, term, proto, read, write, use⟩
       ·have E := Lib.hid (show okDc ⟨kind, line, name, names, faults, term, proto, read, write, use⟩ = false by rw [HOK2.out, h11, Bool.false_and, Bool.false_and])
        clear h11
        go_wp2
        go_ret
        exact ⟨by rw [E.out]; rfl, hbw11⟩
       ·rw [h11, Bool.true_and] at HOK2
        clear h11
        go_upto_region 13 with fail
        go_cut [112] (fun s112 wx => s112 = .bool (!A13 ⟨kind, line, name, names, faults, term, proto, read, write, use⟩) ∧ Below W11.heap.size W11 wx)
        case first =>
         by_cases hu : use.size = 0
         ·obtain rfl := size_zero hu
          cases hC : hasConfig kind
          ·rw [hC] at H80
           have EA := Lib.hid (show A13 ⟨kind, line, name, names, faults, term, proto, read, write, ⟨#[]⟩⟩ = true by unfold A13; simp only [hC]; rfl)
           clear hC hu
           obtain ⟨-, -, -, -, -, -, -, -, -, -, -, -, -, -, -, -, -, -, -, -, -, q9_21, -⟩ := row22 HR11.out
           go_wp2_with fail
           refine (H80.out _).mono ?_
           rintro e w' ⟨rfl, rfl⟩
           go_wp2_with fail
           go_meet
           exact ⟨congrArg Value.bool (by rw [EA.out]; rfl), (Below.refl W11.heap.size W11)⟩
          ·rw [hC] at H80
           have EA := Lib.hid (show A13 ⟨kind, line, name, names, faults, term, proto, read, write, ⟨#[]⟩⟩ = false by unfold A13; simp only [hC]; rfl)
           clear hC hu
           obtain ⟨-, -, -, -, -, -, -, -, -, -, -, -, -, -, -, -, -, -, -, -, -, q10_21, -⟩ := row22 HR11.out
           go_wp2_with fail
           refine (H80.out _).mono ?_
           rintro e w' ⟨rfl, rfl⟩
           go_wp2_with fail
           go_meet
           exact ⟨congrArg Value.bool (by rw [EA.out]; rfl), (Below.refl W11.heap.size W11)⟩
         ·have hne := toList_isEmpty (show 0 < use.size by omega)
          have hne2 := toList_ne (show 0 < use.size by omega)
          cases hM : (hasConfig kind || mayUse kind)
          ·rw [hM] at H85
           have EA := Lib.hid (show A13 ⟨kind, line, name, names, faults, term, proto, read, write, use⟩ = false by unfold A13; rw [if_neg hu]; simp only; rw [hM]; rfl)
           clear hM hu
           obtain ⟨-, -, -, -, -, -, -, -, -, -, -, -, -, -, -, -, -, -, -, -, -, q11_21, -⟩ := row22 HR11.out
           go_wp2_with fail
           refine (H85.out _).mono ?_
           rintro e w' ⟨rfl, rfl⟩
           go_wp2_with fail
           go_meet
           exact ⟨congrArg Value.bool (by rw [EA.out]; rfl), (Below.refl W11.heap.size W11)⟩
          ·rw [hM] at H85
           have HNu := Lib.hid (fun (W : World) => HNM.out use W)
           cases hO : okName use
           ·rw [hO] at HNu
            have EA := Lib.hid (show A13 ⟨kind, line, name, names, faults, term, proto, read, write, use⟩ = false by unfold A13; rw [if_neg hu]; simp only; rw [hM, hO]; rfl)
            clear hM hu hO
            obtain ⟨-, -, -, -, -, -, -, -, -, -, -, -, -, -, -, -, -, -, -, -, -, q12_21, -⟩ := row22 HR11.out
            go_wp2_with fail
            refine (H85.out _).mono ?_
            rintro e w' ⟨rfl, rfl⟩
            go_wp2_with fail
            refine (HNu.out W11).mono ?_
            rintro e y13 ⟨rfl, hz13⟩
            clear q12_21
            obtain ⟨-, -, -, -, -, -, -, -, -, -, -, -, -, -, -, -, -, -, -, -, -, q14_21, -⟩ := row22 ((hz13.block _ hlt11).trans HR11.out)
            go_wp2_with fail
            go_meet
            exact ⟨congrArg Value.bool (by rw [EA.out]; rfl), hz13⟩
           ·rw [hO] at HNu
            have EA := Lib.hid (show A13 ⟨kind, line, name, names, faults, term, proto, read, write, use⟩ = true by unfold A13; rw [if_neg hu]; simp only; rw [hM, hO]; rfl)
            clear hM hu hO
            obtain ⟨-, -, -, -, -, -, -, -, -, -, -, -, -, -, -, -, -, -, -, -, -, q15_21, -⟩ := row22 HR11.out
            go_wp2_with fail
            refine (H85.out _).mono ?_
            rintro e w' ⟨rfl, rfl⟩
            go_wp2_with fail
            refine (HNu.out W11).mono ?_
            rintro e y16 ⟨rfl, hz16⟩
            clear q15_21
            obtain ⟨-, -, -, -, -, -, -, -, -, -, -, -, -, -, -, -, -, -, -, -, -, q17_21, -⟩ := row22 ((hz16.block _ hlt11).trans HR11.out)
            go_wp2_with fail
            go_meet
            exact ⟨congrArg Value.bool (by rw [EA.out]; rfl), hz16⟩
        case rest =>
         obtain ⟨rfl, hb13⟩ := hcut
         obtain ⟨W13, hW13⟩ : ∃ W13 : World, W13 = wc := ⟨_, rfl⟩
         rw [← hW13] at hb13
         rw [← hW13]
         clear hW13
         have hbw13 : Below w.heap.size w W13 := hbw11.trans (hb13.mono hbw11.size)
         have HR13 := Lib.hid ((hb13.block _ hlt11).trans HR11.out)
         have hlt13 : w.heap.size < W13.heap.size := Nat.lt_of_lt_of_le hlt11 hb13.size
         cases h13 : A13 ⟨kind, line, name, names, faults, term, proto, read, write, use⟩
         ·have E := Lib.hid (show okDc ⟨kind, line, name, names, faults, term, proto, read, write, use⟩ = false by rw [HOK2.out, h13, Bool.false_and])
          clear h13
          go_wp2
          go_ret
          exact ⟨by rw [E.out]; rfl, hbw13⟩
         ·rw [h13, Bool.true_and] at HOK2
          clear h13
          cases hC : hasConfig kind
          ·rw [hC] at H80
           have EC := Lib.hid (show okDc ⟨kind, line, name, names, faults, term, proto, read, write, use⟩ = (decide (proto.size = 0) && blank read && blank write) by rw [HOK2.out]; unfold A15; simp only [hC]; rfl)
           clear hC
           by_cases hp : proto.size = 0
           ·obtain rfl := size_zero hp
            cases hr : blank read
            ·have HBr := HB2
             rw [hr] at HBr
             have E := Lib.hid (show okDc ⟨kind, line, name, names, faults, term, ⟨#[]⟩, read, write, use⟩ = false by rw [EC.out, hr]; simp)
             clear hr hp
             obtain ⟨-, -, -, -, -, -, -, -, -, -, q18_10, q18_11, q18_12, q18_13, q18_14, q18_15, -, -, -, -, -, -, -⟩ := row22 HR13.out
             go_wp2_with fail
             refine (H80.out _).mono ?_
             rintro e w' ⟨rfl, rfl⟩
             go_wp2_with fail
             refine (HBr.out W13).mono ?_
             rintro e y19 ⟨rfl, hz19⟩
             clear q18_10 q18_11 q18_12 q18_13 q18_14 q18_15
             go_wp2
             go_ret
             exact ⟨by rw [E.out]; rfl, hbw13.trans (hz19.mono hbw13.size)⟩
            ·have HBr := HB2
             rw [hr] at HBr
             cases hw : blank write
             ·have HBw := HB3
              rw [hw] at HBw
              have E := Lib.hid (show okDc ⟨kind, line, name, names, faults, term, ⟨#[]⟩, read, write, use⟩ = false by rw [EC.out, hr, hw]; rfl)
              clear hr hp hw
              obtain ⟨-, -, -, -, -, -, -, -, -, -, q20_10, q20_11, q20_12, q20_13, q20_14, q20_15, -, -, -, -, -, -, -⟩ := row22 HR13.out
              go_wp2_with fail
              refine (H80.out _).mono ?_
              rintro e w' ⟨rfl, rfl⟩
              go_wp2_with fail
              refine (HBr.out W13).mono ?_
              rintro e y21 ⟨rfl, hz21⟩
              clear q20_10 q20_11 q20_12 q20_13 q20_14 q20_15
              obtain ⟨-, -, -, -, -, -, -, -, -, -, -, -, -, -, -, -, q22_16, q22_17, q22_18, q22_19, q22_20, -, -⟩ := row22 ((hz21.block _ hlt13).trans HR13.out)
              go_wp2_with fail
              refine (HBw.out y21).mono ?_
              rintro e y23 ⟨rfl, hy23⟩
              have hz23 : Below W13.heap.size W13 y23 := hz21.trans (hy23.mono hz21.size)
              clear q22_16 q22_17 q22_18 q22_19 q22_20
              go_wp2
              go_ret
              exact ⟨by rw [E.out]; rfl, hbw13.trans (hz23.mono hbw13.size)⟩
             ·have HBw := HB3
              rw [hw] at HBw
              have E := Lib.hid (show okDc ⟨kind, line, name, names, faults, term, ⟨#[]⟩, read, write, use⟩ = true by rw [EC.out, hr, hw]; rfl)
              clear hr hp hw
              obtain ⟨-, -, -, -, -, -, -, -, -, -, q24_10, q24_11, q24_12, q24_13, q24_14, q24_15, -, -, -, -, -, -, -⟩ := row22 HR13.out
              go_wp2_with fail
              refine (H80.out _).mono ?_
              rintro e w' ⟨rfl, rfl⟩
              go_wp2_with fail
              refine (HBr.out W13).mono ?_
              rintro e y25 ⟨rfl, hz25⟩
              clear q24_10 q24_11 q24_12 q24_13 q24_14 q24_15
              obtain ⟨-, -, -, -, -, -, -, -, -, -, -, -, -, -, -, -, q26_16, q26_17, q26_18, q26_19, q26_20, -, -⟩ := row22 ((hz25.block _ hlt13).trans HR13.out)
              go_wp2_with fail
              refine (HBw.out y25).mono ?_
              rintro e y27 ⟨rfl, hy27⟩
              have hz27 : Below W13.heap.size W13 y27 := hz25.trans (hy27.mono hz25.size)
              clear q26_16 q26_17 q26_18 q26_19 q26_20
              go_wp2
              go_ret
              exact ⟨by rw [E.out]; rfl, hbw13.trans (hz27.mono hbw13.size)⟩
           ·have hne := toList_isEmpty (show 0 < proto.size by omega)
            have hne2 := toList_ne (show 0 < proto.size by omega)
            have E := Lib.hid (show okDc ⟨kind, line, name, names, faults, term, proto, read, write, use⟩ = false by rw [EC.out, decide_eq_false hp]; simp)
            clear hp
            obtain ⟨-, -, -, -, -, -, -, -, -, -, q28_10, -, -, -, -, -, -, -, -, -, -, -, -⟩ := row22 HR13.out
            go_wp2_with fail
            refine (H80.out _).mono ?_
            rintro e w' ⟨rfl, rfl⟩
            go_wp2
            go_ret
            exact ⟨by rw [E.out]; rfl, hbw13⟩
          ·rw [hC] at H80
           have EC := Lib.hid (show okDc ⟨kind, line, name, names, faults, term, proto, read, write, use⟩ = ((proto == (⟨#[99, 114, 97, 115, 104]⟩ : ByteArray) || proto == (⟨#[98, 121, 122, 97, 110, 116, 105, 110, 101]⟩ : ByteArray)) && okTm read && okTm write) by rw [HOK2.out]; unfold A15; simp only [hC]; rfl)
           clear hC
           by_cases hc : proto = (⟨#[99, 114, 97, 115, 104]⟩ : ByteArray)
           ·subst hc
            cases hr : okTm read
            ·have HTr := HT2
             rw [hr] at HTr
             have E := Lib.hid (show okDc ⟨kind, line, name, names, faults, term, (⟨#[99, 114, 97, 115, 104]⟩ : ByteArray), read, write, use⟩ = false by rw [EC.out, hr]; simp)
             clear hr
             obtain ⟨-, -, -, -, -, -, -, -, -, -, q29_10, q29_11, q29_12, q29_13, q29_14, q29_15, -, -, -, -, -, -, -⟩ := row22 HR13.out
             go_wp2_with fail
             refine (H80.out _).mono ?_
             rintro e w' ⟨rfl, rfl⟩
             go_wp2_with fail
             refine (HTr.out W13 hbw13).mono ?_
             rintro e y30 ⟨rfl, hz30⟩
             clear q29_10 q29_11 q29_12 q29_13 q29_14 q29_15
             go_wp2
             go_ret
             exact ⟨by rw [E.out]; rfl, hbw13.trans (hz30.mono hbw13.size)⟩
            ·have HTr := HT2
             rw [hr] at HTr
             cases hw : okTm write
             ·have HTw := HT3
              rw [hw] at HTw
              have E := Lib.hid (show okDc ⟨kind, line, name, names, faults, term, (⟨#[99, 114, 97, 115, 104]⟩ : ByteArray), read, write, use⟩ = false by rw [EC.out, hr, hw]; rfl)
              clear hr hw
              obtain ⟨-, -, -, -, -, -, -, -, -, -, q31_10, q31_11, q31_12, q31_13, q31_14, q31_15, -, -, -, -, -, -, -⟩ := row22 HR13.out
              go_wp2_with fail
              refine (H80.out _).mono ?_
              rintro e w' ⟨rfl, rfl⟩
              go_wp2_with fail
              refine (HTr.out W13 hbw13).mono ?_
              rintro e y32 ⟨rfl, hz32⟩
              clear q31_10 q31_11 q31_12 q31_13 q31_14 q31_15
              obtain ⟨-, -, -, -, -, -, -, -, -, -, -, -, -, -, -, -, q33_16, q33_17, q33_18, q33_19, q33_20, -, -⟩ := row22 ((hz32.block _ hlt13).trans HR13.out)
              go_wp2_with fail
              refine (HTw.out y32 (hbw13.trans (hz32.mono hbw13.size))).mono ?_
              rintro e y34 ⟨rfl, hy34⟩
              have hz34 : Below W13.heap.size W13 y34 := hz32.trans (hy34.mono hz32.size)
              clear q33_16 q33_17 q33_18 q33_19 q33_20
              go_wp2
              go_ret
              exact ⟨by rw [E.out]; rfl, hbw13.trans (hz34.mono hbw13.size)⟩
             ·have HTw := HT3
              rw [hw] at HTw
              have E := Lib.hid (show okDc ⟨kind, line, name, names, faults, term, (⟨#[99, 114, 97, 115, 104]⟩ : ByteArray), read, write, use⟩ = true by rw [EC.out, hr, hw]; rfl)
              clear hr hw
              obtain ⟨-, -, -, -, -, -, -, -, -, -, q35_10, q35_11, q35_12, q35_13, q35_14, q35_15, -, -, -, -, -, -, -⟩ := row22 HR13.out
              go_wp2_with fail
              refine (H80.out _).mono ?_
              rintro e w' ⟨rfl, rfl⟩
              go_wp2_with fail
              refine (HTr.out W13 hbw13).mono ?_
              rintro e y36 ⟨rfl, hz36⟩
              clear q35_10 q35_11 q35_12 q35_13 q35_14 q35_15
              obtain ⟨-, -, -, -, -, -, -, -, -, -, -, -, -, -, -, -, q37_16, q37_17, q37_18, q37_19, q37_20, -, -⟩ := row22 ((hz36.block _ hlt13).trans HR13.out)
              go_wp2_with fail
              refine (HTw.out y36 (hbw13.trans (hz36.mono hbw13.size))).mono ?_
              rintro e y38 ⟨rfl, hy38⟩
              have hz38 : Below W13.heap.size W13 y38 := hz36.trans (hy38.mono hz36.size)
              clear q37_16 q37_17 q37_18 q37_19 q37_20
              go_wp2
              go_ret
              exact ⟨by rw [E.out]; rfl, hbw13.trans (hz38.mono hbw13.size)⟩
           ·by_cases hz : proto = (⟨#[98, 121, 122, 97, 110, 116, 105, 110, 101]⟩ : ByteArray)
            ·subst hz
             clear hc
             cases hr : okTm read
             ·have HTr := HT2
              rw [hr] at HTr
              have E := Lib.hid (show okDc ⟨kind, line, name, names, faults, term, (⟨#[98, 121, 122, 97, 110, 116, 105, 110, 101]⟩ : ByteArray), read, write, use⟩ = false by rw [EC.out, hr]; simp)
              clear hr
              obtain ⟨-, -, -, -, -, -, -, -, -, -, q39_10, q39_11, q39_12, q39_13, q39_14, q39_15, -, -, -, -, -, -, -⟩ := row22 HR13.out
              go_wp2_with fail
              refine (H80.out _).mono ?_
              rintro e w' ⟨rfl, rfl⟩
              go_wp2_with fail
              refine (HTr.out W13 hbw13).mono ?_
              rintro e y40 ⟨rfl, hz40⟩
              clear q39_10 q39_11 q39_12 q39_13 q39_14 q39_15
              go_wp2
              go_ret
              exact ⟨by rw [E.out]; rfl, hbw13.trans (hz40.mono hbw13.size)⟩
             ·have HTr := HT2
              rw [hr] at HTr
              cases hw : okTm write
              ·have HTw := HT3
               rw [hw] at HTw
               have E := Lib.hid (show okDc ⟨kind, line, name, names, faults, term, (⟨#[98, 121, 122, 97, 110, 116, 105, 110, 101]⟩ : ByteArray), read, write, use⟩ = false by rw [EC.out, hr, hw]; rfl)
               clear hr hw
               obtain ⟨-, -, -, -, -, -, -, -, -, -, q41_10, q41_11, q41_12, q41_13, q41_14, q41_15, -, -, -, -, -, -, -⟩ := row22 HR13.out
               go_wp2_with fail
               refine (H80.out _).mono ?_
               rintro e w' ⟨rfl, rfl⟩
               go_wp2_with fail
               refine (HTr.out W13 hbw13).mono ?_
               rintro e y42 ⟨rfl, hz42⟩
               clear q41_10 q41_11 q41_12 q41_13 q41_14 q41_15
               obtain ⟨-, -, -, -, -, -, -, -, -, -, -, -, -, -, -, -, q43_16, q43_17, q43_18, q43_19, q43_20, -, -⟩ := row22 ((hz42.block _ hlt13).trans HR13.out)
               go_wp2_with fail
               refine (HTw.out y42 (hbw13.trans (hz42.mono hbw13.size))).mono ?_
               rintro e y44 ⟨rfl, hy44⟩
               have hz44 : Below W13.heap.size W13 y44 := hz42.trans (hy44.mono hz42.size)
               clear q43_16 q43_17 q43_18 q43_19 q43_20
               go_wp2
               go_ret
               exact ⟨by rw [E.out]; rfl, hbw13.trans (hz44.mono hbw13.size)⟩
              ·have HTw := HT3
               rw [hw] at HTw
               have E := Lib.hid (show okDc ⟨kind, line, name, names, faults, term, (⟨#[98, 121, 122, 97, 110, 116, 105, 110, 101]⟩ : ByteArray), read, write, use⟩ = true by rw [EC.out, hr, hw]; rfl)
               clear hr hw
               obtain ⟨-, -, -, -, -, -, -, -, -, -, q45_10, q45_11, q45_12, q45_13, q45_14, q45_15, -, -, -, -, -, -, -⟩ := row22 HR13.out
               go_wp2_with fail
               refine (H80.out _).mono ?_
               rintro e w' ⟨rfl, rfl⟩
               go_wp2_with fail
               refine (HTr.out W13 hbw13).mono ?_
               rintro e y46 ⟨rfl, hz46⟩
               clear q45_10 q45_11 q45_12 q45_13 q45_14 q45_15
               obtain ⟨-, -, -, -, -, -, -, -, -, -, -, -, -, -, -, -, q47_16, q47_17, q47_18, q47_19, q47_20, -, -⟩ := row22 ((hz46.block _ hlt13).trans HR13.out)
               go_wp2_with fail
               refine (HTw.out y46 (hbw13.trans (hz46.mono hbw13.size))).mono ?_
               rintro e y48 ⟨rfl, hy48⟩
               have hz48 : Below W13.heap.size W13 y48 := hz46.trans (hy48.mono hz46.size)
               clear q47_16 q47_17 q47_18 q47_19 q47_20
               go_wp2
               go_ret
               exact ⟨by rw [E.out]; rfl, hbw13.trans (hz48.mono hbw13.size)⟩
            ·have pa1 : (proto == (⟨#[99, 114, 97, 115, 104]⟩ : ByteArray)) = false := by cases hh : (proto == (⟨#[99, 114, 97, 115, 104]⟩ : ByteArray)); rfl; exact absurd ((str_iff _ _).1 hh) hc
             have pa2 : (proto.toList == ((⟨#[99, 114, 97, 115, 104]⟩ : ByteArray)).toList) = false := by rw [str_beq]; exact pa1
             have pa3 : ¬ proto.toList = [99, 114, 97, 115, 104] := fun e9 => hc (by rw [ByteArray.toList_eq] at e9; rw [← bs_of proto, e9]; rfl)
             have pa4 : (proto.toList == [99, 114, 97, 115, 104]) = false := by rw [beq_eq_false_iff_ne]; exact pa3
             have pb1 : (proto == (⟨#[98, 121, 122, 97, 110, 116, 105, 110, 101]⟩ : ByteArray)) = false := by cases hh : (proto == (⟨#[98, 121, 122, 97, 110, 116, 105, 110, 101]⟩ : ByteArray)); rfl; exact absurd ((str_iff _ _).1 hh) hz
             have pb2 : (proto.toList == ((⟨#[98, 121, 122, 97, 110, 116, 105, 110, 101]⟩ : ByteArray)).toList) = false := by rw [str_beq]; exact pb1
             have pb3 : ¬ proto.toList = [98, 121, 122, 97, 110, 116, 105, 110, 101] := fun e9 => hz (by rw [ByteArray.toList_eq] at e9; rw [← bs_of proto, e9]; rfl)
             have pb4 : (proto.toList == [98, 121, 122, 97, 110, 116, 105, 110, 101]) = false := by rw [beq_eq_false_iff_ne]; exact pb3
             have E := Lib.hid (show okDc ⟨kind, line, name, names, faults, term, proto, read, write, use⟩ = false by rw [EC.out, pa1, pb1]; simp)
             clear hc hz pa1 pb1
             obtain ⟨-, -, -, -, -, -, -, -, -, -, q49_10, -, -, -, -, -, -, -, -, -, -, -, -⟩ := row22 HR13.out
             go_wp2_with fail
             refine (H80.out _).mono ?_
             rintro e w' ⟨rfl, rfl⟩
             go_wp2
             go_ret
             exact ⟨by rw [E.out]; rfl, hbw13⟩
  ·have q7 : (7 : Int) < kind := by omega
   have E := Lib.hid (hrange (by omega))
   clear hparts hrange
   go_wp2
   go_ret
   exact ⟨by rw [E.out]; rfl, hb0⟩
 ·have q1 : kind < (1 : Int) := by omega
  have E := Lib.hid (hrange (by omega))
  clear hparts hrange
  go_wp2
  go_ret
  exact ⟨by rw [E.out]; rfl, hb0⟩
theorem isDecl_ref (d : Dc) (v : Value) (w : World) (S : Nat → Prop) (hd : DcAt w S d v) (hS : ∀ g, S g → g < w.heap.size) (hlim : ILim d) :
  Calls Tryz.prog 56 #[v] w fun e w' => e = .returned (.bool (okDc d)) ∧ Below w.heap.size w w' := by
 cases h : A9 d
 ·exact isDecl_bad d v w S hd hS hlim h
 ·exact isDecl_good d v w S hd hS hlim h
end Go.Proofs.YtipicaoinnblpaaGreatDoor
