/- What this closing text needs beyond the base: parts of the texts on typing and on the syntax; the conditions stand at each theorem. -/
import Derived.Deep.DeepCutAuto
import Derived.Test.YtbmglebipepdmaaGreatDoorPkPlain
import Derived.Test.YtbmglebipepdmaaGreatDoorPkRound
import Derived.Test.YtbmglebipepdmaaGreatDoorPkTyp
import Derived.Test.YtbmglebipepdmaaGreatDoorPkMem
import Derived.Test.YtbmglebipepdmaaGreatDoorPkPara
import Derived.Test.YtbmglebipepdmaaGreatDoorPkParb
import Derived.Test.YtbmglebipepdmaaGreatDoorPkLex
import Derived.Test.YtbmglebipepdmaaGreatDoorPkPare
import Derived.Test.YtbmglebipepdmaaGreatDoorPkVala
import Derived.Test.YtbmglebipepdmaaGreatDoorPkValb
import Derived.Test.YtbmglebipepdmaaGreatDoorPkValc
import Derived.Test.YtbmglebipepdmaaGreatDoorPkFmta
import Derived.Test.YtbmglebipepdmaaGreatDoorPkFmtb
import Derived.Test.YtbmglebipepdmaaGreatDoorPkNms
import Derived.Test.YtbmglebipepdmaaGreatDoorPkTya
import Derived.Test.YtbmglebipepdmaaGreatDoorPkTyb
import Derived.Test.YtbmglebipepdmaaGreatDoorPkOpen
import Derived.Test.YtbmglebipepdmaaGreatDoorPkCheck
import Derived.Test.YtbmglebipepdmaaGreatDoorPkRefl
import Derived.Test.YtbmglebipepdmaaGreatDoorPkRefa
import Derived.Test.YtbmglebipepdmaaGreatDoorPkRefb
import Derived.Test.YtbmglebipepdmaaGreatDoorPkRefc
import Derived.Test.YtbmglebipepdmaaGreatDoorPkRefd
import Derived.Test.YtbmglebipepdmaaGreatDoorPkEq
import Derived.Test.YtbmglebipepdmaaGreatDoorPkHead
import Derived.Test.YtbmglebipepdmaaGreatDoorPkUses
import Derived.Test.YtbmglebipepdmaaGreatDoorPkAwt
import Derived.Test.YtbmglebipepdmaaGreatDoorRemTyR1
namespace Go.Proofs.YtbmglebipepdmaaGreatDoor
open Go.RowKit
def hasB (s : ByteArray) (c : Nat) : Bool := s.data.toList.any fun x => x.toNat == c

set_option maxRecDepth 100000 in
set_option maxHeartbeats 1000000 in
theorem has_ref (s : ByteArray) (c : Nat) (w : World) (hs : s.size ≤ 1000000000) : Calls Tryz.prog 70 #[.string s, .int .u8 c] w fun e w' => e = .returned (.bool (hasB s c)) ∧ w = w' := by
 go_enter Tryz.func70, Tryz.ntmps70
 go_wp2
 go_loop [5] (fun x => ∃ k : Nat, k ≤ s.size ∧ x = .int .i64 k ∧ Hid (hasB s c = (s.data.toList.drop k).any fun x => x.toNat == c)) (fun x => s.size - (intOf x).toNat)
 case atStart => exact ⟨0, Nat.zero_le _, rfl, rfl⟩
 case round =>
  obtain ⟨k, hk, rfl, hd⟩ := hrel
  by_cases hlt : k < s.size
  ·have hkI : (k : Int) < (s.size : Int) := by omega
   have hk0 : (0 : Int) ≤ (k : Int) := by omega
   have hdk : ((s.data.toList.drop k).any fun x => x.toNat == c) = ((s[k].toNat == c) || ((s.data.toList.drop (k + 1)).any fun x => x.toNat == c)) := by rw [cB s k hlt, List.any_cons]
   by_cases hq : s[k].toNat = c
   ·have q : ((s[k].toNat : Int) == (c : Int)) = true := lq hq
    have E := Lib.hid (show hasB s c = true by rw [hd.out, hdk, hq]; simp)
    clear hq hdk
    go_wp2
    go_ret
    exact ⟨by rw [E.out]; rfl, rfl⟩
   ·have q : ((s[k].toNat : Int) == (c : Int)) = false := eP hq
    have E := Lib.hid (show hasB s c = ((s.data.toList.drop (k + 1)).any fun x => x.toNat == c) by rw [hd.out, hdk, show (s[k].toNat == c) = false by simpa using hq, Bool.false_or])
    clear hq hdk
    go_wp2
    go_round
    case rel => exact ⟨k + 1, by omega, by go_num, E.out⟩
    case measure => simp [intOf]; omega
  ·obtain rfl : k = s.size := by omega
   have hkI : ¬ (s.size : Int) < (s.size : Int) := by omega
   have E := Lib.hid (show hasB s c = false by rw [hd.out, List.drop_of_length_le (by simp)]; rfl)
   go_wp2
   go_ret
   exact ⟨by rw [E.out]; rfl, rfl⟩

def uZ (k : Int) : ByteArray := if k = 1 then ⟨#[78, 76]⟩ else if k = 2 then ⟨#[78, 70]⟩ else if k = 3 then ⟨#[78, 84]⟩ else if k = 4 then ⟨#[78, 80, 85]⟩ else if k = 5 then ⟨#[76]⟩ else if k = 6 then ⟨#[78, 85]⟩ else if k = 7 then ⟨#[76]⟩ else ⟨#[]⟩
theorem uses_has {k : Int} (h : 1 ≤ k ∧ k ≤ 7) : hasB (uZ k) 78 = hasName k ∧ hasB (uZ k) 76 = j6 k ∧ hasB (uZ k) 70 = jd k ∧ hasB (uZ k) 84 = kY k ∧ hasB (uZ k) 80 = fO k ∧ hasB (uZ k) 85 = (fO k || rT k) := by
 obtain rfl | rfl | rfl | rfl | rfl | rfl | rfl : k = 1 ∨ k = 2 ∨ k = 3 ∨ k = 4 ∨ k = 5 ∨ k = 6 ∨ k = 7 := by omega
 all_goals decide

set_option maxRecDepth 100000 in
set_option maxHeartbeats 2000000 in
theorem uses_ref (k : Int) (w : World) (h : 1 ≤ k ∧ k ≤ 7) : Calls Tryz.prog 68 #[.int .i64 k] w fun e w' => e = .returned (.string (uZ k)) ∧ Below w.heap.size w w' := by
 have hnew := heap_alloc_new w (.cells #[.string ⟨#[]⟩, .string ⟨#[78, 76]⟩, .string ⟨#[78, 70]⟩, .string ⟨#[78, 84]⟩, .string ⟨#[78, 80, 85]⟩, .string ⟨#[76]⟩, .string ⟨#[78, 85]⟩, .string ⟨#[76]⟩] 9)
 have hb : Below w.heap.size w (w.alloc (.cells #[.string ⟨#[]⟩, .string ⟨#[78, 76]⟩, .string ⟨#[78, 70]⟩, .string ⟨#[78, 84]⟩, .string ⟨#[78, 80, 85]⟩, .string ⟨#[76]⟩, .string ⟨#[78, 85]⟩, .string ⟨#[76]⟩] 9)) := (Below.refl _ _).alloc (Nat.le_refl _) _
 have c1 := (cell_of_row _ _ 1 _ _ _ hnew).trans rfl
 have c2 := (cell_of_row _ _ 2 _ _ _ hnew).trans rfl
 have c3 := (cell_of_row _ _ 3 _ _ _ hnew).trans rfl
 have c4 := (cell_of_row _ _ 4 _ _ _ hnew).trans rfl
 have c5 := (cell_of_row _ _ 5 _ _ _ hnew).trans rfl
 have c6 := (cell_of_row _ _ 6 _ _ _ hnew).trans rfl
 have c7 := (cell_of_row _ _ 7 _ _ _ hnew).trans rfl
 clear hnew
 obtain rfl | rfl | rfl | rfl | rfl | rfl | rfl : k = 1 ∨ k = 2 ∨ k = 3 ∨ k = 4 ∨ k = 5 ∨ k = 6 ∨ k = 7 := by omega
 all_goals
  clear h
  go_enter Tryz.func68, Tryz.ntmps68
  go_wp2
  go_ret
  exact ⟨rfl, hb⟩

theorem okFt_bif (op : Int) (nm : ByteArray) (x y : Int) (bl cl : List ByteArray) : jG ⟨op, nm, x, y, bl, cl⟩ =
  bif op == 1 then nm.toList.isEmpty && (x == 0) && (y == 0) && !decide (0 < bl.length + cl.length)
  else bif op == 2 then nm.toList.isEmpty && small x && small y && !decide (0 < bl.length + cl.length)
  else bif op == 3 then nm.toList.isEmpty && (x == 0) && (y == 0) && decide (0 < bl.length + cl.length) && bg bl && bg cl
  else bif op == 4 || op == 5 || op == 6 then bG nm && (x == 0) && (y == 0) && !decide (0 < bl.length + cl.length) else false := by
 rw [← jC]
 simp only [o8 x, o8 y]
 rcases iF op 1 with q1 | rfl
 rcases iF op 2 with q2 | rfl
 rcases iF op 3 with q3 | rfl
 rcases iF op 4 with q4 | rfl
 rcases iF op 5 with q5 | rfl
 rcases iF op 6 with q6 | rfl
 ·simp only [beq_eq_false_iff_ne] at *
  simp [jG, *]
 all_goals
  unfold jG jD gQ
  simp [Bool.and_assoc]

set_option maxRecDepth 100000 in
set_option maxHeartbeats 16000000 in
theorem IW (f : Ft) (v : Value) (w : World) (S : Nat → Prop) (hv : lm w S f v) (hS : ∀ g, S g → g < w.heap.size) (hz : f.ay.length ≤ 1000000000 ∧ f.ak.length ≤ 1000000000) :
  Calls Tryz.prog 69 #[v] w fun e w' => e = .returned (.bool (jG f)) ∧ Below w.heap.size w w' := by
 obtain ⟨op, nm, x, y, bl, cl⟩ := f
 obtain ⟨bA, bc, cA, cc, rfl, hs1, hbc, hs2, hcc⟩ := hv
 simp only at hs1 hs2 hz hbc hcc ⊢
 obtain ⟨hz1, hz2⟩ := hz
 obtain ⟨W, hW⟩ : ∃ W : World, W = w.alloc (.cells #[.int .i64 op, .string nm, .int .i64 x, .int .i64 y, .slice bA bl.length bc, .slice cA cl.length cc] 82) := ⟨_, rfl⟩
 have hb : Below w.heap.size w W := by rw [hW]; exact (Below.refl _ _).alloc (Nat.le_refl _) _
 have hr := Lib.hid (wU hW)
 have G := fun (W : World) (hb : Below w.heap.size w W) g (hg : S g) => Nat.lt_of_lt_of_le (hS g hg) hb.size
 have H1 := Lib.hid (fun (W : World) (hb : Below w.heap.size w W) => Jt bl bA bc W S (hs1.keep (aA hb hS)) (G W hb) (by omega))
 have H2 := Lib.hid (fun (W : World) (hb : Below w.heap.size w W) => Jt cl cA cc W S (hs2.keep (aA hb hS)) (G W hb) (by omega))
 have HN := Lib.hid (fun W => sZ nm W)
 have HM := Lib.hid (fun n W => Fj n W)
 have E := Lib.hid (okFt_bif op nm x y bl cl)
 obtain ⟨R, hR⟩ : ∃ R, jG ⟨op, nm, x, y, bl, cl⟩ = R := ⟨_, rfl⟩
 rw [hR] at E ⊢
 clear hR
 have z1 : (((bl.length : Int) + (cl.length : Int)) == 0) = !decide (0 < bl.length + cl.length) := by rw [o8, ← decide_not]; exact decide_eq_decide.2 (by omega)
 have z2 : decide ((0 : Int) < (bl.length : Int) + (cl.length : Int)) = decide (0 < bl.length + cl.length) := decide_eq_decide.2 (by omega)
 generalize decide (0 < bl.length + cl.length) = a1 at z1 z2 E
 clear hs1 hs2 G hS
 go_enter Tryz.func69, Tryz.ntmps69
 go_upto_region 1 with fail
 rw [← hW]
 clear hW
 obtain ⟨c0, c1, c2, c3, c4, c5, -⟩ := Ba hr.out
 have A1 := Lib.hid (H1.out _ hb)
 go_wp2_with (first
  |((with_reducible refine (HN.out _).mono ?_); rintro e W2 ⟨rfl, h⟩; obtain ⟨hb, hr⟩ := row_step hb hr h; obtain ⟨c0, c1, c2, c3, c4, c5, -⟩ := Ba hr.out)
  |((with_reducible refine (HM.out _ _).mono ?_); rintro e W3 ⟨rfl, rfl⟩)
  |((with_reducible refine A1.out.mono ?_); rintro e W2 ⟨rfl, h⟩; obtain ⟨hb, hr⟩ := row_step hb hr h; obtain ⟨c0, c1, c2, c3, c4, c5, -⟩ := Ba hr.out; have A2 := Lib.hid (H2.out _ hb))
  |((with_reducible refine A2.out.mono ?_); rintro e W3 ⟨rfl, h⟩; obtain ⟨hb, hr⟩ := row_step hb hr h))
 all_goals
  go_ret
  exact ⟨by rw [E.out]; simp_all, hb⟩
end Go.Proofs.YtbmglebipepdmaaGreatDoor
namespace Go.Proofs.YtbmglebipepdmaaGreatDoor
open Go.RowKit
def A9 (d : Dc) : Bool := (hasName d.kind == !decide (d.name.size = 0)) && (decide (d.name.size = 0) || bG d.name) && (j6 d.kind == decide (0 < d.names.length)) && bg d.names && (jd d.kind == decide (0 < d.faults.length))
def A11 (d : Dc) : Bool := if kY d.kind = true then iZ d.term else blank d.term
def A13 (d : Dc) : Bool := bif decide (d.use.size = 0) then !fO d.kind else (fO d.kind || rT d.kind) && bG d.use
def A15 (d : Dc) : Bool := if fO d.kind = true then (d.proto == (⟨#[99, 114, 97, 115, 104]⟩ : ByteArray) || d.proto == (⟨#[98, 121, 122, 97, 110, 116, 105, 110, 101]⟩ : ByteArray)) && iZ d.read && iZ d.write else decide (d.proto.size = 0) && blank d.read && blank d.write
theorem IA {d : Dc} (h : 1 ≤ d.kind ∧ d.kind ≤ 7) : jK d = (A9 d && d.faults.all jG && A11 d && A13 d && A15 d) := by
 unfold jK A9 A11 A13 A15
 rw [decide_eq_true h.1, decide_eq_true h.2]
 generalize hasName d.kind = a1
 generalize j6 d.kind = a2
 generalize jd d.kind = a3
 generalize kY d.kind = a4
 generalize fO d.kind = a5
 generalize rT d.kind = a6
 generalize bG d.name = b1
 generalize bG d.use = b2
 generalize bg d.names = b3
 generalize d.faults.all jG = b4
 generalize iZ d.term = b5
 generalize blank d.term = b6
 generalize (d.proto == (⟨#[99, 114, 97, 115, 104]⟩ : ByteArray) || d.proto == (⟨#[98, 121, 122, 97, 110, 116, 105, 110, 101]⟩ : ByteArray)) = b7
 generalize iZ d.read = b8
 generalize iZ d.write = b9
 generalize blank d.read = b10
 generalize blank d.write = b11
 generalize decide (d.proto.size = 0) = b12
 generalize decide (0 < d.names.length) = e1
 generalize decide (0 < d.faults.length) = e2
 generalize decide (d.name.size = 0) = e3
 by_cases hu : d.use.size = 0
 ·simp only [hu, decide_true, cond_true, Bool.true_or, Bool.or_true, Bool.not_true, Bool.and_false, Bool.and_true]
  cases a4 <;> cases a5 <;> simp only [Bool.false_eq_true, if_true, if_false, Bool.not_true, Bool.not_false, Bool.and_true, Bool.true_and, Bool.and_false, Bool.false_and] <;> ac_rfl
 ·simp only [hu, decide_false, cond_false, Bool.false_or, Bool.or_false, Bool.not_false, Bool.and_true]
  cases a4 <;> cases a5 <;> simp only [Bool.false_eq_true, if_true, if_false, Bool.true_and, Bool.true_or, Bool.false_or] <;> ac_rfl
theorem ER {k : Int} (h : 1 ≤ k ∧ k ≤ 7) : (uZ k).size ≤ 1000000000 := by
 obtain rfl | rfl | rfl | rfl | rfl | rfl | rfl : k = 1 ∨ k = 2 ∨ k = 3 ∨ k = 4 ∨ k = 5 ∨ k = 6 ∨ k = 7 := by omega
 all_goals decide
def ILim (d : Dc) : Prop := d.names.length ≤ 1000000000 ∧ d.faults.length ≤ 1000000000 ∧ (∀ f ∈ d.faults, f.ay.length ≤ 1000000000 ∧ f.ak.length ≤ 1000000000) ∧ au d.term ≤ 1000000000 ∧ au d.read ≤ 1000000000 ∧ au d.write ≤ 1000000000
theorem Ew (t : Tm) (v : Value) (w : World) (S : Nat → Prop) (hv : eG w S t v) (hz : au t ≤ 1000000000) (W : World) :
  Calls Tryz.prog 74 #[v] W fun e w' => e = .returned (.bool (blank t)) ∧ Below W.heap.size W w' := by
 have hkl := jY t
 cases hv with
 |mk op nm nd ws kids wA kA cw kc vs hw hwc hk hkc hl h =>
  have hkl : kids.length + ws.length < au (.mk op nm nd ws kids) := hkl
  exact blank_ref op nd nm wA kA ws.length cw kids.length kc W (by omega) (by omega)

set_option maxRecDepth 100000 in
set_option maxHeartbeats 40000000 in
theorem LK (d : Dc) (v : Value) (w : World) (S : Nat → Prop) (hd : fo w S d v) (hS : ∀ g, S g → g < w.heap.size) (hlim : ILim d) :
  Calls Tryz.prog 39 #[v] w fun e w' => e = .returned (.bool (jK d)) ∧ Below w.heap.size w w' := by
 have hparts := IA (d := d)
 have hrange : ¬ (1 ≤ d.kind ∧ d.kind ≤ 7) → jK d = false := by
  intro h
  unfold jK
  by_cases h1 : 1 ≤ d.kind
  ·rw [decide_eq_true h1, decide_eq_false (show ¬ d.kind ≤ 7 by omega)]; simp
  ·rw [decide_eq_false h1]; simp
 obtain ⟨kind, line, name, names, faults, term, proto, read, write, use⟩ := d
 obtain ⟨nA, nc, fA, fc, vt, vr, vw, rfl, h1, h2, h3, h4, h5, h6, h7⟩ := hd
 obtain ⟨o1, m1, d1, wA1, wn1, wc1, kA1, kn1, kc1, rfl⟩ := h5.form
 obtain ⟨o2, m2, d2, wA2, wn2, wc2, kA2, kn2, kc2, rfl⟩ := h6.form
 obtain ⟨o3, m3, d3, wA3, wn3, wc3, kA3, kn3, kc3, rfl⟩ := h7.form
 obtain ⟨l1, l2, l3, l4, l5, l6⟩ := hlim
 simp only at h1 h2 h3 h4 h5 h6 h7 l1 l2 l3 l4 l5 l6 hparts hrange
 simp only [Value.cells, List.append_toArray, List.cons_append, List.nil_append]
 have G := fun (W : World) (hb : Below w.heap.size w W) g (hg : S g) => Nat.lt_of_lt_of_le (hS g hg) hb.size
 have HA := Lib.hid (fun (W : World) (hb : Below w.heap.size w W) => Jt names nA nc W S (h1.keep (aA hb hS)) (G W hb) (by omega))
 have HT1 := Lib.hid (fun (W : World) (hb : Below w.heap.size w W) => sW term _ W S (h5.keep (aA hb hS)) (G W hb) (by omega))
 have HT2 := Lib.hid (fun (W : World) (hb : Below w.heap.size w W) => sW read _ W S (h6.keep (aA hb hS)) (G W hb) (by omega))
 have HT3 := Lib.hid (fun (W : World) (hb : Below w.heap.size w W) => sW write _ W S (h7.keep (aA hb hS)) (G W hb) (by omega))
 have HB1 := Lib.hid (fun (W : World) => Ew term _ w S h5 l4 W)
 have HB2 := Lib.hid (fun (W : World) => Ew read _ w S h6 l5 W)
 have HB3 := Lib.hid (fun (W : World) => Ew write _ w S h7 l6 W)
 have HFL := Lib.hid (fun (W : World) (hb : Below w.heap.size w W) => h3.keep (P' := lm W S) (aA hb hS) (fun _ _ h => h.keep (aA hb hS)))
 have HFT := Lib.hid (fun k (hk : k < faults.length) v (W : World) (hb : Below w.heap.size w W) (h : lm W S faults[k] v) => IW _ v W S h (G W hb) (l3 _ (List.getElem_mem hk)))
 have HN := Lib.hid (fun (x : ByteArray) (W : World) => sZ x W)
 clear h1 h3 h5 h6 h7 l3 l4 l5 l6 G hS
 obtain ⟨D, hD⟩ : ∃ D : Dc, ⟨kind, line, name, names, faults, term, proto, read, write, use⟩ = D := ⟨_, rfl⟩
 rw [hD] at hparts hrange ⊢
 have e9 := (congrArg A9 hD.symm).trans (A9.eq_1 _)
 have e11 := (congrArg A11 hD.symm).trans (A11.eq_1 _)
 have e13 := (congrArg A13 hD.symm).trans (A13.eq_1 _)
 have e15 := (congrArg A15 hD.symm).trans (A15.eq_1 _)
 dsimp only at e9 e11 e13 e15
 clear hD
 obtain ⟨W, hW⟩ : ∃ W : World, W = w.alloc (.cells #[.int .i64 kind, .int .i64 line, .string name, .slice nA names.length nc, .slice fA faults.length fc, .int .i64 o1, .string m1, .int .i64 d1, .slice wA1 wn1 wc1, .slice kA1 kn1 kc1, .string proto, .int .i64 o2, .string m2, .int .i64 d2, .slice wA2 wn2 wc2, .slice kA2 kn2 kc2, .int .i64 o3, .string m3, .int .i64 d3, .slice wA3 wn3 wc3, .slice kA3 kn3 kc3, .string use] 41) := ⟨_, rfl⟩
 have hb : Below w.heap.size w W := by rw [hW]; exact (Below.refl _ _).alloc (Nat.le_refl _) _
 have hr := Lib.hid (wU hW)
 go_enter Tryz.func39, Tryz.ntmps39
 go_upto_region 1 with fail
 rw [← hW]
 clear hW
 have c0 := ai hr.out 0 _ rfl
 rcases (by omega : kind < 1 ∨ (¬ kind < 1 ∧ 7 < kind) ∨ (¬ kind < 1 ∧ ¬ 7 < kind)) with q | ⟨q1, q2⟩ | ⟨q1, q2⟩
 case' inl | inr.inl =>
  have E := Lib.hid (hrange (by omega))
  clear hparts hrange
  go_wp2
  go_ret
  exact ⟨by rw [E.out]; rfl, hb⟩
 have hkk : 1 ≤ kind ∧ kind ≤ 7 := by omega
 have OK := Lib.hid (hparts hkk)
 obtain ⟨u78, u76, u70, u84, u80, u85⟩ := uses_has hkk
 have hsm := ER hkk
 have HU := Lib.hid (uses_ref kind W hkk)
 generalize uZ kind = u at u78 u76 u70 u84 u80 u85 hsm HU
 have HH := fun c W => has_ref u c W hsm
 have H78 := Lib.hid (HH 78)
 have H76 := Lib.hid (HH 76)
 have H70 := Lib.hid (HH 70)
 have H84 := Lib.hid (HH 84)
 have H80 := Lib.hid (HH 80)
 have H85 := Lib.hid (HH 85)
 rw [u78] at H78
 rw [u76] at H76
 rw [u70] at H70
 rw [u84] at H84
 rw [u80] at H80
 rw [u85] at H85
 simp only [Int.cast_ofNat_Int] at H78 H76 H70 H84 H80 H85
 clear u78 u76 u70 u84 u80 u85 hsm hparts hrange hkk HH
 go_wp2_with fail
 refine HU.out.mono ?_
 rintro e w1 ⟨rfl, h1⟩
 clear c0
 go_wp2
 go_loopw [4] (fun x wr => ∃ k : Nat, k ≤ faults.length ∧ x = .int .i64 k ∧ Below W.heap.size W wr ∧ Hid (faults.all jG = (faults.drop k).all jG)) (fun x _ => faults.length - (intOf x).toNat)
 case atStart => exact ⟨0, Nat.zero_le _, rfl, h1, rfl⟩
 case round =>
 obtain ⟨k, hk, rfl, h, hd⟩ := hrel
 obtain ⟨hb, hr⟩ := row_step hb hr h
 have c4 := ai hr.out 4 _ rfl
 by_cases hlt : k < faults.length
 ·obtain ⟨g, o, op, nm, x, y, bA, bn, bc, cA, cn, cc, rfl, hSg, hft, k0, k1, k2, k3, k4, k5⟩ := rY (HFL.out wr hb) hlt
  have hkI : (k : Int) < (faults.length : Int) := by omega
  have hdk := Lib.hid (show (faults.drop k).all jG = (jG faults[k] && (faults.drop (k + 1)).all jG) by rw [List.drop_eq_getElem_cons hlt, List.all_cons])
  have HC := Lib.hid (HFT.out k hlt _ wr hb hft)
  clear hft
  go_wp2_with fail
  refine HC.out.mono ?_
  rintro e W2 ⟨rfl, h2⟩
  rcases qU (jG faults[k]) with q | q <;> rw [q] at hdk ⊢ <;> go_wp2
  ·go_roundw
   case rel => exact ⟨k + 1, by omega, by go_num, h.trans (h2.mono h.size), Lib.hid (by rw [hd.out, hdk.out]; rfl)⟩
   case measure => simp [intOf]; omega
  ·go_ret
   exact ⟨by rw [OK.out, hd.out, hdk.out]; simp, hb.trans (h2.mono hb.size)⟩
 obtain rfl : k = faults.length := by omega
 have hkI : ¬ (faults.length : Int) < (faults.length : Int) := by omega
 rw [hd.out, List.drop_length, List.all_nil, Bool.and_true] at OK
 clear hd h h1 HFL HFT HU
 go_upto_region 9 with fail
 clear c4
 go_cut [70] (fun s wx => s = .bool (!A9 D) ∧ Below wr.heap.size wr wx)
 case first =>
  have hlt : w.heap.size < wr.heap.size := (Array.getElem?_eq_some_iff.1 hr.out).1
  have hx := (Below.refl wr.heap.size wr).drew
  have HN := Lib.hid (HN.out name)
  have e9 := e9
  rw [jC] at e9
  have E := Lib.hid e9
  generalize hasName kind = n at E H78
  generalize bG name = o at E HN
  generalize bg names = a at E HA
  have b1 : decide (0 < (names.length : Int)) = decide (0 < names.length) := by simp
  have b2 : decide (0 < (faults.length : Int)) = decide (0 < faults.length) := by simp
  obtain ⟨l, zl⟩ : ∃ l, (j6 kind == decide (0 < names.length)) = l := ⟨_, rfl⟩
  obtain ⟨f, zf⟩ : ∃ f, (jd kind == decide (0 < faults.length)) = f := ⟨_, rfl⟩
  rw [zl, zf] at E
  clear e9 e11 e13 e15 HT1 HT2 HT3 HB1 HB2 HB3 OK
  rcases zi name with rfl | ⟨hz0, hz1, hz2⟩ <;> cases n
  case' inr.true => cases o
  case' inl.false | inr.true.true => cases l
  case' inl.false.true | inr.true.true.true => cases a
  case' inl.false.true.true | inr.true.true.true.true => cases f
  all_goals
   refine aZ.start (fun w' => Below wr.heap.size wr w') [] [0, 2, 3, 4, 1, 5, 6, 7, 8, 9, 10, 11, 12, 13, 14, 15, 16, 17, 18, 20, 21, 22, 23, 19, 24, 25, 26, 27, 28, 29, 30, 31, 32, 33, 35, 36, 37, 38, 34, 39, 40] (by kernel_rfl) hx (fun hHeld => ?_)
   repeat
    first
    |refine aZ.skip rfl (by kernel_rfl) (by rfl) (fun _ _ _ h => h) hHeld ?_
    |refine aZ.take (v := ?_) rfl (by kernel_rfl) (by rfl) (fun _ _ _ h => h) hHeld ?_ ?_
     rotate_left
     focus
      intro w9 h9
      have k2 := (h9.cell (p := ⟨w.heap.size, 2, none⟩) hlt).trans (ai hr.out 2 _ rfl)
      have k3 := (h9.cell (p := ⟨w.heap.size, 3, none⟩) hlt).trans (ai hr.out 3 _ rfl)
      have k4 := (h9.cell (p := ⟨w.heap.size, 4, none⟩) hlt).trans (ai hr.out 4 _ rfl)
      go_simp
      (try with_reducible rfl)
      done
    |refine aZ.call rfl (by kernel_rfl) (by kernel_rfl) (fun K hK => ?_)
     go_simp
     first
     |go_at_call 70
      first
      |(with_reducible refine (H78.out _).mono ?_); rintro e w8 ⟨rfl, rfl⟩
      |(with_reducible refine (H76.out _).mono ?_); rintro e w8 ⟨rfl, rfl⟩
      |(with_reducible refine (H70.out _).mono ?_); rintro e w8 ⟨rfl, rfl⟩
     |go_at_call 71
      refine (HN.out _).mono ?_
      rintro e w8 ⟨rfl, hv⟩
      have hx := hx.trans (hv.mono hx.size)
     |go_at_call 72
      refine (HA.out _ (hb.trans (hx.mono hb.size))).mono ?_
      rintro e w8 ⟨rfl, hv⟩
      have hx := hx.trans (hv.mono hx.size)
     try go_simp
     refine hK.out _ _ (fun _ => hx) ?_
     have hHeld := hx
     clear hK K
    try simp only [Act.put, List.getElem_toArray, List.getElem_cons_succ, List.getElem_cons_zero, List.setIfInBounds_toArray, List.set_cons_zero, List.set_cons_succ]
   refine aZ.done (by kernel_rfl) ?_
   go_wp2_with fail
   go_meet
   exact ⟨congrArg Value.bool (by rw [E.out]; simp_all), hx⟩
 case rest =>
 obtain ⟨rfl, h⟩ := hcut
 obtain ⟨hb, hr⟩ := row_step hb hr h
 rcases qU (A9 D) with p | p <;> rw [p] at OK ⊢
 case' inr =>
  go_wp2
  go_ret
  exact ⟨by rw [OK.out]; rfl, hb⟩
 clear p h e9 HA H78 H76 H70
 go_upto_region 11 with fail
 go_cut [89] (fun s wx => s = .bool (!A11 D) ∧ Below wc.heap.size wc wx)
 case first =>
  have c5 := ai hr.out 5 _ rfl
  have c6 := ai hr.out 6 _ rfl
  have c7 := ai hr.out 7 _ rfl
  have c8 := ai hr.out 8 _ rfl
  have c9 := ai hr.out 9 _ rfl
  have E := Lib.hid e11
  have T := Lib.hid (HT1.out _ hb)
  have Z := Lib.hid (HB1.out wc)
  clear e11 e13 e15 OK
  go_wp2_with (first
   |((with_reducible refine (H84.out _).mono ?_); rintro e W1 ⟨rfl, rfl⟩)
   |((with_reducible refine T.out.mono ?_); rintro e W1 ⟨rfl, h⟩)
   |((with_reducible refine Z.out.mono ?_); rintro e W1 ⟨rfl, h⟩))
  all_goals
   go_meet
   exact ⟨congrArg Value.bool (by rw [E.out]; simp_all), h⟩
 case rest =>
 obtain ⟨rfl, h⟩ := hcut
 obtain ⟨hb, hr⟩ := row_step hb hr h
 rcases qU (A11 D) with p | p <;> rw [p] at OK ⊢
 case' inr =>
  go_wp2
  go_ret
  exact ⟨by rw [OK.out]; simp, hb⟩
 clear p h e11 HT1 HB1 H84
 go_upto_region 13 with fail
 go_cut [112] (fun s wx => s = .bool (!A13 D) ∧ Below wc.heap.size wc wx)
 case first =>
  have c21 := ai hr.out 21 _ rfl
  rw [jC] at e13
  have E := Lib.hid e13
  have N := Lib.hid (HN.out use)
  clear e13 e15 OK
  generalize (fO kind || rT kind) = m at E H85
  generalize bG use = o at E N
  generalize fO kind = n at E H80
  rcases zi use with rfl | ⟨hz0, hz1, hz2⟩
  case' inl => cases n
  case' inr => cases m
  case' inr.true => cases o
  all_goals
   go_wp2_with (first
    |((with_reducible refine (H85.out _).mono ?_); rintro e W1 ⟨rfl, rfl⟩)
    |((with_reducible refine (H80.out _).mono ?_); rintro e W1 ⟨rfl, rfl⟩)
    |((with_reducible refine (N.out _).mono ?_); rintro e W1 ⟨rfl, h⟩; obtain ⟨-, hr⟩ := row_step hb hr h; have c21 := ai hr.out 21 _ rfl))
   go_meet
   refine ⟨congrArg Value.bool (by rw [E.out]; simp_all), ?_⟩
   first | exact h | exact Below.refl _ _
 case rest =>
 obtain ⟨rfl, h⟩ := hcut
 obtain ⟨hb, hr⟩ := row_step hb hr h
 rcases qU (A13 D) with p | p <;> rw [p] at OK ⊢
 case' inr =>
  go_wp2
  go_ret
  exact ⟨by rw [OK.out]; simp, hb⟩
 clear p h e13 HN H85
 have c10 := ai hr.out 10 _ rfl
 have c11 := ai hr.out 11 _ rfl
 have c12 := ai hr.out 12 _ rfl
 have c13 := ai hr.out 13 _ rfl
 have c14 := ai hr.out 14 _ rfl
 have c15 := ai hr.out 15 _ rfl
 have c16 := ai hr.out 16 _ rfl
 have c17 := ai hr.out 17 _ rfl
 have c18 := ai hr.out 18 _ rfl
 have c19 := ai hr.out 19 _ rfl
 have c20 := ai hr.out 20 _ rfl
 have T := Lib.hid (HT2.out _ hb)
 have Z := Lib.hid (HB2.out wc)
 have g1 : (proto == (⟨#[99, 114, 97, 115, 104]⟩ : ByteArray)) = (proto.toList == [99, 114, 97, 115, 104]) := by rw [← jR, ByteArray.toList_eq ((⟨#[99, 114, 97, 115, 104]⟩ : ByteArray))]
 have g2 : (proto == (⟨#[98, 121, 122, 97, 110, 116, 105, 110, 101]⟩ : ByteArray)) = (proto.toList == [98, 121, 122, 97, 110, 116, 105, 110, 101]) := by rw [← jR, ByteArray.toList_eq ((⟨#[98, 121, 122, 97, 110, 116, 105, 110, 101]⟩ : ByteArray))]
 rw [g1, g2, jC] at e15
 have E := Lib.hid e15
 clear g1 g2 e15
 go_wp2_with (first
  |((with_reducible refine (H80.out _).mono ?_); rintro e W1 ⟨rfl, rfl⟩)
  |((with_reducible refine T.out.mono ?_); rintro e W1 ⟨rfl, h⟩; obtain ⟨hb, hr⟩ := row_step hb hr h; have c16 := ai hr.out 16 _ rfl; have c17 := ai hr.out 17 _ rfl; have c18 := ai hr.out 18 _ rfl; have c19 := ai hr.out 19 _ rfl; have c20 := ai hr.out 20 _ rfl; have T2 := Lib.hid (HT3.out _ hb))
  |((with_reducible refine Z.out.mono ?_); rintro e W1 ⟨rfl, h⟩; obtain ⟨hb, hr⟩ := row_step hb hr h; have c16 := ai hr.out 16 _ rfl; have c17 := ai hr.out 17 _ rfl; have c18 := ai hr.out 18 _ rfl; have c19 := ai hr.out 19 _ rfl; have c20 := ai hr.out 20 _ rfl; have Z2 := Lib.hid (HB3.out W1))
  |((with_reducible refine T2.out.mono ?_); rintro e W1 ⟨rfl, h⟩; obtain ⟨hb, hr⟩ := row_step hb hr h)
  |((with_reducible refine Z2.out.mono ?_); rintro e W1 ⟨rfl, h⟩; obtain ⟨hb, hr⟩ := row_step hb hr h))
 all_goals
  go_ret
  exact ⟨congrArg (fun b => Ending.returned (.bool b)) (by rw [OK.out, E.out]; simp_all), hb⟩
end Go.Proofs.YtbmglebipepdmaaGreatDoor
