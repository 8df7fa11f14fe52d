/- What this closing text needs beyond the base: parts of the texts on typing and on the syntax; the conditions stand at each theorem. -/
import Derived.Deep.RegionHeld
import Derived.Deep.DeepCutAuto
import Derived.Test.YtbmglebipepdmaaGreatDoorPkPlain
import Derived.Test.YtbmglebipepdmaaGreatDoorPkRound
import Derived.Test.YtbmglebipepdmaaGreatDoorPkTyp
import Derived.Test.YtbmglebipepdmaaGreatDoorPkMem
import Derived.Test.YtbmglebipepdmaaGreatDoorPkPara
import Derived.Test.YtbmglebipepdmaaGreatDoorPkParb
import Derived.Test.YtbmglebipepdmaaGreatDoorPkLex
import Derived.Test.YtbmglebipepdmaaGreatDoorPkPare
import Derived.Test.YtbmglebipepdmaaGreatDoorPkVala
import Derived.Test.YtbmglebipepdmaaGreatDoorPkValb
import Derived.Test.YtbmglebipepdmaaGreatDoorPkValc
import Derived.Test.YtbmglebipepdmaaGreatDoorPkFmta
import Derived.Test.YtbmglebipepdmaaGreatDoorPkFmtb
import Derived.Test.YtbmglebipepdmaaGreatDoorPkNms
import Derived.Test.YtbmglebipepdmaaGreatDoorPkTya
import Derived.Test.YtbmglebipepdmaaGreatDoorPkTyb
import Derived.Test.YtbmglebipepdmaaGreatDoorPkOpen
import Derived.Test.YtbmglebipepdmaaGreatDoorPkCheck
import Derived.Test.YtbmglebipepdmaaGreatDoorPkRefl
import Derived.Test.YtbmglebipepdmaaGreatDoorPkRefa
import Derived.Test.YtbmglebipepdmaaGreatDoorPkRefb
import Derived.Test.YtbmglebipepdmaaGreatDoorPkRefc
import Derived.Test.YtbmglebipepdmaaGreatDoorPkRefd
import Derived.Test.YtbmglebipepdmaaGreatDoorPkEq
import Derived.Test.YtbmglebipepdmaaGreatDoorPkHead
import Derived.Test.YtbmglebipepdmaaGreatDoorPkUses
import Derived.Test.YtbmglebipepdmaaGreatDoorPkAwt
import Derived.Test.YtbmglebipepdmaaGreatDoorRemTyX1
namespace Go.Proofs.YtbmglebipepdmaaGreatDoor
section
variable {P : Program} {ops : Array Oper} {Q : Exit → Act → World → Prop} {md : Region.Mode} {S S' : World → Prop} {Z : List Nat} {i : Nat} {l : List Nat} {oi : Oper} {fuel : Nat} {listed : Array Bool} {a : Act} {w : World}
def jN (Z : List Nat) (listed : Array Bool) : Bool := Z.all fun z => !listed.getD z false
theorem Ac {j : Nat} (h : jN Z listed = true) (hj : Z.contains j = false) : jN Z (listed.setIfInBounds j true) = true := by
 refine List.all_eq_true.2 fun z hz => ?_
 have hzj : j ≠ z := fun e => by rw [e] at hj; simp [hz] at hj
 rw [getD_set_ne false hzj]
 exact List.all_eq_true.1 h z hz
theorem xV (h : jN Z (listed.setIfInBounds i true) = true) : jN Z listed = true := by
 refine List.all_eq_true.2 fun z hz => ?_
 have h1 := List.all_eq_true.1 h z hz
 by_cases e : i = z
 ·subst e
  rcases Nat.lt_or_ge i listed.size with h' | h'
  ·simp [h'] at h1
  ·simp [Array.getElem?_eq_none h']
 ·rw [getD_set_ne false e] at h1; exact h1
theorem Ju (h : jN Z listed = true) (hi : Z.contains i = false) : jN Z (listed.setIfInBounds i true) = true := Ac h hi
def jo (P : Program) (md : Region.Mode) (ops : Array Oper) (Q : Exit → Act → World → Prop) (S : World → Prop) (Z : List Nat) : Nat → Array Bool → Act → World → Prop
 |0, listed, a, w => Region.ready md ops listed = [] ∧ Q .normal a w
 |fuel + 1, listed, a, w => (Region.ready md ops listed = [] → Q .normal a w) ∧
  ∀ i ∈ Region.ready md ops listed, wpOp P ops Q i (fun a' w' => (jN Z (listed.setIfInBounds i true) = true → S w') ∧ jo P md ops Q S Z fuel (listed.setIfInBounds i true) a' w') a w
theorem zL : ∀ (fuel : Nat) (listed : Array Bool) (a : Act) (w : World), jo P md ops Q S Z fuel listed a w → wpAny P md ops Q fuel listed a w
 |0, _, _, _, h => h
 |fuel + 1, _, _, _, h => ⟨h.1, fun i hi => wpOp_mono (fun a' w' h' => zL fuel _ a' w' h'.2) (h.2 i hi)⟩
theorem pR {v : Value} (N : Bool) (hi : ops[i]? = some oi) (hsel : ∀ (j : Nat) (o : Oper) cs b, ops[j]? = some o → o.op ≠ .select cs b) (hQ : ∀ c a w, Q (.panic c) (a.put oi.dst v) w → Q (.panic c) a w)
  (hiZ : Z.contains i = false) (hZ : N = true → ∀ z oz, ops[z]? = some oz → Z.contains z = true → ∃ e ∈ oz.after, Region.binds md e = true ∧ e.on = i) : ∀ (fuel : Nat) (listed : Array Bool) (a : Act) (w : World),
   (∀ j oj, ops[j]? = some oj → j ≠ i → listed.getD j true = false → (∀ e ∈ oj.after, Region.binds md e = true → e.on ≠ i) → oi.apart ops oj = true) → (N = true → jN Z listed = true) →
   i ∈ Region.ready md ops listed → YieldsIf P ops (fun w => N = true → S w) oi v a → (jN Z listed = true → S w) → jo P md ops Q S Z fuel (listed.setIfInBounds i true) (a.put oi.dst v) w → jo P md ops Q S Z (fuel + 1) listed a w := by
 intro fuel
 induction fuel with
 |zero =>
  intro listed a w _ hN hr hy hS H
  refine ⟨fun h => (by rw [h] at hr; cases hr), fun j hj => ?_⟩
  by_cases hji : j = i
  ·subst hji; exact hy.wpOp hi (fun h => hS (hN h)) ⟨fun h => hS (xV h), H⟩
  ·have := ready_mono hj hji
   rw [H.1] at this
   cases this
 |succ fuel ih =>
  intro listed a w hfree hN hr hy hS H
  refine ⟨fun h => (by rw [h] at hr; cases hr), fun j hj => ?_⟩
  by_cases hji : j = i
  ·subst hji; exact hy.wpOp hi (fun h => hS (hN h)) ⟨fun h => hS (xV h), H⟩
  have h1 := H.2 j (ready_mono hj hji)
  obtain ⟨hjun, oj, hoj, hall⟩ := mem_ready.1 hj
  have hnot : ∀ e ∈ oj.after, Region.binds md e = true → e.on ≠ i := fun e he hb heq => by
   have h1 := hall e he hb
   have h0 := (mem_ready.1 hr).1
   rw [heq] at h1
   rcases Nat.lt_or_ge i listed.size with h' | h'
   ·simp [h'] at h0 h1; rw [h0] at h1; cases h1
   ·simp [Array.getElem?_eq_none h'] at h1
  have hN' : N = true → jN Z (listed.setIfInBounds j true) = true := fun hn => Ac (hN hn) (by
   cases e : Z.contains j with
   |false => rfl
   |true => obtain ⟨e, h5, h6, h7⟩ := hZ hn j oj hoj e; exact absurd h7 (hnot e h5 h6))
  have h2 := wpOp_putIf hoj (hfree j oj hoj hji hjun hnot) (fun cs b => hsel i oi cs b hi) (fun cs b => hsel j oj cs b hoj) hQ hy h1
  have hfree' : ∀ k ok, ops[k]? = some ok → k ≠ i → (listed.setIfInBounds j true).getD k true = false → (∀ e ∈ ok.after, Region.binds md e = true → e.on ≠ i) → oi.apart ops ok = true := fun k ok hk hki hun hno => by
   refine hfree k ok hk hki ?_ hno
   by_cases hjk : j = k
   ·subst hjk; exact hjun
   ·rw [getD_set_ne true hjk] at hun; exact hun
  have hS' : ∀ w', (jN Z ((listed.setIfInBounds i true).setIfInBounds j true) = true → S w') → jN Z (listed.setIfInBounds j true) = true → S w' := fun w' h h9 => h (by rw [Array.setIfInBounds_comm _ _ (Ne.symm hji)]; exact Ju h9 hiZ)
  refine wpOp_mono (fun a' w' h3 => ⟨hS' w' h3.2.1, ih (listed.setIfInBounds j true) a' w' hfree' hN' (ready_mono hr (Ne.symm hji)) h3.1 (hS' w' h3.2.1) ?_⟩) h2
  rw [Array.setIfInBounds_comm _ _ hji]
  exact h3.2.2
def vE (md : Region.Mode) (ops : Array Oper) (listed : Array Bool) (i : Nat) : Bool := Region.noSelect ops && Region.free md ops listed i && (Region.ready md ops listed).contains i
def waitAll (md : Region.Mode) (ops : Array Oper) (Z : List Nat) (i : Nat) : Bool := Z.all fun z => match ops[z]? with | some oz => oz.after.any (fun e => Region.binds md e && e.on == i) | none => true
theorem Db (h : waitAll md ops Z i = true) (z : Nat) (oz : Oper) (hz : ops[z]? = some oz) (hc : Z.contains z = true) : ∃ e ∈ oz.after, Region.binds md e = true ∧ e.on = i := by
 have := List.all_eq_true.1 h z (by simpa using hc)
 rw [hz] at this
 obtain ⟨e, h1, h2⟩ := Array.any_eq_true'.1 this
 rw [Bool.and_eq_true, beq_iff_eq] at h2
 exact ⟨e, h1, h2.1, h2.2⟩
structure jS (l : List Nat) (p : Prop) : Prop where
 out : p
theorem jS.start {id : Nat} (S : World → Prop) (Z l : List Nat) (hm : P.follows .mixedOrders = true) (hS : S w.drew) (h : S w.drew → jS l (jo P .any ops Q S Z ops.size (Array.replicate ops.size false) a w.drew)) : (Code.region id ops true).wp P Q a w :=
 wp_region_any hm (zL _ _ _ _ (h hS).out)
theorem jS.skip (hi : ops[i]? = some oi) (hc : (vE md ops listed i && !Z.contains i) = true) (hw : Region.wanted oi (yielded ops a.tmps) = false)
  (hQ : ∀ c a w, Q (.panic c) (a.put oi.dst undef) w → Q (.panic c) a w) (hS : S w) (h : jS l (jo P md ops Q S Z fuel (listed.setIfInBounds i true) (a.put oi.dst undef) w)) : jS (i :: l) (jo P md ops Q S Z (fuel + 1) listed a w) := by
 simp only [vE, Bool.and_eq_true, Bool.not_eq_true'] at hc
 exact ⟨pR false hi (Region.noSelect_spec hc.1.1.1) hQ hc.2 (fun h => by cases h) fuel listed a w (Region.free_spec hi hc.1.1.2) (fun h => by cases h) (by simpa using hc.1.2) (.inr ⟨hw, rfl⟩) (fun _ => hS) h.out⟩
theorem jS.take {v : Value} (hi : ops[i]? = some oi) (hc : (vE md ops listed i && !Z.contains i && (waitAll md ops Z i && jN Z listed)) = true) (hw : Region.wanted oi (yielded ops a.tmps) = true)
  (hQ : ∀ c a w, Q (.panic c) (a.put oi.dst v) w → Q (.panic c) a w) (hS : S w) (hy : ∀ w, S w → (execOp a.eval oi).run P w = .ok (.value v) w) (h : jS l (jo P md ops Q S Z fuel (listed.setIfInBounds i true) (a.put oi.dst v) w)) : jS (i :: l) (jo P md ops Q S Z (fuel + 1) listed a w) := by
 simp only [vE, Bool.and_eq_true, Bool.not_eq_true'] at hc
 exact ⟨pR true hi (Region.noSelect_spec hc.1.1.1.1) hQ hc.1.2 (fun _ => Db hc.2.1) fuel listed a w (Region.free_spec hi hc.1.1.1.2) (fun _ => hc.2.2) (by simpa using hc.1.1.2) (.inl ⟨hw, fun w h => hy w (h rfl)⟩) (fun _ => hS) h.out⟩
theorem jS.pure {v : Value} (hi : ops[i]? = some oi) (hc : (vE md ops listed i && !Z.contains i) = true) (hw : Region.wanted oi (yielded ops a.tmps) = true)
  (hQ : ∀ c a w, Q (.panic c) (a.put oi.dst v) w → Q (.panic c) a w) (hS : jN Z listed = true → S w) (hy : ∀ w, (execOp a.eval oi).run P w = .ok (.value v) w) (h : jS l (jo P md ops Q S Z fuel (listed.setIfInBounds i true) (a.put oi.dst v) w)) : jS (i :: l) (jo P md ops Q S Z (fuel + 1) listed a w) := by
 simp only [vE, Bool.and_eq_true, Bool.not_eq_true'] at hc
 exact ⟨pR false hi (Region.noSelect_spec hc.1.1.1) hQ hc.2 (fun h => by cases h) fuel listed a w (Region.free_spec hi hc.1.1.2) (fun h => by cases h) (by simpa using hc.1.2) (.inl ⟨hw, fun w _ => hy w⟩) hS h.out⟩
theorem vg {j : Nat} {oj : Oper} (hj : ops[j]? = some oj) (hw : Region.wanted oj (yielded ops a.tmps) = true)
  (h : ∀ K : Act → World → Prop, Shut (∀ a w, (jN Z (listed.setIfInBounds j true) = true → S w) → jS l (jo P md ops Q S Z fuel (listed.setIfInBounds j true) a w) → K a w) → Oper.wp P oj a w K Q) : wpOp P ops Q j (fun a' w' => (jN Z (listed.setIfInBounds j true) = true → S w') ∧ jo P md ops Q S Z fuel (listed.setIfInBounds j true) a' w') a w :=
 wpOp_step hj fun K' hK => by rw [if_pos hw]; exact h K' (fun a w hs hl => hK a w ⟨hs, hl.out⟩)
theorem jS.one (i : Nat) {oi : Oper} (hi : ops[i]? = some oi) (hr : Region.ready md ops listed = [i]) (hw : Region.wanted oi (yielded ops a.tmps) = true)
  (h : ∀ K : Act → World → Prop, Shut (∀ a w, (jN Z (listed.setIfInBounds i true) = true → S w) → jS l (jo P md ops Q S Z fuel (listed.setIfInBounds i true) a w) → K a w) → Oper.wp P oi a w K Q) : jS l (jo P md ops Q S Z (fuel + 1) listed a w) :=
 ⟨⟨fun h0 => (by rw [h0] at hr; cases hr), fun j hj => by
  rw [hr, List.mem_singleton] at hj
  subst hj
  exact vg hi hw h⟩⟩
theorem jS.call (hi : ops[i]? = some oi) (hr : Region.ready md ops listed = [i]) (hw : Region.wanted oi (yielded ops a.tmps) = true)
  (h : ∀ K : Act → World → Prop, Shut (∀ a w, (jN Z (listed.setIfInBounds i true) = true → S w) → jS l (jo P md ops Q S Z fuel (listed.setIfInBounds i true) a w) → K a w) → Oper.wp P oi a w K Q) : jS (i :: l) (jo P md ops Q S Z (fuel + 1) listed a w) :=
 ⟨(jS.one i hi hr hw h).out⟩
theorem jS.done (hr : Region.ready md ops listed = []) (h : Q .normal a w) : jS l (jo P md ops Q S Z fuel listed a w) := ⟨match fuel with
 |0 => ⟨hr, h⟩
 |_ + 1 => ⟨fun _ => h, by rw [hr]; simp⟩⟩
end
end Go.Proofs.YtbmglebipepdmaaGreatDoor
namespace Go.Proofs.YtbmglebipepdmaaGreatDoor
open Go.RowKit
def hasB (s : ByteArray) (c : Nat) : Bool := s.data.toList.any fun x => x.toNat == c

set_option maxRecDepth 100000 in
set_option maxHeartbeats 1000000 in
theorem has_ref (s : ByteArray) (c : Nat) (w : World) (hs : s.size ≤ 1000000000) : Calls Tryz.prog 70 #[.string s, .int .u8 c] w fun e w' => e = .returned (.bool (hasB s c)) ∧ w = w' := by
 go_enter Tryz.func70, Tryz.ntmps70
 go_wp2
 go_loop [5] (fun x => ∃ k : Nat, k ≤ s.size ∧ x = .int .i64 k ∧ Hid (hasB s c = (s.data.toList.drop k).any fun x => x.toNat == c)) (fun x => s.size - (intOf x).toNat)
 case atStart => exact ⟨0, Nat.zero_le _, rfl, rfl⟩
 case round =>
  obtain ⟨k, hk, rfl, hd⟩ := hrel
  by_cases hlt : k < s.size
  ·have hkI : (k : Int) < (s.size : Int) := by omega
   have hk0 : (0 : Int) ≤ (k : Int) := by omega
   have hdk : ((s.data.toList.drop k).any fun x => x.toNat == c) = ((s[k].toNat == c) || ((s.data.toList.drop (k + 1)).any fun x => x.toNat == c)) := by rw [bW s k hlt, List.any_cons]
   by_cases hq : s[k].toNat = c
   ·have q : ((s[k].toNat : Int) == (c : Int)) = true := kg hq
    have E := Lib.hid (show hasB s c = true by rw [hd.out, hdk, hq]; simp)
    clear hq hdk
    go_wp2
    go_ret
    exact ⟨by rw [E.out]; rfl, rfl⟩
   ·have q : ((s[k].toNat : Int) == (c : Int)) = false := dV hq
    have E := Lib.hid (show hasB s c = ((s.data.toList.drop (k + 1)).any fun x => x.toNat == c) by rw [hd.out, hdk, show (s[k].toNat == c) = false by simpa using hq, Bool.false_or])
    clear hq hdk
    go_wp2
    go_round
    case rel => exact ⟨k + 1, by omega, by go_num, E.out⟩
    case measure => simp [intOf]; omega
  ·obtain rfl : k = s.size := by omega
   have hkI : ¬ (s.size : Int) < (s.size : Int) := by omega
   have E := Lib.hid (show hasB s c = false by rw [hd.out, List.drop_of_length_le (by simp)]; rfl)
   go_wp2
   go_ret
   exact ⟨by rw [E.out]; rfl, rfl⟩

def tN (k : Int) : ByteArray := if k = 1 then ⟨#[78, 76]⟩ else if k = 2 then ⟨#[78, 70]⟩ else if k = 3 then ⟨#[78, 84]⟩ else if k = 4 then ⟨#[78, 80, 85]⟩ else if k = 5 then ⟨#[76]⟩ else if k = 6 then ⟨#[78, 85]⟩ else if k = 7 then ⟨#[76]⟩ else ⟨#[]⟩
theorem uses_has {k : Int} (h : 1 ≤ k ∧ k ≤ 7) : hasB (tN k) 78 = hasName k ∧ hasB (tN k) 76 = j3 k ∧ hasB (tN k) 70 = iY k ∧ hasB (tN k) 84 = kH k ∧ hasB (tN k) 80 = fG k ∧ hasB (tN k) 85 = (fG k || rQ k) := by
 obtain rfl | rfl | rfl | rfl | rfl | rfl | rfl : k = 1 ∨ k = 2 ∨ k = 3 ∨ k = 4 ∨ k = 5 ∨ k = 6 ∨ k = 7 := by omega
 all_goals decide

set_option maxRecDepth 100000 in
set_option maxHeartbeats 2000000 in
theorem wH (k : Int) (w : World) (h : 1 ≤ k ∧ k ≤ 7) : Calls Tryz.prog 68 #[.int .i64 k] w fun e w' => e = .returned (.string (tN k)) ∧ Below w.heap.size w w' := by
 have hnew := heap_alloc_new w (.cells #[.string ⟨#[]⟩, .string ⟨#[78, 76]⟩, .string ⟨#[78, 70]⟩, .string ⟨#[78, 84]⟩, .string ⟨#[78, 80, 85]⟩, .string ⟨#[76]⟩, .string ⟨#[78, 85]⟩, .string ⟨#[76]⟩] 9)
 have hb : Below w.heap.size w (w.alloc (.cells #[.string ⟨#[]⟩, .string ⟨#[78, 76]⟩, .string ⟨#[78, 70]⟩, .string ⟨#[78, 84]⟩, .string ⟨#[78, 80, 85]⟩, .string ⟨#[76]⟩, .string ⟨#[78, 85]⟩, .string ⟨#[76]⟩] 9)) := (Below.refl _ _).alloc (Nat.le_refl _) _
 have c1 := (cell_of_row _ _ 1 _ _ _ hnew).trans rfl
 have c2 := (cell_of_row _ _ 2 _ _ _ hnew).trans rfl
 have c3 := (cell_of_row _ _ 3 _ _ _ hnew).trans rfl
 have c4 := (cell_of_row _ _ 4 _ _ _ hnew).trans rfl
 have c5 := (cell_of_row _ _ 5 _ _ _ hnew).trans rfl
 have c6 := (cell_of_row _ _ 6 _ _ _ hnew).trans rfl
 have c7 := (cell_of_row _ _ 7 _ _ _ hnew).trans rfl
 clear hnew
 obtain rfl | rfl | rfl | rfl | rfl | rfl | rfl : k = 1 ∨ k = 2 ∨ k = 3 ∨ k = 4 ∨ k = 5 ∨ k = 6 ∨ k = 7 := by omega
 all_goals
  clear h
  go_enter Tryz.func68, Tryz.ntmps68
  go_wp2
  go_ret
  exact ⟨rfl, hb⟩

theorem okFt_bif (op : Int) (nm : ByteArray) (x y : Int) (bl cl : List ByteArray) : jQ ⟨op, nm, x, y, bl, cl⟩ =
  bif op == 1 then nm.toList.isEmpty && (x == 0) && (y == 0) && !decide (0 < bl.length + cl.length)
  else bif op == 2 then nm.toList.isEmpty && small x && small y && !decide (0 < bl.length + cl.length)
  else bif op == 3 then nm.toList.isEmpty && (x == 0) && (y == 0) && decide (0 < bl.length + cl.length) && bD bl && bD cl
  else bif op == 4 || op == 5 || op == 6 then bO nm && (x == 0) && (y == 0) && !decide (0 < bl.length + cl.length) else false := by
 rw [← ko]
 simp only [nT x, nT y]
 rcases gQ op 1 with q1 | rfl
 rcases gQ op 2 with q2 | rfl
 rcases gQ op 3 with q3 | rfl
 rcases gQ op 4 with q4 | rfl
 rcases gQ op 5 with q5 | rfl
 rcases gQ op 6 with q6 | rfl
 ·simp only [beq_eq_false_iff_ne] at *
  simp [jQ, *]
 all_goals
  unfold jQ jG gJ
  simp [Bool.and_assoc]

set_option maxRecDepth 100000 in
set_option maxHeartbeats 16000000 in
theorem Gf (f : Ft) (v : Value) (w : World) (S : Nat → Prop) (hv : kU w S f v) (hS : ∀ g, S g → g < w.heap.size) (hz : f.aC.length ≤ 1000000000 ∧ f.ak.length ≤ 1000000000) :
  Calls Tryz.prog 69 #[v] w fun e w' => e = .returned (.bool (jQ f)) ∧ Below w.heap.size w w' := by
 obtain ⟨op, nm, x, y, bl, cl⟩ := f
 obtain ⟨bA, bc, cA, cc, rfl, hs1, hbc, hs2, hcc⟩ := hv
 simp only at hs1 hs2 hz hbc hcc ⊢
 obtain ⟨hz1, hz2⟩ := hz
 obtain ⟨W, hW⟩ : ∃ W : World, W = w.alloc (.cells #[.int .i64 op, .string nm, .int .i64 x, .int .i64 y, .slice bA bl.length bc, .slice cA cl.length cc] 82) := ⟨_, rfl⟩
 have hb : Below w.heap.size w W := by rw [hW]; exact (Below.refl _ _).alloc (Nat.le_refl _) _
 have hr := Lib.hid (uZ hW)
 have G := fun (W : World) (hb : Below w.heap.size w W) g (hg : S g) => Nat.lt_of_lt_of_le (hS g hg) hb.size
 have H1 := Lib.hid (fun (W : World) (hb : Below w.heap.size w W) => GN bl bA bc W S (hs1.keep (aA hb hS)) (G W hb) (by omega))
 have H2 := Lib.hid (fun (W : World) (hb : Below w.heap.size w W) => GN cl cA cc W S (hs2.keep (aA hb hS)) (G W hb) (by omega))
 have HN := Lib.hid (fun W => ru nm W)
 have HM := Lib.hid (fun n W => Dw n W)
 have E := Lib.hid (okFt_bif op nm x y bl cl)
 obtain ⟨R, hR⟩ : ∃ R, jQ ⟨op, nm, x, y, bl, cl⟩ = R := ⟨_, rfl⟩
 rw [hR] at E ⊢
 clear hR
 have z1 : (((bl.length : Int) + (cl.length : Int)) == 0) = !decide (0 < bl.length + cl.length) := by rw [nT, ← decide_not]; exact decide_eq_decide.2 (by omega)
 have z2 : decide ((0 : Int) < (bl.length : Int) + (cl.length : Int)) = decide (0 < bl.length + cl.length) := decide_eq_decide.2 (by omega)
 generalize decide (0 < bl.length + cl.length) = a1 at z1 z2 E
 clear hs1 hs2 G hS
 go_enter Tryz.func69, Tryz.ntmps69
 go_upto_region 1 with fail
 rw [← hW]
 clear hW
 obtain ⟨c0, c1, c2, c3, c4, c5, -⟩ := zo hr.out
 have A1 := Lib.hid (H1.out _ hb)
 go_wp2_with (first
  |((with_reducible refine (HN.out _).mono ?_); rintro e W2 ⟨rfl, h⟩; obtain ⟨hb, hr⟩ := row_step hb hr h; obtain ⟨c0, c1, c2, c3, c4, c5, -⟩ := zo hr.out)
  |((with_reducible refine (HM.out _ _).mono ?_); rintro e W3 ⟨rfl, rfl⟩)
  |((with_reducible refine A1.out.mono ?_); rintro e W2 ⟨rfl, h⟩; obtain ⟨hb, hr⟩ := row_step hb hr h; obtain ⟨c0, c1, c2, c3, c4, c5, -⟩ := zo hr.out; have A2 := Lib.hid (H2.out _ hb))
  |((with_reducible refine A2.out.mono ?_); rintro e W3 ⟨rfl, h⟩; obtain ⟨hb, hr⟩ := row_step hb hr h))
 all_goals
  go_ret
  exact ⟨by rw [E.out]; simp_all, hb⟩
end Go.Proofs.YtbmglebipepdmaaGreatDoor
namespace Go.Proofs.YtbmglebipepdmaaGreatDoor
open Go.RowKit
def A9 (d : Dc) : Bool := (hasName d.kind == !decide (d.name.size = 0)) && (decide (d.name.size = 0) || bO d.name) && (j3 d.kind == decide (0 < d.names.length)) && bD d.names && (iY d.kind == decide (0 < d.faults.length))
def A11 (d : Dc) : Bool := if kH d.kind = true then jf d.term else blank d.term
def A13 (d : Dc) : Bool := bif decide (d.use.size = 0) then !fG d.kind else (fG d.kind || rQ d.kind) && bO d.use
def A15 (d : Dc) : Bool := if fG d.kind = true then (d.proto == (⟨#[99, 114, 97, 115, 104]⟩ : ByteArray) || d.proto == (⟨#[98, 121, 122, 97, 110, 116, 105, 110, 101]⟩ : ByteArray)) && jf d.read && jf d.write else decide (d.proto.size = 0) && blank d.read && blank d.write
theorem F3 {d : Dc} (h : 1 ≤ d.kind ∧ d.kind ≤ 7) : kE d = (A9 d && d.faults.all jQ && A11 d && A13 d && A15 d) := by
 unfold kE A9 A11 A13 A15
 rw [decide_eq_true h.1, decide_eq_true h.2]
 generalize hasName d.kind = a1
 generalize j3 d.kind = a2
 generalize iY d.kind = a3
 generalize kH d.kind = a4
 generalize fG d.kind = a5
 generalize rQ d.kind = a6
 generalize bO d.name = b1
 generalize bO d.use = b2
 generalize bD d.names = b3
 generalize d.faults.all jQ = b4
 generalize jf d.term = b5
 generalize blank d.term = b6
 generalize (d.proto == (⟨#[99, 114, 97, 115, 104]⟩ : ByteArray) || d.proto == (⟨#[98, 121, 122, 97, 110, 116, 105, 110, 101]⟩ : ByteArray)) = b7
 generalize jf d.read = b8
 generalize jf d.write = b9
 generalize blank d.read = b10
 generalize blank d.write = b11
 generalize decide (d.proto.size = 0) = b12
 generalize decide (0 < d.names.length) = e1
 generalize decide (0 < d.faults.length) = e2
 generalize decide (d.name.size = 0) = e3
 by_cases hu : d.use.size = 0
 ·simp only [hu, decide_true, cond_true, Bool.true_or, Bool.or_true, Bool.not_true, Bool.and_false, Bool.and_true]
  cases a4 <;> cases a5 <;> simp only [Bool.false_eq_true, if_true, if_false, Bool.not_true, Bool.not_false, Bool.and_true, Bool.true_and, Bool.and_false, Bool.false_and] <;> ac_rfl
 ·simp only [hu, decide_false, cond_false, Bool.false_or, Bool.or_false, Bool.not_false, Bool.and_true]
  cases a4 <;> cases a5 <;> simp only [Bool.false_eq_true, if_true, if_false, Bool.true_and, Bool.true_or, Bool.false_or] <;> ac_rfl
theorem Dg {k : Int} (h : 1 ≤ k ∧ k ≤ 7) : (tN k).size ≤ 1000000000 := by
 obtain rfl | rfl | rfl | rfl | rfl | rfl | rfl : k = 1 ∨ k = 2 ∨ k = 3 ∨ k = 4 ∨ k = 5 ∨ k = 6 ∨ k = 7 := by omega
 all_goals decide
def ILim (d : Dc) : Prop := d.names.length ≤ 1000000000 ∧ d.faults.length ≤ 1000000000 ∧ (∀ f ∈ d.faults, f.aC.length ≤ 1000000000 ∧ f.ak.length ≤ 1000000000) ∧ av d.term ≤ 1000000000 ∧ av d.read ≤ 1000000000 ∧ av d.write ≤ 1000000000
theorem CQ (t : Tm) (v : Value) (w : World) (S : Nat → Prop) (hv : eH w S t v) (hz : av t ≤ 1000000000) (W : World) :
  Calls Tryz.prog 74 #[v] W fun e w' => e = .returned (.bool (blank t)) ∧ Below W.heap.size W w' := by
 have hkl := jq t
 cases hv with
 |mk op nm nd ws kids wA kA cw kc vs hw hwc hk hkc hl h =>
  have hkl : kids.length + ws.length < av (.mk op nm nd ws kids) := hkl
  exact blank_ref op nd nm wA kA ws.length cw kids.length kc W (by omega) (by omega)

set_option maxRecDepth 100000 in
set_option maxHeartbeats 40000000 in
theorem JR (d : Dc) (v : Value) (w : World) (S : Nat → Prop) (hd : fC w S d v) (hS : ∀ g, S g → g < w.heap.size) (hlim : ILim d) :
  Calls Tryz.prog 39 #[v] w fun e w' => e = .returned (.bool (kE d)) ∧ Below w.heap.size w w' := by
 have hparts := F3 (d := d)
 have hrange : ¬ (1 ≤ d.kind ∧ d.kind ≤ 7) → kE d = false := by
  intro h
  unfold kE
  by_cases h1 : 1 ≤ d.kind
  ·rw [decide_eq_true h1, decide_eq_false (show ¬ d.kind ≤ 7 by omega)]; simp
  ·rw [decide_eq_false h1]; simp
 obtain ⟨kind, line, name, names, faults, term, proto, read, write, use⟩ := d
 obtain ⟨nA, nc, fA, fc, vt, vr, vw, rfl, h1, h2, h3, h4, h5, h6, h7⟩ := hd
 obtain ⟨o1, m1, d1, wA1, wn1, wc1, kA1, kn1, kc1, rfl⟩ := h5.form
 obtain ⟨o2, m2, d2, wA2, wn2, wc2, kA2, kn2, kc2, rfl⟩ := h6.form
 obtain ⟨o3, m3, d3, wA3, wn3, wc3, kA3, kn3, kc3, rfl⟩ := h7.form
 obtain ⟨l1, l2, l3, l4, l5, l6⟩ := hlim
 simp only at h1 h2 h3 h4 h5 h6 h7 l1 l2 l3 l4 l5 l6 hparts hrange
 simp only [Value.cells, List.append_toArray, List.cons_append, List.nil_append]
 have G := fun (W : World) (hb : Below w.heap.size w W) g (hg : S g) => Nat.lt_of_lt_of_le (hS g hg) hb.size
 have HA := Lib.hid (fun (W : World) (hb : Below w.heap.size w W) => GN names nA nc W S (h1.keep (aA hb hS)) (G W hb) (by omega))
 have HT1 := Lib.hid (fun (W : World) (hb : Below w.heap.size w W) => qZ term _ W S (h5.keep (aA hb hS)) (G W hb) (by omega))
 have HT2 := Lib.hid (fun (W : World) (hb : Below w.heap.size w W) => qZ read _ W S (h6.keep (aA hb hS)) (G W hb) (by omega))
 have HT3 := Lib.hid (fun (W : World) (hb : Below w.heap.size w W) => qZ write _ W S (h7.keep (aA hb hS)) (G W hb) (by omega))
 have HB1 := Lib.hid (fun (W : World) => CQ term _ w S h5 l4 W)
 have HB2 := Lib.hid (fun (W : World) => CQ read _ w S h6 l5 W)
 have HB3 := Lib.hid (fun (W : World) => CQ write _ w S h7 l6 W)
 have HFL := Lib.hid (fun (W : World) (hb : Below w.heap.size w W) => h3.keep (P' := kU W S) (aA hb hS) (fun _ _ h => h.keep (aA hb hS)))
 have HFT := Lib.hid (fun k (hk : k < faults.length) v (W : World) (hb : Below w.heap.size w W) (h : kU W S faults[k] v) => Gf _ v W S h (G W hb) (l3 _ (List.getElem_mem hk)))
 have HN := Lib.hid (fun (x : ByteArray) (W : World) => ru x W)
 clear h1 h3 h5 h6 h7 l3 l4 l5 l6 G hS
 obtain ⟨D, hD⟩ : ∃ D : Dc, ⟨kind, line, name, names, faults, term, proto, read, write, use⟩ = D := ⟨_, rfl⟩
 rw [hD] at hparts hrange ⊢
 have e9 := (congrArg A9 hD.symm).trans (A9.eq_1 _)
 have e11 := (congrArg A11 hD.symm).trans (A11.eq_1 _)
 have e13 := (congrArg A13 hD.symm).trans (A13.eq_1 _)
 have e15 := (congrArg A15 hD.symm).trans (A15.eq_1 _)
 dsimp only at e9 e11 e13 e15
 clear hD
 obtain ⟨W, hW⟩ : ∃ W : World, W = w.alloc (.cells #[.int .i64 kind, .int .i64 line, .string name, .slice nA names.length nc, .slice fA faults.length fc, .int .i64 o1, .string m1, .int .i64 d1, .slice wA1 wn1 wc1, .slice kA1 kn1 kc1, .string proto, .int .i64 o2, .string m2, .int .i64 d2, .slice wA2 wn2 wc2, .slice kA2 kn2 kc2, .int .i64 o3, .string m3, .int .i64 d3, .slice wA3 wn3 wc3, .slice kA3 kn3 kc3, .string use] 41) := ⟨_, rfl⟩
 have hb : Below w.heap.size w W := by rw [hW]; exact (Below.refl _ _).alloc (Nat.le_refl _) _
 have hr := Lib.hid (uZ hW)
 go_enter Tryz.func39, Tryz.ntmps39
 go_upto_region 1 with fail
 rw [← hW]
 clear hW
 have c0 := ah hr.out 0 _ rfl
 rcases (by omega : kind < 1 ∨ (¬ kind < 1 ∧ 7 < kind) ∨ (¬ kind < 1 ∧ ¬ 7 < kind)) with q | ⟨q1, q2⟩ | ⟨q1, q2⟩
 case' inl | inr.inl =>
  have E := Lib.hid (hrange (by omega))
  clear hparts hrange
  go_wp2
  go_ret
  exact ⟨by rw [E.out]; rfl, hb⟩
 have hkk : 1 ≤ kind ∧ kind ≤ 7 := by omega
 have OK := Lib.hid (hparts hkk)
 obtain ⟨u78, u76, u70, u84, u80, u85⟩ := uses_has hkk
 have hsm := Dg hkk
 have HU := Lib.hid (wH kind W hkk)
 generalize tN kind = u at u78 u76 u70 u84 u80 u85 hsm HU
 have HH := fun c W => has_ref u c W hsm
 have H78 := Lib.hid (HH 78)
 have H76 := Lib.hid (HH 76)
 have H70 := Lib.hid (HH 70)
 have H84 := Lib.hid (HH 84)
 have H80 := Lib.hid (HH 80)
 have H85 := Lib.hid (HH 85)
 rw [u78] at H78
 rw [u76] at H76
 rw [u70] at H70
 rw [u84] at H84
 rw [u80] at H80
 rw [u85] at H85
 simp only [Int.cast_ofNat_Int] at H78 H76 H70 H84 H80 H85
 clear u78 u76 u70 u84 u80 u85 hsm hparts hrange hkk HH
 go_wp2_with fail
 refine HU.out.mono ?_
 rintro e w1 ⟨rfl, h1⟩
 clear c0
 go_wp2
 go_loopw [4] (fun x wr => ∃ k : Nat, k ≤ faults.length ∧ x = .int .i64 k ∧ Below W.heap.size W wr ∧ Hid (faults.all jQ = (faults.drop k).all jQ)) (fun x _ => faults.length - (intOf x).toNat)
 case atStart => exact ⟨0, Nat.zero_le _, rfl, h1, rfl⟩
 case round =>
 obtain ⟨k, hk, rfl, h, hd⟩ := hrel
 obtain ⟨hb, hr⟩ := row_step hb hr h
 have c4 := ah hr.out 4 _ rfl
 by_cases hlt : k < faults.length
 ·obtain ⟨g, o, op, nm, x, y, bA, bn, bc, cA, cn, cc, rfl, hSg, hft, k0, k1, k2, k3, k4, k5⟩ := qA (HFL.out wr hb) hlt
  have hkI : (k : Int) < (faults.length : Int) := by omega
  have hdk := Lib.hid (show (faults.drop k).all jQ = (jQ faults[k] && (faults.drop (k + 1)).all jQ) by rw [List.drop_eq_getElem_cons hlt, List.all_cons])
  have HC := Lib.hid (HFT.out k hlt _ wr hb hft)
  clear hft
  go_wp2_with fail
  refine HC.out.mono ?_
  rintro e W2 ⟨rfl, h2⟩
  rcases pG (jQ faults[k]) with q | q <;> rw [q] at hdk ⊢ <;> go_wp2
  ·go_roundw
   case rel => exact ⟨k + 1, by omega, by go_num, h.trans (h2.mono h.size), Lib.hid (by rw [hd.out, hdk.out]; rfl)⟩
   case measure => simp [intOf]; omega
  ·go_ret
   exact ⟨by rw [OK.out, hd.out, hdk.out]; simp, hb.trans (h2.mono hb.size)⟩
 obtain rfl : k = faults.length := by omega
 have hkI : ¬ (faults.length : Int) < (faults.length : Int) := by omega
 rw [hd.out, List.drop_length, List.all_nil, Bool.and_true] at OK
 clear hd h h1 HFL HFT HU
 go_upto_region 9 with fail
 clear c4
 go_cut [70] (fun s wx => s = .bool (!A9 D) ∧ Below wr.heap.size wr wx)
 case first =>
  have hlt : w.heap.size < wr.heap.size := (Array.getElem?_eq_some_iff.1 hr.out).1
  have hx := (Below.refl wr.heap.size wr).drew
  have HN := Lib.hid (HN.out name)
  have e9 := e9
  rw [ko] at e9
  have E := Lib.hid e9
  generalize hasName kind = n at E H78
  generalize bO name = o at E HN
  generalize bD names = a at E HA
  have b1 : decide (0 < (names.length : Int)) = decide (0 < names.length) := by simp
  have b2 : decide (0 < (faults.length : Int)) = decide (0 < faults.length) := by simp
  obtain ⟨l, zl⟩ : ∃ l, (j3 kind == decide (0 < names.length)) = l := ⟨_, rfl⟩
  obtain ⟨f, zf⟩ : ∃ f, (iY kind == decide (0 < faults.length)) = f := ⟨_, rfl⟩
  rw [zl, zf] at E
  clear e9 e11 e13 e15 HT1 HT2 HT3 HB1 HB2 HB3 OK
  rcases xC name with rfl | ⟨hz0, hz1, hz2⟩ <;> cases n
  case' inr.true => cases o
  case' inl.false | inr.true.true => cases l
  case' inl.false.true | inr.true.true.true => cases a
  case' inl.false.true.true | inr.true.true.true.true => cases f
  all_goals
   refine jS.start (fun w' => Below wr.heap.size wr w') [] [0, 2, 3, 4, 1, 5, 6, 7, 8, 9, 10, 11, 12, 13, 14, 15, 16, 17, 18, 20, 21, 22, 23, 19, 24, 25, 26, 27, 28, 29, 30, 31, 32, 33, 35, 36, 37, 38, 34, 39, 40] (by kernel_rfl) hx (fun hHeld => ?_)
   repeat
    first
    |refine jS.skip rfl (by kernel_rfl) (by rfl) (fun _ _ _ h => h) hHeld ?_
    |refine jS.take (v := ?_) rfl (by kernel_rfl) (by rfl) (fun _ _ _ h => h) hHeld ?_ ?_
     rotate_left
     focus
      intro w9 h9
      have k2 := (h9.cell (p := ⟨w.heap.size, 2, none⟩) hlt).trans (ah hr.out 2 _ rfl)
      have k3 := (h9.cell (p := ⟨w.heap.size, 3, none⟩) hlt).trans (ah hr.out 3 _ rfl)
      have k4 := (h9.cell (p := ⟨w.heap.size, 4, none⟩) hlt).trans (ah hr.out 4 _ rfl)
      go_simp
      (try with_reducible rfl)
      done
    |refine jS.call rfl (by kernel_rfl) (by kernel_rfl) (fun K hK => ?_)
     go_simp
     first
     |go_at_call 70
      first
      |(with_reducible refine (H78.out _).mono ?_); rintro e w8 ⟨rfl, rfl⟩
      |(with_reducible refine (H76.out _).mono ?_); rintro e w8 ⟨rfl, rfl⟩
      |(with_reducible refine (H70.out _).mono ?_); rintro e w8 ⟨rfl, rfl⟩
     |go_at_call 71
      refine (HN.out _).mono ?_
      rintro e w8 ⟨rfl, hv⟩
      have hx := hx.trans (hv.mono hx.size)
     |go_at_call 72
      refine (HA.out _ (hb.trans (hx.mono hb.size))).mono ?_
      rintro e w8 ⟨rfl, hv⟩
      have hx := hx.trans (hv.mono hx.size)
     try go_simp
     refine hK.out _ _ (fun _ => hx) ?_
     have hHeld := hx
     clear hK K
    try simp only [Act.put, List.getElem_toArray, List.getElem_cons_succ, List.getElem_cons_zero, List.setIfInBounds_toArray, List.set_cons_zero, List.set_cons_succ]
   refine jS.done (by kernel_rfl) ?_
   go_wp2_with fail
   go_meet
   exact ⟨congrArg Value.bool (by rw [E.out]; simp_all), hx⟩
 case rest =>
 obtain ⟨rfl, h⟩ := hcut
 obtain ⟨hb, hr⟩ := row_step hb hr h
 rcases pG (A9 D) with p | p <;> rw [p] at OK ⊢
 case' inr =>
  go_wp2
  go_ret
  exact ⟨by rw [OK.out]; rfl, hb⟩
 clear p h e9 HA H78 H76 H70
 go_upto_region 11 with fail
 go_cut [89] (fun s wx => s = .bool (!A11 D) ∧ Below wc.heap.size wc wx)
 case first =>
  have c5 := ah hr.out 5 _ rfl
  have c6 := ah hr.out 6 _ rfl
  have c7 := ah hr.out 7 _ rfl
  have c8 := ah hr.out 8 _ rfl
  have c9 := ah hr.out 9 _ rfl
  have E := Lib.hid e11
  have T := Lib.hid (HT1.out _ hb)
  have Z := Lib.hid (HB1.out wc)
  clear e11 e13 e15 OK
  go_wp2_with (first
   |((with_reducible refine (H84.out _).mono ?_); rintro e W1 ⟨rfl, rfl⟩)
   |((with_reducible refine T.out.mono ?_); rintro e W1 ⟨rfl, h⟩)
   |((with_reducible refine Z.out.mono ?_); rintro e W1 ⟨rfl, h⟩))
  all_goals
   go_meet
   exact ⟨congrArg Value.bool (by rw [E.out]; simp_all), h⟩
 case rest =>
 obtain ⟨rfl, h⟩ := hcut
 obtain ⟨hb, hr⟩ := row_step hb hr h
 rcases pG (A11 D) with p | p <;> rw [p] at OK ⊢
 case' inr =>
  go_wp2
  go_ret
  exact ⟨by rw [OK.out]; simp, hb⟩
 clear p h e11 HT1 HB1 H84
 go_upto_region 13 with fail
 go_cut [112] (fun s wx => s = .bool (!A13 D) ∧ Below wc.heap.size wc wx)
 case first =>
  have c21 := ah hr.out 21 _ rfl
  rw [ko] at e13
  have E := Lib.hid e13
  have N := Lib.hid (HN.out use)
  clear e13 e15 OK
  generalize (fG kind || rQ kind) = m at E H85
  generalize bO use = o at E N
  generalize fG kind = n at E H80
  rcases xC use with rfl | ⟨hz0, hz1, hz2⟩
  case' inl => cases n
  case' inr => cases m
  case' inr.true => cases o
  all_goals
   go_wp2_with (first
    |((with_reducible refine (H85.out _).mono ?_); rintro e W1 ⟨rfl, rfl⟩)
    |((with_reducible refine (H80.out _).mono ?_); rintro e W1 ⟨rfl, rfl⟩)
    |((with_reducible refine (N.out _).mono ?_); rintro e W1 ⟨rfl, h⟩; obtain ⟨-, hr⟩ := row_step hb hr h; have c21 := ah hr.out 21 _ rfl))
   go_meet
   refine ⟨congrArg Value.bool (by rw [E.out]; simp_all), ?_⟩
   first | exact h | exact Below.refl _ _
 case rest =>
 obtain ⟨rfl, h⟩ := hcut
 obtain ⟨hb, hr⟩ := row_step hb hr h
 rcases pG (A13 D) with p | p <;> rw [p] at OK ⊢
 case' inr =>
  go_wp2
  go_ret
  exact ⟨by rw [OK.out]; simp, hb⟩
 clear p h e13 HN H85
 have c10 := ah hr.out 10 _ rfl
 have c11 := ah hr.out 11 _ rfl
 have c12 := ah hr.out 12 _ rfl
 have c13 := ah hr.out 13 _ rfl
 have c14 := ah hr.out 14 _ rfl
 have c15 := ah hr.out 15 _ rfl
 have c16 := ah hr.out 16 _ rfl
 have c17 := ah hr.out 17 _ rfl
 have c18 := ah hr.out 18 _ rfl
 have c19 := ah hr.out 19 _ rfl
 have c20 := ah hr.out 20 _ rfl
 have T := Lib.hid (HT2.out _ hb)
 have Z := Lib.hid (HB2.out wc)
 have g1 : (proto == (⟨#[99, 114, 97, 115, 104]⟩ : ByteArray)) = (proto.toList == [99, 114, 97, 115, 104]) := by rw [← jD, ByteArray.toList_eq ((⟨#[99, 114, 97, 115, 104]⟩ : ByteArray))]
 have g2 : (proto == (⟨#[98, 121, 122, 97, 110, 116, 105, 110, 101]⟩ : ByteArray)) = (proto.toList == [98, 121, 122, 97, 110, 116, 105, 110, 101]) := by rw [← jD, ByteArray.toList_eq ((⟨#[98, 121, 122, 97, 110, 116, 105, 110, 101]⟩ : ByteArray))]
 rw [g1, g2, ko] at e15
 have E := Lib.hid e15
 clear g1 g2 e15
 go_wp2_with (first
  |((with_reducible refine (H80.out _).mono ?_); rintro e W1 ⟨rfl, rfl⟩)
  |((with_reducible refine T.out.mono ?_); rintro e W1 ⟨rfl, h⟩; obtain ⟨hb, hr⟩ := row_step hb hr h; have c16 := ah hr.out 16 _ rfl; have c17 := ah hr.out 17 _ rfl; have c18 := ah hr.out 18 _ rfl; have c19 := ah hr.out 19 _ rfl; have c20 := ah hr.out 20 _ rfl; have T2 := Lib.hid (HT3.out _ hb))
  |((with_reducible refine Z.out.mono ?_); rintro e W1 ⟨rfl, h⟩; obtain ⟨hb, hr⟩ := row_step hb hr h; have c16 := ah hr.out 16 _ rfl; have c17 := ah hr.out 17 _ rfl; have c18 := ah hr.out 18 _ rfl; have c19 := ah hr.out 19 _ rfl; have c20 := ah hr.out 20 _ rfl; have Z2 := Lib.hid (HB3.out W1))
  |((with_reducible refine T2.out.mono ?_); rintro e W1 ⟨rfl, h⟩; obtain ⟨hb, hr⟩ := row_step hb hr h)
  |((with_reducible refine Z2.out.mono ?_); rintro e W1 ⟨rfl, h⟩; obtain ⟨hb, hr⟩ := row_step hb hr h))
 all_goals
  go_ret
  exact ⟨congrArg (fun b => Ending.returned (.bool b)) (by rw [OK.out, E.out]; simp_all), hb⟩
end Go.Proofs.YtbmglebipepdmaaGreatDoor
