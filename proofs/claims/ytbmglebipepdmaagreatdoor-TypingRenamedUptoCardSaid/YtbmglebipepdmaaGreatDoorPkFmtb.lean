/- The contract of the program's text of a declaration: declText, one theorem a kind. gX by gen_fdecl.py. The contracts of sized, Format, MZ, Valid. -/
import Derived.Test.YtbmglebipepdmaaGreatDoorPkMem
import Derived.Test.YtbmglebipepdmaaGreatDoorPkFmta
import Derived.Test.YtbmglebipepdmaaGreatDoorPkPlain
namespace Go.Proofs.YtbmglebipepdmaaGreatDoor
open Go.RowKit

def TLim (d : Dc) : Prop := d.names.length ≤ 1000000000 ∧ d.faults.length ≤ 10000 ∧ (∀ f ∈ d.faults, f.ay.length + f.ak.length ≤ 100000000) ∧ au d.term ≤ 1000000000 ∧ au d.read ≤ 1000000000 ∧ au d.write ≤ 1000000000
theorem GU {b : List UInt8} (h : dR b = true) : b.length ≤ 24 := by
 obtain ⟨c, r, rfl, -, hl, -⟩ := kU h
 exact hl
theorem cat5 (a b c d e : List UInt8) (A B C D E : ByteArray) (ha : A = bs a) (hb : B = bs b) (hc : C = bs c) (hd : D = bs d) (he : E = bs e) : A ++ B ++ C ++ D ++ E = bs (a ++ b ++ c ++ d ++ e) := by rw [ha, hb, hc, hd, he, bV, bV, bV, bV]

set_option maxRecDepth 100000 in
set_option maxHeartbeats 4000000 in
theorem MH (line : Int) (name : ByteArray) (names : List ByteArray) (faults : List Ft) (term : Tm) (proto : ByteArray) (read write : Tm) (use : ByteArray) (nA : Option Addr) (nc : Nat) (fA : Option Addr) (fc : Nat) (o1 : Int) (m1 : ByteArray) (d1 : Int) (wA1 : Option Addr) (wn1 wc1 : Nat) (kA1 : Option Addr) (kn1 kc1 : Nat) (o2 : Int) (m2 : ByteArray) (d2 : Int) (wA2 : Option Addr) (wn2 wc2 : Nat) (kA2 : Option Addr) (kn2 kc2 : Nat) (o3 : Int) (m3 : ByteArray) (d3 : Int) (wA3 : Option Addr) (wn3 wc3 : Nat) (kA3 : Option Addr) (kn3 kc3 : Nat) (w : World) (S : Nat → Prop) (hS : ∀ g, S g → g < w.heap.size)
  (hnm : name.size ≤ 24) (hs : aL w S 1 nA names.length (names.map Value.string)) (hl : names.length ≤ nc) (hon : bg names = true) (hlim : names.length ≤ 1000000000) :
  Calls Tryz.prog 98 #[.agg #[.int .i64 1, .int .i64 line, .string name, .slice nA names.length nc, .slice fA faults.length fc, .int .i64 o1, .string m1, .int .i64 d1, .slice wA1 wn1 wc1, .slice kA1 kn1 kc1, .string proto, .int .i64 o2, .string m2, .int .i64 d2, .slice wA2 wn2 wc2, .slice kA2 kn2 kc2, .int .i64 o3, .string m3, .int .i64 d3, .slice wA3 wn3 wc3, .slice kA3 kn3 kc3, .string use]] w fun e w' => e = .returned (.string (bs (fP ⟨1, line, name, names, faults, term, proto, read, write, use⟩))) ∧ Below w.heap.size w w' := by
 have hbA : ∀ o, Below w.heap.size w (w.alloc o) := fun o => (Below.refl _ _).alloc (Nat.le_refl _) o
 have hnb := fT hon
 obtain ⟨TN, hTN⟩ : ∃ T : ByteArray, T = bs (dV names) := ⟨_, rfl⟩
 have hTNs : TN.size ≤ 26000000000 := by rw [hTN, cK]; omega
 have HN := Lib.hid hs
 have HL := Lib.hid (fun (W : World) (hb : Below w.heap.size w W) => show Calls Tryz.prog 123 #[.slice nA names.length nc] W (fun e w' => e = .returned (.string TN) ∧ Below W.heap.size W w') by rw [hTN]; exact sU names nA nc W S (HN.out.keep (aA hb hS)) (fun g hg => by have := hS g hg; have := hb.size; omega) hl (by omega) (by omega))
 have HTN := Lib.hid hTN
 clear hs hon hnb hTN
 go_enter Tryz.func98, Tryz.ntmps98
 go_upto_region 3 with fail
 obtain ⟨W0, hW0⟩ : ∃ W0 : World, W0 = w.alloc (.cells (tO 1 line name nA names.length nc fA faults.length fc o1 m1 d1 wA1 wn1 wc1 kA1 kn1 kc1 proto o2 m2 d2 wA2 wn2 wc2 kA2 kn2 kc2 o3 m3 d3 wA3 wn3 wc3 kA3 kn3 kc3 use) 41) := ⟨_, rfl⟩
 have hb0 : Below w.heap.size w W0 := by rw [hW0]; exact hbA _
 have hs0 : w.heap.size < W0.heap.size := by rw [hW0]; simp
 have hr0 : W0.heap[w.heap.size]? = some (.cells (tO 1 line name nA names.length nc fA faults.length fc o1 m1 d1 wA1 wn1 wc1 kA1 kn1 kc1 proto o2 m2 d2 wA2 wn2 wc2 kA2 kn2 kc2 o3 m3 d3 wA3 wn3 wc3 kA3 kn3 kc3 use) 41 (0, 0)) := by rw [hW0]; exact heap_alloc_new w _
 rw [← hW0]
 have HR0 := Lib.hid hr0
 clear hW0 hr0
 have ks2 : ¬ (9223372036854775807 < 5 + name.size) := by omega
 have ks3 : ¬ (9223372036854775807 < 5 + name.size + 3) := by omega
 have ks4 : ¬ (9223372036854775807 < 5 + name.size + 3 + TN.size) := by omega
 have ks5 : ¬ (9223372036854775807 < 5 + name.size + 3 + TN.size + 3) := by omega
 have c2 := ai HR0.out 2 _ rfl
 have c3 := ai HR0.out 3 _ rfl
 go_region_held3 (fun w' => w'.cell? ⟨w.heap.size, 2, none⟩ = some (.string name) ∧ w'.cell? ⟨w.heap.size, 3, none⟩ = some (.slice nA names.length nc)) (first | go_keep | (refine ⟨?_, ?_⟩ <;> (rw [hb2.cell (by simp; omega)]; go_keep)))
  (first | (go_at_call 123; (refine (HL.out _ (below_drewN hb0 _)).mono ?_; rintro e w2 ⟨rfl, hb2⟩)))
 all_goals (
  go_wp2
  go_ret
  refine ⟨congrArg (fun b => Ending.returned (.string b)) ?_, (below_drewN hb0 _).trans (hb2.mono (by simp; omega))⟩
  exact cat5 _ _ _ _ _ _ _ _ _ _ rfl (dS name).symm rfl HTN.out rfl)

set_option maxRecDepth 100000 in
set_option maxHeartbeats 4000000 in
theorem MC (line : Int) (name : ByteArray) (names : List ByteArray) (faults : List Ft) (term : Tm) (proto : ByteArray) (read write : Tm) (use : ByteArray) (nA : Option Addr) (nc : Nat) (fA : Option Addr) (fc : Nat) (o1 : Int) (m1 : ByteArray) (d1 : Int) (wA1 : Option Addr) (wn1 wc1 : Nat) (kA1 : Option Addr) (kn1 kc1 : Nat) (o2 : Int) (m2 : ByteArray) (d2 : Int) (wA2 : Option Addr) (wn2 wc2 : Nat) (kA2 : Option Addr) (kn2 kc2 : Nat) (o3 : Int) (m3 : ByteArray) (d3 : Int) (wA3 : Option Addr) (wn3 wc3 : Nat) (kA3 : Option Addr) (kn3 kc3 : Nat) (w : World) (S : Nat → Prop) (hS : ∀ g, S g → g < w.heap.size)
  (hs : aL w S 1 nA names.length (names.map Value.string)) (hl : names.length ≤ nc) (hon : bg names = true) (hlim : names.length ≤ 1000000000) :
  Calls Tryz.prog 98 #[.agg #[.int .i64 5, .int .i64 line, .string name, .slice nA names.length nc, .slice fA faults.length fc, .int .i64 o1, .string m1, .int .i64 d1, .slice wA1 wn1 wc1, .slice kA1 kn1 kc1, .string proto, .int .i64 o2, .string m2, .int .i64 d2, .slice wA2 wn2 wc2, .slice kA2 kn2 kc2, .int .i64 o3, .string m3, .int .i64 d3, .slice wA3 wn3 wc3, .slice kA3 kn3 kc3, .string use]] w fun e w' => e = .returned (.string (bs (fP ⟨5, line, name, names, faults, term, proto, read, write, use⟩))) ∧ Below w.heap.size w w' := by
 have hbA : ∀ o, Below w.heap.size w (w.alloc o) := fun o => (Below.refl _ _).alloc (Nat.le_refl _) o
 have hnb := fT hon
 obtain ⟨TN, hTN⟩ : ∃ T : ByteArray, T = bs (dV names) := ⟨_, rfl⟩
 have hTNs : TN.size ≤ 26000000000 := by rw [hTN, cK]; omega
 have HN := Lib.hid hs
 have HL := Lib.hid (fun (W : World) (hb : Below w.heap.size w W) => show Calls Tryz.prog 123 #[.slice nA names.length nc] W (fun e w' => e = .returned (.string TN) ∧ Below W.heap.size W w') by rw [hTN]; exact sU names nA nc W S (HN.out.keep (aA hb hS)) (fun g hg => by have := hS g hg; have := hb.size; omega) hl (by omega) (by omega))
 have HTN := Lib.hid hTN
 clear hs hon hnb hTN
 go_enter Tryz.func98, Tryz.ntmps98
 go_wp2_with fail
 refine (HL.out _ (hbA _)).mono ?_
 rintro e w2 ⟨rfl, hb2⟩
 go_wp2
 go_ret
 refine ⟨congrArg (fun b => Ending.returned (.string b)) ?_, (hbA _).trans (hb2.mono (by simp))⟩
 exact yj _ _ _ _ _ _ rfl HTN.out rfl

set_option maxRecDepth 100000 in
set_option maxHeartbeats 4000000 in
theorem Mx (line : Int) (name : ByteArray) (names : List ByteArray) (faults : List Ft) (term : Tm) (proto : ByteArray) (read write : Tm) (use : ByteArray) (nA : Option Addr) (nc : Nat) (fA : Option Addr) (fc : Nat) (o1 : Int) (m1 : ByteArray) (d1 : Int) (wA1 : Option Addr) (wn1 wc1 : Nat) (kA1 : Option Addr) (kn1 kc1 : Nat) (o2 : Int) (m2 : ByteArray) (d2 : Int) (wA2 : Option Addr) (wn2 wc2 : Nat) (kA2 : Option Addr) (kn2 kc2 : Nat) (o3 : Int) (m3 : ByteArray) (d3 : Int) (wA3 : Option Addr) (wn3 wc3 : Nat) (kA3 : Option Addr) (kn3 kc3 : Nat) (w : World) (S : Nat → Prop) (hS : ∀ g, S g → g < w.heap.size)
  (hs : aL w S 1 nA names.length (names.map Value.string)) (hl : names.length ≤ nc) (hon : bg names = true) (hlim : names.length ≤ 1000000000) :
  Calls Tryz.prog 98 #[.agg #[.int .i64 7, .int .i64 line, .string name, .slice nA names.length nc, .slice fA faults.length fc, .int .i64 o1, .string m1, .int .i64 d1, .slice wA1 wn1 wc1, .slice kA1 kn1 kc1, .string proto, .int .i64 o2, .string m2, .int .i64 d2, .slice wA2 wn2 wc2, .slice kA2 kn2 kc2, .int .i64 o3, .string m3, .int .i64 d3, .slice wA3 wn3 wc3, .slice kA3 kn3 kc3, .string use]] w fun e w' => e = .returned (.string (bs (fP ⟨7, line, name, names, faults, term, proto, read, write, use⟩))) ∧ Below w.heap.size w w' := by
 have hbA : ∀ o, Below w.heap.size w (w.alloc o) := fun o => (Below.refl _ _).alloc (Nat.le_refl _) o
 have hnb := fT hon
 obtain ⟨TN, hTN⟩ : ∃ T : ByteArray, T = bs (dV names) := ⟨_, rfl⟩
 have hTNs : TN.size ≤ 26000000000 := by rw [hTN, cK]; omega
 have HN := Lib.hid hs
 have HL := Lib.hid (fun (W : World) (hb : Below w.heap.size w W) => show Calls Tryz.prog 123 #[.slice nA names.length nc] W (fun e w' => e = .returned (.string TN) ∧ Below W.heap.size W w') by rw [hTN]; exact sU names nA nc W S (HN.out.keep (aA hb hS)) (fun g hg => by have := hS g hg; have := hb.size; omega) hl (by omega) (by omega))
 have HTN := Lib.hid hTN
 clear hs hon hnb hTN
 go_enter Tryz.func98, Tryz.ntmps98
 go_wp2_with fail
 refine (HL.out _ (hbA _)).mono ?_
 rintro e w2 ⟨rfl, hb2⟩
 go_wp2
 go_ret
 refine ⟨congrArg (fun b => Ending.returned (.string b)) ?_, (hbA _).trans (hb2.mono (by simp))⟩
 exact yj _ _ _ _ _ _ rfl HTN.out rfl

set_option maxRecDepth 100000 in
set_option maxHeartbeats 4000000 in
theorem MF (line : Int) (name : ByteArray) (names : List ByteArray) (faults : List Ft) (term : Tm) (proto : ByteArray) (read write : Tm) (use : ByteArray) (nA : Option Addr) (nc : Nat) (fA : Option Addr) (fc : Nat) (o1 : Int) (m1 : ByteArray) (d1 : Int) (wA1 : Option Addr) (wn1 wc1 : Nat) (kA1 : Option Addr) (kn1 kc1 : Nat) (o2 : Int) (m2 : ByteArray) (d2 : Int) (wA2 : Option Addr) (wn2 wc2 : Nat) (kA2 : Option Addr) (kn2 kc2 : Nat) (o3 : Int) (m3 : ByteArray) (d3 : Int) (wA3 : Option Addr) (wn3 wc3 : Nat) (kA3 : Option Addr) (kn3 kc3 : Nat) (w : World) (S : Nat → Prop) (hS : ∀ g, S g → g < w.heap.size)
  (hnm : name.size ≤ 24) (hv1 : eG w S term (.agg #[.int .i64 o1, .string m1, .int .i64 d1, .slice wA1 wn1 wc1, .slice kA1 kn1 kc1])) (hok1 : iZ term = true) (hlim1 : au term ≤ 1000000000) (hpw : Pow w) :
  Calls Tryz.prog 98 #[.agg #[.int .i64 3, .int .i64 line, .string name, .slice nA names.length nc, .slice fA faults.length fc, .int .i64 o1, .string m1, .int .i64 d1, .slice wA1 wn1 wc1, .slice kA1 kn1 kc1, .string proto, .int .i64 o2, .string m2, .int .i64 d2, .slice wA2 wn2 wc2, .slice kA2 kn2 kc2, .int .i64 o3, .string m3, .int .i64 d3, .slice wA3 wn3 wc3, .slice kA3 kn3 kc3, .string use]] w fun e w' => e = .returned (.string (bs (fP ⟨3, line, name, names, faults, term, proto, read, write, use⟩))) ∧ Below w.heap.size w w' := by
 have hbA : ∀ o, Below w.heap.size w (w.alloc o) := fun o => (Below.refl _ _).alloc (Nat.le_refl _) o
 have htl1 := fM hok1
 obtain ⟨T1, hT1⟩ : ∃ T : ByteArray, T = bs (aU term) := ⟨_, rfl⟩
 have hTs1 : T1.size ≤ 48000000000 := by rw [hT1, cK]; omega
 have HV1 := Lib.hid hv1
 have HT1 := Lib.hid (fun (W : World) (hb : Below w.heap.size w W) => show Calls Tryz.prog 93 #[.agg #[.int .i64 o1, .string m1, .int .i64 d1, .slice wA1 wn1 wc1, .slice kA1 kn1 kc1]] W (fun e w' => e = .returned (.string T1) ∧ Below W.heap.size W w') by rw [hT1]; exact oH term _ W S (HV1.out.keep (aA hb hS)) (fun g hg => by have := hS g hg; have := hb.size; omega) hok1 hlim1 (hpw.below hb))
 have HE1 := Lib.hid hT1
 clear hv1 htl1 hT1
 go_enter Tryz.func98, Tryz.ntmps98
 go_upto_region 13 with fail
 obtain ⟨W0, hW0⟩ : ∃ W0 : World, W0 = w.alloc (.cells (tO 3 line name nA names.length nc fA faults.length fc o1 m1 d1 wA1 wn1 wc1 kA1 kn1 kc1 proto o2 m2 d2 wA2 wn2 wc2 kA2 kn2 kc2 o3 m3 d3 wA3 wn3 wc3 kA3 kn3 kc3 use) 41) := ⟨_, rfl⟩
 have hb0 : Below w.heap.size w W0 := by rw [hW0]; exact hbA _
 have hs0 : w.heap.size < W0.heap.size := by rw [hW0]; simp
 have hr0 : W0.heap[w.heap.size]? = some (.cells (tO 3 line name nA names.length nc fA faults.length fc o1 m1 d1 wA1 wn1 wc1 kA1 kn1 kc1 proto o2 m2 d2 wA2 wn2 wc2 kA2 kn2 kc2 o3 m3 d3 wA3 wn3 wc3 kA3 kn3 kc3 use) 41 (0, 0)) := by rw [hW0]; exact heap_alloc_new w _
 rw [← hW0]
 have HR0 := Lib.hid hr0
 clear hW0 hr0
 have ks2 : ¬ (9223372036854775807 < 7 + name.size) := by omega
 have ks3 : ¬ (9223372036854775807 < 7 + name.size + 3) := by omega
 have ks4 : ¬ (9223372036854775807 < 7 + name.size + 3 + T1.size) := by omega
 have ks5 : ¬ (9223372036854775807 < 7 + name.size + 3 + T1.size + 1) := by omega
 have c2 := ai HR0.out 2 _ rfl
 have c5 := ai HR0.out 5 _ rfl
 have c6 := ai HR0.out 6 _ rfl
 have c7 := ai HR0.out 7 _ rfl
 have c8 := ai HR0.out 8 _ rfl
 have c9 := ai HR0.out 9 _ rfl
 go_region_held3 (fun w' => w'.cell? ⟨w.heap.size, 2, none⟩ = some (.string name) ∧ w'.cell? ⟨w.heap.size, 5, none⟩ = some (.int .i64 o1) ∧ w'.cell? ⟨w.heap.size, 6, none⟩ = some (.string m1) ∧ w'.cell? ⟨w.heap.size, 7, none⟩ = some (.int .i64 d1) ∧ w'.cell? ⟨w.heap.size, 8, none⟩ = some (.slice wA1 wn1 wc1) ∧ w'.cell? ⟨w.heap.size, 9, none⟩ = some (.slice kA1 kn1 kc1)) (first | go_keep | (refine ⟨?_, ?_, ?_, ?_, ?_, ?_⟩ <;> (rw [hb2.cell (by simp; omega)]; go_keep)))
  (first | (go_at_call 93; (refine (HT1.out _ (below_drewN hb0 _)).mono ?_; rintro e w2 ⟨rfl, hb2⟩)))
 all_goals (
  go_wp2
  go_ret
  refine ⟨congrArg (fun b => Ending.returned (.string b)) ?_, (below_drewN hb0 _).trans (hb2.mono (by simp; omega))⟩
  exact cat5 _ _ _ _ _ _ _ _ _ _ rfl (dS name).symm rfl HE1.out rfl)

set_option maxRecDepth 100000 in
set_option maxHeartbeats 4000000 in
theorem MB (line : Int) (name : ByteArray) (names : List ByteArray) (faults : List Ft) (term : Tm) (proto : ByteArray) (read write : Tm) (use : ByteArray) (nA : Option Addr) (nc : Nat) (fA : Option Addr) (fc : Nat) (o1 : Int) (m1 : ByteArray) (d1 : Int) (wA1 : Option Addr) (wn1 wc1 : Nat) (kA1 : Option Addr) (kn1 kc1 : Nat) (o2 : Int) (m2 : ByteArray) (d2 : Int) (wA2 : Option Addr) (wn2 wc2 : Nat) (kA2 : Option Addr) (kn2 kc2 : Nat) (o3 : Int) (m3 : ByteArray) (d3 : Int) (wA3 : Option Addr) (wn3 wc3 : Nat) (kA3 : Option Addr) (kn3 kc3 : Nat) (w : World) (S : Nat → Prop) (_hS : ∀ g, S g → g < w.heap.size)
  (hnm : name.size ≤ 24) (hus : use.size ≤ 24) :
  Calls Tryz.prog 98 #[.agg #[.int .i64 6, .int .i64 line, .string name, .slice nA names.length nc, .slice fA faults.length fc, .int .i64 o1, .string m1, .int .i64 d1, .slice wA1 wn1 wc1, .slice kA1 kn1 kc1, .string proto, .int .i64 o2, .string m2, .int .i64 d2, .slice wA2 wn2 wc2, .slice kA2 kn2 kc2, .int .i64 o3, .string m3, .int .i64 d3, .slice wA3 wn3 wc3, .slice kA3 kn3 kc3, .string use]] w fun e w' => e = .returned (.string (bs (fP ⟨6, line, name, names, faults, term, proto, read, write, use⟩))) ∧ Below w.heap.size w w' := by
 have hbA : ∀ o, Below w.heap.size w (w.alloc o) := fun o => (Below.refl _ _).alloc (Nat.le_refl _) o
 by_cases zu : use.size = 0
 ·obtain rfl := pF zu
  clear zu hus
  go_enter Tryz.func98, Tryz.ntmps98
  go_wp2
  go_ret
  refine ⟨congrArg (fun b => Ending.returned (.string b)) ?_, hbA _⟩
  exact yj _ _ _ _ _ _ rfl (dS name).symm rfl
 ·have hpu : 0 < use.size := by omega
  have hnu2 := gT hpu
  have hnu := bP hpu
  have E := Lib.hid (show fP ⟨6, line, name, names, faults, term, proto, read, write, use⟩ = [99, 108, 105, 101, 110, 116, 32] ++ name.data.toList ++ [32, 102, 97, 117, 108, 116, 115, 32] ++ use.data.toList ++ [59] by
   exact if_neg zu)
  clear zu
  go_enter Tryz.func98, Tryz.ntmps98
  go_wp2
  go_ret
  refine ⟨congrArg (fun b => Ending.returned (.string b)) ?_, hbA _⟩
  rw [E.out]
  exact cat5 _ _ _ _ _ _ _ _ _ _ rfl (dS name).symm rfl (dS use).symm rfl

theorem JK (line : Int) (name : ByteArray) (names : List ByteArray) (faults : List Ft) (term : Tm) (proto : ByteArray) (read write : Tm) (use : ByteArray) (T2 T3 : ByteArray) (h2 : T2 = bs (aU read)) (h3 : T3 = bs (aU write)) :
  (⟨#[99, 111, 110, 102, 105, 103, 32]⟩ : ByteArray) ++ name ++ (⟨#[32]⟩ : ByteArray) ++ proto ++ (⟨#[32, 114, 101, 97, 100, 32]⟩ : ByteArray) ++ T2 ++ (⟨#[32, 119, 114, 105, 116, 101, 32]⟩ : ByteArray) ++ T3 ++ (⟨#[32, 102, 97, 117, 108, 116, 115, 32]⟩ : ByteArray) ++ use ++ (⟨#[59]⟩ : ByteArray) = bs (fP ⟨4, line, name, names, faults, term, proto, read, write, use⟩) := by
 have e : fP ⟨4, line, name, names, faults, term, proto, read, write, use⟩ = [99, 111, 110, 102, 105, 103, 32] ++ name.data.toList ++ [32] ++ proto.data.toList ++ [32, 114, 101, 97, 100, 32] ++ aU read ++ [32, 119, 114, 105, 116, 101, 32] ++ aU write ++ [32, 102, 97, 117, 108, 116, 115, 32] ++ use.data.toList ++ [59] := rfl
 rw [e]
 refine cat2 _ _ _ _ (cat5 _ _ _ _ _ _ _ _ _ _ (cat5 _ _ _ _ _ _ _ _ _ _ (cat2 _ _ _ _ rfl (dS name).symm) rfl (dS proto).symm rfl h2) rfl h3 rfl (dS use).symm) rfl

set_option maxRecDepth 100000 in
set_option maxHeartbeats 4000000 in
theorem ME (line : Int) (name : ByteArray) (names : List ByteArray) (faults : List Ft) (term : Tm) (proto : ByteArray) (read write : Tm) (use : ByteArray) (nA : Option Addr) (nc : Nat) (fA : Option Addr) (fc : Nat) (o1 : Int) (m1 : ByteArray) (d1 : Int) (wA1 : Option Addr) (wn1 wc1 : Nat) (kA1 : Option Addr) (kn1 kc1 : Nat) (o2 : Int) (m2 : ByteArray) (d2 : Int) (wA2 : Option Addr) (wn2 wc2 : Nat) (kA2 : Option Addr) (kn2 kc2 : Nat) (o3 : Int) (m3 : ByteArray) (d3 : Int) (wA3 : Option Addr) (wn3 wc3 : Nat) (kA3 : Option Addr) (kn3 kc3 : Nat) (w : World) (S : Nat → Prop) (hS : ∀ g, S g → g < w.heap.size)
  (hnm : name.size ≤ 24) (hpr : proto.size ≤ 24) (hus : use.size ≤ 24) (hv2 : eG w S read (.agg #[.int .i64 o2, .string m2, .int .i64 d2, .slice wA2 wn2 wc2, .slice kA2 kn2 kc2])) (hok2 : iZ read = true) (LU : au read ≤ 1000000000) (hv3 : eG w S write (.agg #[.int .i64 o3, .string m3, .int .i64 d3, .slice wA3 wn3 wc3, .slice kA3 kn3 kc3])) (hok3 : iZ write = true) (hlim3 : au write ≤ 1000000000) (hpw : Pow w) :
  Calls Tryz.prog 98 #[.agg #[.int .i64 4, .int .i64 line, .string name, .slice nA names.length nc, .slice fA faults.length fc, .int .i64 o1, .string m1, .int .i64 d1, .slice wA1 wn1 wc1, .slice kA1 kn1 kc1, .string proto, .int .i64 o2, .string m2, .int .i64 d2, .slice wA2 wn2 wc2, .slice kA2 kn2 kc2, .int .i64 o3, .string m3, .int .i64 d3, .slice wA3 wn3 wc3, .slice kA3 kn3 kc3, .string use]] w fun e w' => e = .returned (.string (bs (fP ⟨4, line, name, names, faults, term, proto, read, write, use⟩))) ∧ Below w.heap.size w w' := by
 have hbA : ∀ o, Below w.heap.size w (w.alloc o) := fun o => (Below.refl _ _).alloc (Nat.le_refl _) o
 have htl2 := fM hok2
 obtain ⟨T2, hT2⟩ : ∃ T : ByteArray, T = bs (aU read) := ⟨_, rfl⟩
 have hTs2 : T2.size ≤ 48000000000 := by rw [hT2, cK]; omega
 have HV2 := Lib.hid hv2
 have HT2 := Lib.hid (fun (W : World) (hb : Below w.heap.size w W) => show Calls Tryz.prog 93 #[.agg #[.int .i64 o2, .string m2, .int .i64 d2, .slice wA2 wn2 wc2, .slice kA2 kn2 kc2]] W (fun e w' => e = .returned (.string T2) ∧ Below W.heap.size W w') by rw [hT2]; exact oH read _ W S (HV2.out.keep (aA hb hS)) (fun g hg => by have := hS g hg; have := hb.size; omega) hok2 LU (hpw.below hb))
 have HE2 := Lib.hid hT2
 clear hv2 htl2 hT2
 have htl3 := fM hok3
 obtain ⟨T3, hT3⟩ : ∃ T : ByteArray, T = bs (aU write) := ⟨_, rfl⟩
 have hTs3 : T3.size ≤ 48000000000 := by rw [hT3, cK]; omega
 have HV3 := Lib.hid hv3
 have HT3 := Lib.hid (fun (W : World) (hb : Below w.heap.size w W) => show Calls Tryz.prog 93 #[.agg #[.int .i64 o3, .string m3, .int .i64 d3, .slice wA3 wn3 wc3, .slice kA3 kn3 kc3]] W (fun e w' => e = .returned (.string T3) ∧ Below W.heap.size W w') by rw [hT3]; exact oH write _ W S (HV3.out.keep (aA hb hS)) (fun g hg => by have := hS g hg; have := hb.size; omega) hok3 hlim3 (hpw.below hb))
 have HE3 := Lib.hid hT3
 clear hv3 htl3 hT3
 have E := Lib.hid (JK line name names faults term proto read write use T2 T3 HE2.out HE3.out)
 go_enter Tryz.func98, Tryz.ntmps98
 go_upto_region 15 with fail
 obtain ⟨W0, hW0⟩ : ∃ W0 : World, W0 = w.alloc (.cells (tO 4 line name nA names.length nc fA faults.length fc o1 m1 d1 wA1 wn1 wc1 kA1 kn1 kc1 proto o2 m2 d2 wA2 wn2 wc2 kA2 kn2 kc2 o3 m3 d3 wA3 wn3 wc3 kA3 kn3 kc3 use) 41) := ⟨_, rfl⟩
 have hb0 : Below w.heap.size w W0 := by rw [hW0]; exact hbA _
 have hs0 : w.heap.size < W0.heap.size := by rw [hW0]; simp
 have hr0 : W0.heap[w.heap.size]? = some (.cells (tO 4 line name nA names.length nc fA faults.length fc o1 m1 d1 wA1 wn1 wc1 kA1 kn1 kc1 proto o2 m2 d2 wA2 wn2 wc2 kA2 kn2 kc2 o3 m3 d3 wA3 wn3 wc3 kA3 kn3 kc3 use) 41 (0, 0)) := by rw [hW0]; exact heap_alloc_new w _
 rw [← hW0]
 have HR0 := Lib.hid hr0
 clear hW0 hr0
 have ks2 : ¬ (9223372036854775807 < 7 + name.size) := by omega
 have ks3 : ¬ (9223372036854775807 < 7 + name.size + 1) := by omega
 have ks4 : ¬ (9223372036854775807 < 7 + name.size + 1 + proto.size) := by omega
 have ks5 : ¬ (9223372036854775807 < 7 + name.size + 1 + proto.size + 6) := by omega
 have ks6 : ¬ (9223372036854775807 < 7 + name.size + 1 + proto.size + 6 + T2.size) := by omega
 have ks7 : ¬ (9223372036854775807 < 7 + name.size + 1 + proto.size + 6 + T2.size + 7) := by omega
 have ks8 : ¬ (9223372036854775807 < 7 + name.size + 1 + proto.size + 6 + T2.size + 7 + T3.size) := by omega
 have ks9 : ¬ (9223372036854775807 < 7 + name.size + 1 + proto.size + 6 + T2.size + 7 + T3.size + 8) := by omega
 have ks10 : ¬ (9223372036854775807 < 7 + name.size + 1 + proto.size + 6 + T2.size + 7 + T3.size + 8 + use.size) := by omega
 have ks11 : ¬ (9223372036854775807 < 7 + name.size + 1 + proto.size + 6 + T2.size + 7 + T3.size + 8 + use.size + 1) := by omega
 refine aZ.start (fun w' => Below W0.heap.size W0 w') [] [0, 1, 2, 3, 4, 5, 6, 7, 8, 9, 13, 14, 18, 19, 10, 11, 12, 15, 16, 17, 20, 21, 22] (by kernel_rfl) (Below.refl _ _).drew (fun bx => ?_)
 repeat
  first
  |refine aZ.take (v := ?_) rfl (by decide +kernel) (by rfl) (fun _ _ _ h => h) bx ?_ ?_
   rotate_left
   focus
    intro w9 h9
    have r9 := (h9.block _ hs0).trans HR0.out
    have z2 := ai r9 2 _ rfl; have z10 := ai r9 10 _ rfl; have z11 := ai r9 11 _ rfl; have z12 := ai r9 12 _ rfl; have z13 := ai r9 13 _ rfl; have z14 := ai r9 14 _ rfl; have z15 := ai r9 15 _ rfl; have z16 := ai r9 16 _ rfl; have z17 := ai r9 17 _ rfl; have z18 := ai r9 18 _ rfl; have z19 := ai r9 19 _ rfl; have z20 := ai r9 20 _ rfl; have z21 := ai r9 21 _ rfl
    go_simp
    (try with_reducible rfl)
    done
  |refine aZ.call rfl (by decide +kernel) (by rfl) (fun K hK => ?_)
   go_simp
   go_at_call 93
   first
   |(with_reducible refine (HT2.out _ (hb0.trans (bx.mono hb0.size))).mono ?_); rintro e w2 ⟨rfl, hb2⟩
   |(with_reducible refine (HT3.out _ (hb0.trans (bx.mono hb0.size))).mono ?_); rintro e w2 ⟨rfl, hb2⟩
   have bx := bx.trans (hb2.mono bx.size)
   try go_simp
   refine hK.out _ _ (fun _ => bx) ?_
   clear hK K
  try simp only [Act.put, List.getElem_toArray, List.getElem_cons_succ, List.getElem_cons_zero, List.setIfInBounds_toArray, List.set_cons_zero, List.set_cons_succ]
 refine aZ.done (by decide +kernel) ?_
 go_wp2
 go_ret
 exact ⟨congrArg (fun b => Ending.returned (.string b)) E.out, hb0.trans (bx.mono hb0.size)⟩

def qN (l : List Ft) : List ByteArray := l.map fun f => bs (iB f)
theorem F4 (l : List Ft) (k : Nat) (h : k < l.length) : qN (l.take (k + 1)) = qN (l.take k) ++ [bs (iB l[k])] := by
 unfold qN; rw [List.take_succ_eq_append_getElem h, List.map_append]; rfl
theorem tX (l : List Ft) (sep : List UInt8) : joined (qN l) sep = Lib.join (l.map iB) sep := by
 unfold joined qN lst
 rw [List.map_map]
 congr 1
theorem ft_lens (l : List Ft) (h : ∀ f ∈ l, (iB f).length ≤ 2700000000) : Lib.lens (l.map iB) ≤ 2700000000 * l.length := by
 induction l with
 |nil => simp [Lib.lens]
 |cons f r ih =>
  have a := h f (by simp)
  have b := ih (fun q hq => h q (by simp [hq]))
  rw [List.map_cons, lens_cons, List.length_cons]; omega
theorem rY {w : World} {S : Nat → Prop} {A : Option Addr} {l : List Ft} (h : aT (lm w S) w S 6 A l) {i : Nat} (hi : i < l.length) :
  ∃ g o op nm x y bA bn bc cA cn cc, A = some ⟨g, o, none⟩ ∧ S g ∧ lm w S l[i] (.agg #[.int .i64 op, .string nm, .int .i64 x, .int .i64 y, .slice bA bn bc, .slice cA cn cc]) ∧ w.cell? ⟨g, o + i * 6, none⟩ = some (.int .i64 op) ∧ w.cell? ⟨g, o + i * 6 + 1, none⟩ = some (.string nm) ∧
   w.cell? ⟨g, o + i * 6 + 2, none⟩ = some (.int .i64 x) ∧ w.cell? ⟨g, o + i * 6 + 3, none⟩ = some (.int .i64 y) ∧ w.cell? ⟨g, o + i * 6 + 4, none⟩ = some (.slice bA bn bc) ∧ w.cell? ⟨g, o + i * 6 + 5, none⟩ = some (.slice cA cn cc) := by
 obtain ⟨g, o, v, hA, hS, hp, hc⟩ := fJ (fun x v h => by obtain ⟨bA, bc, cA, cc, rfl, -⟩ := h; rfl) h hi
 have hp2 := hp
 obtain ⟨bA, bc, cA, cc, rfl, -⟩ := hp
 exact ⟨g, o, _, _, _, _, _, _, _, _, _, _, hA, hS, hp2, hc 0 _ rfl, hc 1 _ rfl, hc 2 _ rfl, hc 3 _ rfl, hc 4 _ rfl, hc 5 _ rfl⟩

set_option maxRecDepth 100000 in
set_option maxHeartbeats 4000000 in
theorem MG (line : Int) (name : ByteArray) (names : List ByteArray) (faults : List Ft) (term : Tm) (proto : ByteArray) (read write : Tm) (use : ByteArray) (nA : Option Addr) (nc : Nat) (fA : Option Addr) (fc : Nat) (o1 : Int) (m1 : ByteArray) (d1 : Int) (wA1 : Option Addr) (wn1 wc1 : Nat) (kA1 : Option Addr) (kn1 kc1 : Nat) (o2 : Int) (m2 : ByteArray) (d2 : Int) (wA2 : Option Addr) (wn2 wc2 : Nat) (kA2 : Option Addr) (kn2 kc2 : Nat) (o3 : Int) (m3 : ByteArray) (d3 : Int) (wA3 : Option Addr) (wn3 wc3 : Nat) (kA3 : Option Addr) (kn3 kc3 : Nat) (w : World) (S : Nat → Prop) (hS : ∀ g, S g → g < w.heap.size)
  (hnm : name.size ≤ 24) (hf : aT (lm w S) w S 6 fA faults) (hof : faults.all jG = true) (hlf : faults.length ≤ 10000) (hln : ∀ f ∈ faults, f.ay.length + f.ak.length ≤ 100000000) (hpw : Pow w) :
  Calls Tryz.prog 98 #[.agg #[.int .i64 2, .int .i64 line, .string name, .slice nA names.length nc, .slice fA faults.length fc, .int .i64 o1, .string m1, .int .i64 d1, .slice wA1 wn1 wc1, .slice kA1 kn1 kc1, .string proto, .int .i64 o2, .string m2, .int .i64 d2, .slice wA2 wn2 wc2, .slice kA2 kn2 kc2, .int .i64 o3, .string m3, .int .i64 d3, .slice wA3 wn3 wc3, .slice kA3 kn3 kc3, .string use]] w fun e w' => e = .returned (.string (bs (fP ⟨2, line, name, names, faults, term, proto, read, write, use⟩))) ∧ Below w.heap.size w w' := by
 have hbA : ∀ o, Below w.heap.size w (w.alloc o) := fun o => (Below.refl _ _).alloc (Nat.le_refl _) o
 have HF := Lib.hid hf
 have HOF := Lib.hid (List.all_eq_true.1 hof)
 have HLN := Lib.hid hln
 have HP := Lib.hid hpw
 clear hf hof hln hpw
 go_enter Tryz.func98, Tryz.ntmps98
 go_upto_region 7 with fail
 obtain ⟨W0, hW0⟩ : ∃ W0 : World, W0 = w.alloc (.cells (tO 2 line name nA names.length nc fA faults.length fc o1 m1 d1 wA1 wn1 wc1 kA1 kn1 kc1 proto o2 m2 d2 wA2 wn2 wc2 kA2 kn2 kc2 o3 m3 d3 wA3 wn3 wc3 kA3 kn3 kc3 use) 41) := ⟨_, rfl⟩
 have hb0 : Below w.heap.size w W0 := by rw [hW0]; exact hbA _
 have hs0 : w.heap.size < W0.heap.size := by rw [hW0]; simp
 have hr0 : W0.heap[w.heap.size]? = some (.cells (tO 2 line name nA names.length nc fA faults.length fc o1 m1 d1 wA1 wn1 wc1 kA1 kn1 kc1 proto o2 m2 d2 wA2 wn2 wc2 kA2 kn2 kc2 o3 m3 d3 wA3 wn3 wc3 kA3 kn3 kc3 use) 41 (0, 0)) := by rw [hW0]; exact heap_alloc_new w _
 rw [← hW0]
 have HR0 := Lib.hid hr0
 clear hW0 hr0
 have c4 := ai HR0.out 4 _ rfl
 go_wp2
 go_loopw [3, 24] (fun v x wr => ∃ k : Nat, k ≤ faults.length ∧ x = .int .i64 k ∧ wr.ownsRow W0.heap.size 9 1 v k (aC (qN (faults.take k))) ∧ Below W0.heap.size W0 wr) (fun _ x _ => faults.length - (intOf x).toNat)
 case atStart => exact ⟨0, Nat.zero_le _, rfl, World.ownsRow_nil _ _ _ _, Below.refl _ _⟩
 case round =>
  obtain ⟨k, hk, rfl, hown, hb⟩ := hrel
  have hsr := hb.size
  have hbw : Below w.heap.size w wr := hb0.trans (hb.mono (Nat.le_of_lt hs0))
  have hrr := (hb.block _ hs0).trans HR0.out
  by_cases hlt : k < faults.length
  ·have hfr := HF.out.keep (P' := lm wr S) (aA hbw hS) (fun _ _ h => h.keep (aA hbw hS))
   obtain ⟨g, o, op, fn, x, y, bA, bn, bc, cA, cn, cc, rfl, hSg, hft, k0, k1, k2, k3, k4, k5⟩ := rY hfr hlt
   have hgs : g < wr.heap.size := by have := hS g hSg; have := hbw.size; omega
   have hkI : (k : Int) < (faults.length : Int) := by omega
   have hk0 : (0 : Int) ≤ (k : Int) := by omega
   obtain ⟨t, ht⟩ : ∃ t, t = faults[k] := ⟨_, rfl⟩
   have hmem : t ∈ faults := by rw [ht]; exact List.getElem_mem hlt
   rw [← ht] at hft
   have HTX := Lib.hid ht
   have hl1 := nQ (HOF.out t hmem)
   have hl2 := HLN.out t hmem
   have hbA : ∀ o, Below wr.heap.size wr (wr.alloc o) := fun o => (Below.refl _ _).alloc (Nat.le_refl _) o
   have HC := Lib.hid (fun o => Ee t _ (wr.alloc o) S (hft.keep (aP (hbA o))) (fun g hg => by have := hS g hg; have := hbw.size; simp; omega) (HOF.out t hmem) (by omega) ((HP.out.below hbw).below (hbA o)))
   obtain ⟨T, hTT⟩ : ∃ T : ByteArray, T = bs (iB t) := ⟨_, rfl⟩
   have hTs : T.size ≤ 2700000000 := by rw [hTT, cK]; omega
   have HTT := Lib.hid hTT
   clear ht hft hfr hTT c4 hrr hl1 hl2
   go_wp2_with fail
   refine (HC.out _).mono ?_
   rintro e W1 ⟨rfl, hb1⟩
   rw [← HTT.out]
   have hs1 := hb1.size
   rw [show (wr.alloc (.cells #[.int .i64 op, .string fn, .int .i64 x, .int .i64 y, .slice bA bn bc, .slice cA cn cc] 82)).heap.size = wr.heap.size + 1 by simp] at hs1 hb1
   have hw1 : Below wr.heap.size wr W1 := (hbA _).trans (hb1.mono (by omega))
   have hbx1 : Below W0.heap.size W0 W1 := hb.trans (hw1.mono hsr)
   have hown1 := own_below hown hw1 (Nat.le_refl _)
   have hsw1 : W0.heap.size ≤ W1.heap.size := hbx1.size
   clear k0 k1 k2 k3 k4 k5 HC hown
   go_wp2_with (at_builtin; refine eX W1 rfl (.tmp 28) (.tmp 31) rfl W0.heap.size _ _ _ hown1 rfl T rfl (by omega) hsw1 ?_; intro v' w3 hown3 hg3 hv3)
   go_roundw
   case rel =>
    refine ⟨k + 1, by omega, by go_num, ?_, hbx1.trans (aM hown1 hg3 hsw1)⟩
    rw [F4 _ _ hlt, jB, ← HTX.out, ← HTT.out]; exact hown3
   case measure => simp [intOf]; omega
  ·obtain rfl : k = faults.length := by omega
   obtain ⟨A9, c9, rfl, hc9⟩ := aS hown
   rw [List.take_length] at hown
   have hlen : (qN faults).length = faults.length := by simp [qN]
   have hjl : (Lib.join (faults.map iB) [32, 124, 32]).length ≤ 28000000000000 := by
    have a := join_length_le (faults.map iB) [32, 124, 32]
    have b := ft_lens faults (fun f hf => by have := nQ (HOF.out f hf); have := HLN.out f hf; omega)
    simp only [List.length_cons, List.length_nil, List.length_map] at a
    omega
   obtain ⟨J, hJ⟩ : ∃ J : ByteArray, J = bs (Lib.join (faults.map iB) [32, 124, 32]) := ⟨_, rfl⟩
   have hJs : J.size ≤ 28000000000000 := by rw [hJ, cK]; exact hjl
   have HOWN := Lib.hid hown
   have HLEN := Lib.hid hlen
   have HJE := Lib.hid hJ
   have HJ := Lib.hid (fun (n : Nat) => show Calls Tryz.prog 133 #[.slice A9 faults.length c9, .string ⟨#[32, 124, 32]⟩] (wr.drewN n) (fun e w' => e = .returned (.string J) ∧ Below (wr.drewN n).heap.size (wr.drewN n) w') by
    have h := sV (qN faults) A9 c9 ⟨#[32, 124, 32]⟩ (wr.drewN n) (· < (wr.drewN n).heap.size) (by rw [HLEN.out]; exact (aL.own (own_drewN HOWN.out n)).mono (fun g _ h => h) (by decide)) (fun g h => h) (by rw [HLEN.out]; exact hc9) (by rw [tX]; exact Nat.le_trans hjl (by omega)) (by rw [HLEN.out]; omega)
    rw [HLEN.out, tX, ← hJ] at h; exact h)
   have c2 := ai hrr 2 _ rfl
   have hkI : ¬ (faults.length : Int) < (faults.length : Int) := by omega
   have ks2 : ¬ (9223372036854775807 < 7 + name.size) := by omega
   have ks3 : ¬ (9223372036854775807 < 7 + name.size + 3) := by omega
   have ks4 : ¬ (9223372036854775807 < 7 + name.size + 3 + J.size) := by omega
   have ks5 : ¬ (9223372036854775807 < 7 + name.size + 3 + J.size + 1) := by omega
   clear hJ hjl hlen hown hrr c4
   go_upto_region 11 with fail
   go_region_held3 (fun w' => w'.cell? ⟨w.heap.size, 2, none⟩ = some (.string name)) (first | go_keep | (rw [hb2.cell (by simp; omega)]; go_keep))
    (first | (go_at_call 133; (refine (HJ.out _).mono ?_; rintro e w2 ⟨rfl, hb2⟩)))
   all_goals (
    go_wp2
    go_ret
    refine ⟨congrArg (fun b => Ending.returned (.string b)) ?_, (below_drewN hbw _).trans (hb2.mono (by simp; exact hbw.size))⟩
    exact cat5 _ _ _ _ _ _ _ _ _ _ rfl (dS name).symm rfl HJE.out rfl)

theorem Gq (d : Dc) (v : Value) (w : World) (S : Nat → Prop) (hd : fo w S d v) (hS : ∀ g, S g → g < w.heap.size) (hok : jK d = true) (hlim : TLim d) (hpw : Pow w) :
  Calls Tryz.prog 98 #[v] w fun e w' => e = .returned (.string (bs (fP d))) ∧ Below w.heap.size w w' := by
 have h := wO hok
 obtain ⟨kind, line, name, names, faults, term, proto, read, write, use⟩ := d
 obtain ⟨nA, nc, fA, fc, vt, vr, vw, rfl, h1, h2, h3, h4, h5, h6, h7⟩ := hd
 obtain ⟨o1, m1, d1, wA1, wn1, wc1, kA1, kn1, kc1, rfl⟩ := h5.form
 obtain ⟨o2, m2, d2, wA2, wn2, wc2, kA2, kn2, kc2, rfl⟩ := h6.form
 obtain ⟨o3, m3, d3, wA3, wn3, wc3, kA3, kn3, kc3, rfl⟩ := h7.form
 obtain ⟨l1, l2, l3, l4, l5, l6⟩ := hlim
 simp only at h1 h2 h3 h4 h5 h6 h7 l1 l2 l3 l4 l5 l6
 simp only [Value.cells, List.append_toArray, List.cons_append, List.nil_append]
 have nm : ∀ {x : ByteArray}, bG x = true → x.size ≤ 24 := fun h => (lH h).1
 rcases sj h with hk | hk | hk | hk | hk | hk | hk <;> (simp only at hk; subst hk)
 ·exact MH line name names faults term proto read write use nA nc fA fc o1 m1 d1 wA1 wn1 wc1 kA1 kn1 kc1 o2 m2 d2 wA2 wn2 wc2 kA2 kn2 kc2 o3 m3 d3 wA3 wn3 wc3 kA3 kn3 kc3 w S hS (nm (dY h (show hasName 1 = true by decide))) h1 h2 h.names l1
 ·exact MG line name names faults term proto read write use nA nc fA fc o1 m1 d1 wA1 wn1 wc1 kA1 kn1 kc1 o2 m2 d2 wA2 wn2 wc2 kA2 kn2 kc2 o3 m3 d3 wA3 wn3 wc3 kA3 kn3 kc3 w S hS (nm (dY h (show hasName 2 = true by decide))) h3 h.faults l2 l3 hpw
 ·exact MF line name names faults term proto read write use nA nc fA fc o1 m1 d1 wA1 wn1 wc1 kA1 kn1 kc1 o2 m2 d2 wA2 wn2 wc2 kA2 kn2 kc2 o3 m3 d3 wA3 wn3 wc3 kA3 kn3 kc3 w S hS (nm (dY h (show hasName 3 = true by decide))) h5 (by have ht := h.term; rw [if_pos (show kY 3 = true by decide)] at ht; exact ht) l4 hpw
 ·obtain ⟨hp, hr, hw, hu⟩ := xK h (show fO 4 = true by decide)
  have hp2 : proto.size ≤ 24 := by have := GU (vF hp); simpa using this
  exact ME line name names faults term proto read write use nA nc fA fc o1 m1 d1 wA1 wn1 wc1 kA1 kn1 kc1 o2 m2 d2 wA2 wn2 wc2 kA2 kn2 kc2 o3 m3 d3 wA3 wn3 wc3 kA3 kn3 kc3 w S hS (nm (dY h (show hasName 4 = true by decide))) hp2 (nm hu) h6 hr l5 h7 hw l6 hpw
 ·exact MC line name names faults term proto read write use nA nc fA fc o1 m1 d1 wA1 wn1 wc1 kA1 kn1 kc1 o2 m2 d2 wA2 wn2 wc2 kA2 kn2 kc2 o3 m3 d3 wA3 wn3 wc3 kA3 kn3 kc3 w S hS h1 h2 h.names l1
 ·have hu : use.size ≤ 24 := by
   rcases h.use with h | h
   ·have h : use.size = 0 := h
    omega
   ·exact nm h
  exact MB line name names faults term proto read write use nA nc fA fc o1 m1 d1 wA1 wn1 wc1 kA1 kn1 kc1 o2 m2 d2 wA2 wn2 wc2 kA2 kn2 kc2 o3 m3 d3 wA3 wn3 wc3 kA3 kn3 kc3 w S hS (nm (dY h (show hasName 6 = true by decide))) hu
 ·exact Mx line name names faults term proto read write use nA nc fA fc o1 m1 d1 wA1 wn1 wc1 kA1 kn1 kc1 o2 m2 d2 wA2 wn2 wc2 kA2 kn2 kc2 o3 m3 d3 wA3 wn3 wc3 kA3 kn3 kc3 w S hS h1 h2 h.names l1

end Go.Proofs.YtbmglebipepdmaaGreatDoor
namespace Go.Proofs.YtbmglebipepdmaaGreatDoor
open Go.RowKit Go.Shelf

theorem KF (B b : Nat) (l : List UInt8) (s : ByteArray) (w : World) (h : Lib.IsBuilder 120 5 B b (Lib.byteCells l) w) (hlen : l.length + s.size ≤ 140737488355328) (hBw : B ≤ w.heap.size) :
  Calls Tryz.prog 97 #[.pointer (some ⟨b, 0, none⟩), .string s] w fun e w' => e = .returned (.tuple #[.int .i64 s.size, .nilIface]) ∧ (Lib.IsBuilder 120 5 B b (Lib.byteCells (l ++ s.data.toList)) w' ∧ Below B w w') := by
 refine (Any.Builder_WriteString (ρ := Tryz.lays156_ren) { Tryz.lays156 with } Tryz.Builder_Extra_156 B b (Lib.byteCells l) s w h (by simpa [Lib.byteCells] using hlen) hBw).mono fun e w' hh => ⟨hh.1, ?_, hh.2.2⟩
 have e : Lib.byteCells (l ++ s.data.toList) = Lib.byteCells l ++ Lib.strCells s := by simp [Lib.byteCells, Lib.strCells]
 rw [e]
 exact Or.inr hh.2.1
theorem tZ {T e B b : Nat} {xs : List Value} {w w' : World} (h : Lib.IsBuilder T e B b xs w) (hb : Below w.heap.size w w') : Lib.IsBuilder T e B b xs w' := by
 have key : ∀ p, Lib.BuilderAt T e B b p xs w → Lib.BuilderAt T e B b p xs w' := by
  intro p hp
  obtain ⟨h1, v, h2, h3, h4⟩ := hp
  exact ⟨h1, v, by rw [hb.block b (lt_of_block h2)]; exact h2, own_below h3 hb (Nat.le_refl _), h4⟩
 rcases h with h | h
 ·exact Or.inl (key _ h)
 ·exact Or.inr (key _ h)

theorem sized_ps (l : List UInt8) : nL l = decide (psE l = 0) := by
 unfold nL psE
 by_cases h1 : 65536 < l.length
 ·rw [if_pos h1]
  have : decide (l.length ≤ 65536) = false := decide_eq_false (by omega)
  rw [this]; rfl
 ·rw [if_neg h1, decide_eq_true (show l.length ≤ 65536 by omega)]
  by_cases h2 : (lex l 1 []).2.2 ≠ 0
  ·rw [if_pos h2, decide_eq_false h2]; rfl
  ·have h2' : (lex l 1 []).2.2 = 0 := by simpa using h2
   rw [if_neg h2, decide_eq_true h2']
   by_cases h3 : 3000 < (lex l 1 []).1.length
   ·rw [if_pos h3, decide_eq_false (by omega)]; rfl
   ·rw [if_neg h3, decide_eq_true (by omega)]; rfl
set_option maxHeartbeats 1000000 in
theorem Fq (s : ByteArray) (w : World) : Calls Tryz.prog 92 #[.string s] w fun e w' => e = .returned (.tuple #[.string (bs (iK s.data.toList).1), .int .i64 (iK s.data.toList).2]) ∧ Below w.heap.size w w' := by
 have HP := Lib.hid (Dz s w)
 have E := Lib.hid (sized_ps s.data.toList)
 go_enter Tryz.func92, Tryz.ntmps92
 go_wp2_with fail
 refine HP.out.mono ?_
 rintro e W ⟨b, A, n, c, rfl, hbb, hp, hb⟩
 obtain ⟨l0, hl0, -⟩ := hp.blk
 obtain ⟨c0, c1, c2, c3, -⟩ := row4 hl0
 clear hl0 hp
 simp only at c0 c1 c2 c3
 by_cases he : psE s.data.toList = 0
 ·have e1 : iK s.data.toList = (s.data.toList, 0) := by unfold iK; rw [E.out, decide_eq_true he]; rfl
  have hz : (((psE s.data.toList : Nat) : Int) != 0) = false := by rw [he]; rfl
  have E1 := Lib.hid e1
  clear e1 he
  go_wp2
  go_ret2
  rw [E1.out]
  exact ⟨by simp only [dS]; rfl, hb⟩
 ·have e1 : iK s.data.toList = ([], 3) := by unfold iK; rw [E.out, decide_eq_false he]; rfl
  have hz : (((psE s.data.toList : Nat) : Int) != 0) = true := gY he
  have E1 := Lib.hid e1
  clear e1 he
  go_wp2
  go_ret2
  rw [E1.out]
  exact ⟨rfl, hb⟩

theorem TLim.lim {d : Dc} (h : TLim d) : DcLim d := by
 obtain ⟨h1, h2, h3, h4, h5, h6⟩ := h
 exact ⟨by omega, by omega, fun f hf => by have := h3 f hf; omega, by omega, by omega, by omega⟩
set_option maxRecDepth 100000 in
set_option maxHeartbeats 4000000 in
theorem decl_test (w : World) (S : Nat → Prop) (l : List Dc) (hS : ∀ g, S g → g < w.heap.size) (hz : ∀ d ∈ l, DcLim d) : Tests (fun W x v => fo W S x v) w 95 l (fun d => !jK d) := by
 intro x hx v W htm hb
 obtain ⟨nA, nc, fA, fc, o1, m1, d1, wA1, wn1, wc1, kA1, kn1, kc1, o2, m2, d2, wA2, wn2, wc2, kA2, kn2, kc2, o3, m3, d3, wA3, wn3, wc3, kA3, kn3, kc3, rfl⟩ := uQ htm
 have hsz := hb.size
 have hbA : ∀ o, Below W.heap.size W (W.alloc o) := fun o => (Below.refl _ _).alloc (Nat.le_refl _) o
 have HV := Lib.hid (fun o => CW x _ (W.alloc o) S (htm.keep (aP (hbA o))) (fun g hg => by have := hS g hg; simp; omega) (hz x hx))
 clear htm
 go_enter Tryz.func95, Tryz.ntmps95
 go_wp2_with (with_reducible refine eD _ rfl (.tmp 1) rfl W.heap.size rfl _ (heap_alloc_new W _) rfl ?_)
 refine (HV.out _).mono ?_
 rintro e w' ⟨rfl, hb2⟩
 go_wp2
 go_ret
 exact ⟨rfl, (hbA _).trans (hb2.mono (by simp))⟩

theorem Gw (l : List Dc) (k : Nat) (h : k < l.length) : dm (l.take (k + 1)) = dm (l.take k) ++ (fP l[k] ++ [10]) := by
 unfold dm
 rw [List.take_succ_eq_append_getElem h, List.flatMap_append]; simp
theorem Gv (l : List Dc) (k : Nat) : (dm (l.take k)).length ≤ (dm l).length := by
 have e : dm l = dm (l.take k) ++ dm (l.drop k) := by
  unfold dm
  rw [← List.flatMap_append, List.take_append_drop]
 rw [e, List.length_append]; omega
set_option maxRecDepth 100000 in
set_option maxHeartbeats 8000000 in
theorem LZ (l : List Dc) (A : Option Addr) (c : Nat) (w : World) (S : Nat → Prop) (hl : aT (fo w S) w S 22 A l) (hS : ∀ g, S g → g < w.heap.size) (hlim : l.length ≤ 1000000000) (hz : ∀ d ∈ l, TLim d) (hlen : l.all jK = true → (dm l).length ≤ 100000000000000) (hpw : Pow w) :
  Calls Tryz.prog 61 #[.slice A l.length c] w fun e w' => e = .returned (.tuple #[.string (bs (bH l).1), .int .i64 (bH l).2]) ∧ Below w.heap.size w w' := by
 have HC := Lib.hid (wQ l S A c w hl hS (by omega) 95 (enters_of Tryz.func95 (by kernel_rfl) rfl) _ (decl_test w S l hS (fun d hd => (hz d hd).lim)))
 have HLS := Lib.hid hl
 have HZ := Lib.hid hz
 have HLE := Lib.hid hlen
 have HP := Lib.hid hpw
 clear hl hz hlen hpw
 go_enter Tryz.func61, Tryz.ntmps61
 go_wp2_with fail
 refine HC.out.mono ?_
 rintro e W1 ⟨rfl, hb1⟩
 have hs1 := hb1.size
 have eany : l.any (fun d => !jK d) = !l.all jK := by rw [List.not_all_eq_any_not]
 cases hok : l.all jK
 ·rw [eany, hok]
  have e1 : bH l = ([], 1) := by unfold bH; rw [hok]; rfl
  have E1 := Lib.hid e1
  clear e1 hok eany
  go_wp2
  go_ret2
  rw [E1.out]
  exact ⟨rfl, hb1⟩
 ·rw [eany, hok]
  have e1 : bH l = iK (dm l) := by unfold bH; rw [hok]; rfl
  have E1 := Lib.hid e1
  have HLN := Lib.hid (HLE.out hok)
  have HOK := Lib.hid (List.all_eq_true.1 hok)
  clear e1 hok eany
  go_wp2
  go_loopw [11] (fun x wr => ∃ k : Nat, k ≤ l.length ∧ x = .int .i64 k ∧ Lib.IsBuilder 120 5 W1.heap.size W1.heap.size (Lib.byteCells (dm (l.take k))) wr ∧ Below W1.heap.size W1 wr) (fun x _ => l.length - (intOf x).toNat)
  case atStart => exact ⟨0, Nat.zero_le _, rfl, Lib.fresh_isBuilder _ _ _, (Below.refl _ _).alloc (Nat.le_refl _) _⟩
  case round =>
   obtain ⟨k, hk, rfl, hbd, hb2⟩ := hrel
   have hsz2 := hb2.size
   have hbw : Below w.heap.size w wr := hb1.trans (hb2.mono hs1)
   by_cases hlt : k < l.length
   ·have hlr := HLS.out.keep (P' := fo wr S) (aA hbw hS) (fun _ _ h => h.keep (aA hbw hS))
    obtain ⟨g, o, v, rfl, hSg, htm, hcs⟩ := fJ (fun _ _ h => jE h) hlr hlt
    have hgs : g < wr.heap.size := by have := hS g hSg; have := hbw.size; omega
    obtain ⟨d, hd⟩ : ∃ d, d = l[k] := ⟨_, rfl⟩
    have hmem : d ∈ l := by rw [hd]; exact List.getElem_mem hlt
    rw [← hd] at htm
    have hsn := Gw l k hlt
    have htk := Gv l (k + 1)
    have hln := HLN.out
    rw [hsn, List.length_append, List.length_append] at htk
    rw [← hd] at hsn htk
    obtain ⟨cs, hcl, hone, rfl⟩ : ∃ cs : List Value, cs.length = 22 ∧ (∀ u ∈ cs, u.oneCell' = true) ∧ v = .agg cs.toArray := by
     obtain ⟨nA, nc, fA, fc, o1, m1, d1, wA1, wn1, wc1, kA1, kn1, kc1, o2, m2, d2, wA2, wn2, wc2, kA2, kn2, kc2, o3, m3, d3, wA3, wn3, wc3, kA3, kn3, kc3, hv⟩ := uQ htm
     refine ⟨_, rfl, ?_, hv⟩
     intro u hu
     simp only [List.mem_cons, List.not_mem_nil, or_false] at hu
     rcases hu with rfl | rfl | rfl | rfl | rfl | rfl | rfl | rfl | rfl | rfl | rfl | rfl | rfl | rfl | rfl | rfl | rfl | rfl | rfl | rfl | rfl | rfl <;> rfl
    have hrange : wr.rangeAt g (o + k * 22) cs := fun j u hu => hcs j u (by simpa [cellsOf, Value.cells] using hu)
    have ru : (Tryz.prog.info? 41).map (·.size) = some cs.length := by rw [hcl]; exact dJ
    have hone2 : cs.toArray.all (·.oneCell') = true := all_oneCell_toArray hone
    have hcs2 : cs.toArray.size = 22 := by simpa using hcl
    clear hcs
    have HTM := Lib.hid htm
    have HSN := Lib.hid hsn
    have yA := Lib.hid hone2
    have HCS := Lib.hid hcs2
    have hkI : (k : Int) < (l.length : Int) := by omega
    have hk0 : (0 : Int) ≤ (k : Int) := by omega
    obtain ⟨T, hT⟩ : ∃ T : ByteArray, T = bs (fP d) := ⟨_, rfl⟩
    have hTs : T.size ≤ 100000000000000 := by rw [hT, cK]; omega
    have HTE := Lib.hid hT
    have hbA : ∀ o, Below wr.heap.size wr (wr.alloc o) := fun o => (Below.refl _ _).alloc (Nat.le_refl _) o
    clear htm hd hlr hone hone2 hcs2 hT hsn
    go_wp2_with (first | (with_reducible refine wpList_load_mid rfl 41 (.tmp 13) rfl g (o + k * 22) rfl cs _ hrange Tryz.underlying41 rfl ru ?_) | (with_reducible refine eU _ rfl rfl (.tmp 6) (.tmp 14) rfl wr.heap.size cs.toArray rfl rfl _ (heap_alloc_new wr _) rfl HCS.out yA.out ?_; intro W5 hr5 hg5) | (with_reducible refine eD _ rfl (.tmp 6) rfl wr.heap.size rfl _ hr5 HCS.out ?_))
    have hb5 : Below wr.heap.size wr W5 := (hbA _).trans (below_grown hg5 (Nat.le_refl _) (by simp))
    have hs5 := hb5.size
    have Cg : Below w.heap.size w W5 := hbw.trans (hb5.mono hbw.size)
    have hbd5 := tZ hbd hb5
    clear hg5 hr5 hbd hrange
    refine (Gq d _ W5 S (HTM.out.keep (aP hb5)) (fun g hg => by have := hS g hg; have := Cg.size; omega) (HOK.out d hmem) (HZ.out d hmem) (HP.out.below Cg)).mono ?_
    rintro e W6 ⟨rfl, hb6⟩
    rw [← HTE.out]
    have hs6 := hb6.size
    have hbd6 := tZ hbd5 hb6
    have hTl : (T ++ (⟨#[10]⟩ : ByteArray)).size = T.size + 1 := by rw [ByteArray.size_append]; rfl
    have hTd : T.size = (fP d).length := by rw [HTE.out, cK]
    have hw8 : (dm (l.take k)).length + (T ++ (⟨#[10]⟩ : ByteArray)).size ≤ 140737488355328 := by rw [hTl, hTd]; simp only [List.length_cons, List.length_nil] at htk; omega
    have HW := Lib.hid (KF W1.heap.size W1.heap.size (dm (l.take k)) (T ++ (⟨#[10]⟩ : ByteArray)) W6 hbd6 hw8 (by omega))
    clear hbd5 hbd6 hTl hTd hw8 htk
    go_wp2_with fail
    refine HW.out.mono ?_
    rintro e W7 ⟨rfl, hbd7, hb7⟩
    have hx7 : Below W1.heap.size W1 W7 := ((hb2.trans (hb5.mono hsz2)).trans (hb6.mono (by omega))).trans hb7
    go_wp2
    go_roundw
    case rel =>
     refine ⟨k + 1, by omega, by go_num, ?_, hx7⟩
     rw [HSN.out]
     have e : (T ++ (⟨#[10]⟩ : ByteArray)).data.toList = fP d ++ [10] := by
      rw [HTE.out]
      show (bs _ ++ bs [10]).data.toList = _
      rw [bV, eZ]
     rw [← e]; exact hbd7
    case measure => simp [intOf]; omega
   ·obtain rfl : k = l.length := by omega
    have hkI : ¬ (l.length : Int) < (l.length : Int) := by omega
    rw [List.take_length] at hbd
    have HS := Lib.hid (Tryz.Builder_String_any W1.heap.size W1.heap.size (dm l) wr hbd hsz2)
    clear hbd
    go_wp2_with fail
    refine HS.out.mono ?_
    rintro e w5 ⟨rfl, hb5⟩
    go_wp2_with fail
    refine (Fq (bs (dm l)) w5).mono ?_
    rintro e w6 ⟨rfl, hb6⟩
    go_wp2
    go_ret2
    rw [E1.out, eZ]
    exact ⟨rfl, (hbw.trans (hb5.mono (by omega))).trans (hb6.mono (by have := hb5.size; have := hbw.size; omega))⟩

set_option maxHeartbeats 1000000 in
theorem valid_any (l : List Dc) (A : Option Addr) (c : Nat) (w : World) (S : Nat → Prop) (hl : aT (fo w S) w S 22 A l) (hS : ∀ g, S g → g < w.heap.size) (hlim : l.length ≤ 1000000000) (hz : ∀ d ∈ l, TLim d) (hlen : l.all jK = true → (dm l).length ≤ 100000000000000) (hpw : Pow w) :
  Calls Tryz.prog 35 #[.slice A l.length c] w fun e w' => e = .returned (.int .i64 (bH l).2) ∧ Below w.heap.size w w' := by
 have HF := Lib.hid (LZ l A c w S hl hS hlim hz hlen hpw)
 clear hl hz hlen hpw
 go_enter Tryz.func35, Tryz.ntmps35
 go_wp2_with fail
 refine HF.out.mono ?_
 rintro e w' ⟨rfl, hb⟩
 go_wp2
 go_ret
 exact ⟨rfl, hb⟩
end Go.Proofs.YtbmglebipepdmaaGreatDoor
