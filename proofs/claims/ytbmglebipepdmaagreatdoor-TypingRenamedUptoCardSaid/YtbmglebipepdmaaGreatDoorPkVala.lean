/- The contracts of slices.IndexFunc and slices.ContainsFunc at five element types, for any test. The contracts of slices.IndexFunc and slices.ContainsFunc at declarations. The contracts of the program's tests of terms: kK, bare, small, validTerm. -/
import Derived.Test.YtbmglebipepdmaaGreatDoorPkPare
import Derived.Test.YtbmglebipepdmaaGreatDoorPkPlain
import Derived.Shelf.Abstract
import Derived.Deep.MidRow
import Derived.Deep.DeepCutAuto
import Derived.Deep.CutBlock
namespace Go.Proofs.YtbmglebipepdmaaGreatDoor
open Go.RowKit

def Tests {α : Type} (P : World → α → Value → Prop) (w : World) (fid : Nat) (l : List α) (q : α → Bool) : Prop :=
 ∀ x ∈ l, ∀ (v : Value) (W : World), P W x v → Below w.heap.size w W → Calls Tryz.prog fid #[v] W fun e W' => e = .returned (.bool (q x)) ∧ Below W.heap.size W W'
def IPost {α : Type} (l : List α) (q : α → Bool) (w : World) (e : Ending) (w' : World) : Prop := (∃ z : Int, e = .returned (.int .i64 z) ∧ decide (0 ≤ z) = l.any q) ∧ Below w.heap.size w w'
theorem CQ {α : Type} {l : List α} {q : α → Bool} {k : Nat} (h : k < l.length) (hq : q l[k] = true) : l.any q = true := List.any_eq_true.2 ⟨l[k], List.getElem_mem h, hq⟩
theorem any_none {α : Type} {l : List α} {q : α → Bool} (h : ∀ j (hj : j < l.length), q l[j] = false) : l.any q = false := by
 rw [List.any_eq_false]
 intro x hx
 obtain ⟨j, hj, rfl⟩ := List.getElem_of_mem hx
 rw [h j hj]; simp
theorem aA {S : Nat → Prop} {w W : World} (hb : Below w.heap.size w W) (hS : ∀ g, S g → g < w.heap.size) : Kept S w W := fun g hg _ => hb.block g (hS g hg)
theorem one_cell {α : Type} {w : World} {S : Nat → Prop} {A : Option Addr} {l : List α} {f : α → Value} {i : Nat} (h : aL w S 1 A l.length (l.map f)) (hi : i < l.length) : ∃ g o, A = some ⟨g, o, none⟩ ∧ S g ∧ w.cell? ⟨g, o + i, none⟩ = some (f l[i]) := by
 obtain ⟨g, o, e, hS, hc⟩ := h.cells (by omega)
 exact ⟨g, o, e, hS, hc i _ (by rw [List.getElem?_map, List.getElem?_eq_getElem hi]; rfl)⟩
theorem flatN {m : Nat} {vs : List Value} (h : ∀ (i : Nat) (u : Value), vs[i]? = some u → (cellsOf u).length = m) : ∀ (i j : Nat) (u : Value), vs[i]? = some u → j < m → (vs.flatMap cellsOf)[i * m + j]? = (cellsOf u)[j]? := by
 induction vs with
 |nil => intro i j u hu; simp at hu
 |cons v r ih =>
  intro i j u hu hj
  have hv := h 0 v rfl
  rw [List.flatMap_cons]
  cases i with
  |zero =>
   simp at hu
   subst hu
   rw [List.getElem?_append_left (by omega)]; simp
  |succ i =>
   rw [List.getElem?_append_right (by rw [hv, Nat.succ_mul]; omega)]
   rw [show (i + 1) * m + j - (cellsOf v).length = i * m + j by rw [hv, Nat.succ_mul]; omega]
   exact ih (fun i u hu => h (i + 1) u (by simpa using hu)) i j u (by simpa using hu) hj
theorem fJ {α : Type} {m : Nat} {P : α → Value → Prop} {w : World} {S : Nat → Prop} {A : Option Addr} {l : List α} (hP : ∀ x v, P x v → (cellsOf v).length = m) (h : aT P w S m A l) {i : Nat} (hi : i < l.length) :
  ∃ g o v, A = some ⟨g, o, none⟩ ∧ S g ∧ P l[i] v ∧ ∀ j u, (cellsOf v)[j]? = some u → w.cell? ⟨g, o + i * m + j, none⟩ = some u := by
 obtain ⟨vs, h1, h2, h3⟩ := h
 obtain ⟨g, o, hA, hS, hc⟩ := h2.cells (by omega)
 have hp := h3 i l[i] (vs[i]'(by omega)) (List.getElem?_eq_getElem hi) (List.getElem?_eq_getElem _)
 refine ⟨g, o, _, hA, hS, hp, fun j u hu => ?_⟩
 have hj : j < m := by rw [← hP _ _ hp]; exact (List.getElem?_eq_some_iff.1 hu).1
 have := hc (i * m + j) u ((flatN (m := m) (fun i u hu => by
  have hi2 := (List.getElem?_eq_some_iff.1 hu).1
  exact hP _ _ (h3 i (l[i]'(by omega)) u (List.getElem?_eq_getElem _) hu)) i j _ (List.getElem?_eq_getElem (by omega)) hj).trans hu)
 rw [← Nat.add_assoc] at this
 exact this
theorem nT {w : World} {S : Nat → Prop} {A : Option Addr} {l : List Ft} (h : aT (lm w S) w S 6 A l) {i : Nat} (hi : i < l.length) :
  ∃ g o op nm by_ cr bA bn bc cA cn cc, A = some ⟨g, o, none⟩ ∧ S g ∧ lm w S l[i] (.agg #[.int .i64 op, .string nm, .int .i64 by_, .int .i64 cr, .slice bA bn bc, .slice cA cn cc]) ∧ w.cell? ⟨g, o + i * 6, none⟩ = some (.int .i64 op) ∧ w.cell? ⟨g, o + i * 6 + 1, none⟩ = some (.string nm) ∧
   w.cell? ⟨g, o + i * 6 + 2, none⟩ = some (.int .i64 by_) ∧ w.cell? ⟨g, o + i * 6 + 3, none⟩ = some (.int .i64 cr) ∧ w.cell? ⟨g, o + i * 6 + 4, none⟩ = some (.slice bA bn bc) ∧ w.cell? ⟨g, o + i * 6 + 5, none⟩ = some (.slice cA cn cc) := by
 obtain ⟨g, o, v, hA, hS, hp, hc⟩ := fJ (fun x v h => by obtain ⟨bA, bc, cA, cc, rfl, -⟩ := h; rfl) h hi
 have hp2 := hp
 obtain ⟨bA, bc, cA, cc, rfl, -⟩ := hp
 exact ⟨g, o, _, _, _, _, _, _, _, _, _, _, hA, hS, hp2, hc 0 _ rfl, hc 1 _ rfl, hc 2 _ rfl, hc 3 _ rfl, hc 4 _ rfl, hc 5 _ rfl⟩
theorem jE {w : World} {S : Nat → Prop} {d : Dc} {v : Value} (h : fo w S d v) : (cellsOf v).length = 22 := by
 obtain ⟨nA, nc, fA, fc, o1, m1, d1, wA1, wn1, wc1, kA1, kn1, kc1, o2, m2, d2, wA2, wn2, wc2, kA2, kn2, kc2, o3, m3, d3, wA3, wn3, wc3, kA3, kn3, kc3, rfl⟩ := uQ h
 rfl

set_option maxRecDepth 100000 in
set_option maxHeartbeats 4000000 in
theorem index_int (l : List Int) (S : Nat → Prop) (A : Option Addr) (c : Nat) (w : World) (hl : aL w S 1 A l.length (l.map (Value.int .i64))) (hS : ∀ g, S g → g < w.heap.size) (hlim : l.length ≤ 1000000000000)
  (fid : Nat) (he : ∀ (args : Array Value) (w : World), (callFunc fid args).run Tryz.prog w = .ok (.enter fid args) w) (q : Int → Bool) (hf : Tests (fun _ x v => v = .int .i64 x) w fid l q) :
  Calls Tryz.prog 144 #[.slice A l.length c, .func (.func fid) #[] #[]] w (IPost l q w) := by
 have HF := Lib.hid hf
 have HLS := Lib.hid hl
 clear hf hl
 go_enter Tryz.func144, Tryz.ntmps144
 go_wp2
 go_loopw [8] (fun x wr => ∃ k : Nat, k ≤ l.length ∧ x = .int .i64 k ∧ Hid (∀ j (hj : j < l.length), j < k → q l[j] = false) ∧ Below w.heap.size w wr) (fun x _ => l.length - (intOf x).toNat)
 case atStart => exact ⟨0, Nat.zero_le _, rfl, (fun j _ h => absurd h (by omega)), Below.refl _ _⟩
 case round =>
  obtain ⟨k, hk, rfl, hno, hb⟩ := hrel
  have hsz := hb.size
  by_cases hlt : k < l.length
  ·have hlr := HLS.out.keep (aA hb hS)
   obtain ⟨g, o, rfl, hSg, k0⟩ := one_cell hlr hlt
   have hgs : g < wr.heap.size := by have := hS g hSg; omega
   have hc := HF.out l[k] (List.getElem_mem hlt) _ wr rfl hb
   have hkI : (k : Int) < (l.length : Int) := by omega
   have hk0 : (0 : Int) ≤ (k : Int) := by omega
   cases hq : q l[k]
   ·rw [hq] at hc
    have HC := Lib.hid hc
    have HQ := Lib.hid hq
    clear hc hq hlr
    go_wp2_with fail
    refine HC.out.mono ?_
    rintro e W2 ⟨rfl, hb2⟩
    go_wp2
    go_roundw
    case rel =>
     refine ⟨k + 1, by omega, by go_num, ?_, hb.trans (hb2.mono hsz)⟩
     intro j hj hjk
     by_cases h9 : j < k
     ·exact hno.out j hj h9
     ·obtain rfl : j = k := by omega
      exact HQ.out
    case measure => simp [intOf]; omega
   ·rw [hq] at hc
    have HC := Lib.hid hc
    have HQ := Lib.hid (CQ hlt hq)
    clear hc hq hlr
    go_wp2_with fail
    refine HC.out.mono ?_
    rintro e W2 ⟨rfl, hb2⟩
    go_wp2
    go_ret
    refine ⟨⟨k, rfl, ?_⟩, hb.trans (hb2.mono hsz)⟩
    rw [HQ.out]; simp
  ·have HQ : Hid (l.any q = false) := Lib.hid (any_none (fun j hj => hno.out j hj (by omega)))
   have hkI : ¬ (k : Int) < (l.length : Int) := by omega
   go_wp2
   go_ret
   refine ⟨⟨-1, rfl, ?_⟩, hb⟩
   rw [HQ.out]; rfl
set_option maxHeartbeats 1000000 in
theorem GH (l : List Int) (S : Nat → Prop) (A : Option Addr) (c : Nat) (w : World) (hl : aL w S 1 A l.length (l.map (Value.int .i64))) (hS : ∀ g, S g → g < w.heap.size) (hlim : l.length ≤ 1000000000000)
  (fid : Nat) (he : ∀ (args : Array Value) (w : World), (callFunc fid args).run Tryz.prog w = .ok (.enter fid args) w) (q : Int → Bool) (hf : Tests (fun _ x v => v = .int .i64 x) w fid l q) :
  Calls Tryz.prog 117 #[.slice A l.length c, .func (.func fid) #[] #[]] w fun e w' => e = .returned (.bool (l.any q)) ∧ Below w.heap.size w w' := by
 have HC := Lib.hid (index_int l S A c w hl hS hlim fid he q hf)
 clear hl hf
 go_enter Tryz.func117, Tryz.ntmps117
 go_wp2_with fail
 refine HC.out.mono ?_
 rintro e w' ⟨⟨z, rfl, hz⟩, hb⟩
 have HZ := Lib.hid hz
 clear hz
 go_wp2
 go_ret
 refine ⟨?_, hb⟩
 show Ending.returned (.bool (decide (0 ≤ z))) = _
 rw [HZ.out]

set_option maxRecDepth 100000 in
set_option maxHeartbeats 4000000 in
theorem index_str (l : List ByteArray) (S : Nat → Prop) (A : Option Addr) (c : Nat) (w : World) (hl : aL w S 1 A l.length (l.map Value.string)) (hS : ∀ g, S g → g < w.heap.size) (hlim : l.length ≤ 1000000000000)
  (fid : Nat) (he : ∀ (args : Array Value) (w : World), (callFunc fid args).run Tryz.prog w = .ok (.enter fid args) w) (q : ByteArray → Bool) (hf : Tests (fun _ x v => v = .string x) w fid l q) :
  Calls Tryz.prog 163 #[.slice A l.length c, .func (.func fid) #[] #[]] w (IPost l q w) := by
 have HF := Lib.hid hf
 have HLS := Lib.hid hl
 clear hf hl
 go_enter Tryz.func163, Tryz.ntmps163
 go_wp2
 go_loopw [8] (fun x wr => ∃ k : Nat, k ≤ l.length ∧ x = .int .i64 k ∧ Hid (∀ j (hj : j < l.length), j < k → q l[j] = false) ∧ Below w.heap.size w wr) (fun x _ => l.length - (intOf x).toNat)
 case atStart => exact ⟨0, Nat.zero_le _, rfl, (fun j _ h => absurd h (by omega)), Below.refl _ _⟩
 case round =>
  obtain ⟨k, hk, rfl, hno, hb⟩ := hrel
  have hsz := hb.size
  by_cases hlt : k < l.length
  ·have hlr := HLS.out.keep (aA hb hS)
   obtain ⟨g, o, rfl, hSg, k0⟩ := one_cell hlr hlt
   have hgs : g < wr.heap.size := by have := hS g hSg; omega
   have hc := HF.out l[k] (List.getElem_mem hlt) _ wr rfl hb
   have hkI : (k : Int) < (l.length : Int) := by omega
   have hk0 : (0 : Int) ≤ (k : Int) := by omega
   cases hq : q l[k]
   ·rw [hq] at hc
    have HC := Lib.hid hc
    have HQ := Lib.hid hq
    clear hc hq hlr
    go_wp2_with fail
    refine HC.out.mono ?_
    rintro e W2 ⟨rfl, hb2⟩
    go_wp2
    go_roundw
    case rel =>
     refine ⟨k + 1, by omega, by go_num, ?_, hb.trans (hb2.mono hsz)⟩
     intro j hj hjk
     by_cases h9 : j < k
     ·exact hno.out j hj h9
     ·obtain rfl : j = k := by omega
      exact HQ.out
    case measure => simp [intOf]; omega
   ·rw [hq] at hc
    have HC := Lib.hid hc
    have HQ := Lib.hid (CQ hlt hq)
    clear hc hq hlr
    go_wp2_with fail
    refine HC.out.mono ?_
    rintro e W2 ⟨rfl, hb2⟩
    go_wp2
    go_ret
    refine ⟨⟨k, rfl, ?_⟩, hb.trans (hb2.mono hsz)⟩
    rw [HQ.out]; simp
  ·have HQ : Hid (l.any q = false) := Lib.hid (any_none (fun j hj => hno.out j hj (by omega)))
   have hkI : ¬ (k : Int) < (l.length : Int) := by omega
   go_wp2
   go_ret
   refine ⟨⟨-1, rfl, ?_⟩, hb⟩
   rw [HQ.out]; rfl
set_option maxHeartbeats 1000000 in
theorem GA (l : List ByteArray) (S : Nat → Prop) (A : Option Addr) (c : Nat) (w : World) (hl : aL w S 1 A l.length (l.map Value.string)) (hS : ∀ g, S g → g < w.heap.size) (hlim : l.length ≤ 1000000000000)
  (fid : Nat) (he : ∀ (args : Array Value) (w : World), (callFunc fid args).run Tryz.prog w = .ok (.enter fid args) w) (q : ByteArray → Bool) (hf : Tests (fun _ x v => v = .string x) w fid l q) :
  Calls Tryz.prog 147 #[.slice A l.length c, .func (.func fid) #[] #[]] w fun e w' => e = .returned (.bool (l.any q)) ∧ Below w.heap.size w w' := by
 have HC := Lib.hid (index_str l S A c w hl hS hlim fid he q hf)
 clear hl hf
 go_enter Tryz.func147, Tryz.ntmps147
 go_wp2_with fail
 refine HC.out.mono ?_
 rintro e w' ⟨⟨z, rfl, hz⟩, hb⟩
 have HZ := Lib.hid hz
 clear hz
 go_wp2
 go_ret
 refine ⟨?_, hb⟩
 show Ending.returned (.bool (decide (0 ≤ z))) = _
 rw [HZ.out]

set_option maxRecDepth 100000 in
set_option maxHeartbeats 4000000 in
theorem LM (l : List Tm) (S : Nat → Prop) (A : Option Addr) (c : Nat) (w : World) (hl : aT (eG w S) w S 5 A l) (hS : ∀ g, S g → g < w.heap.size) (hlim : l.length ≤ 1000000000000)
  (fid : Nat) (he : ∀ (args : Array Value) (w : World), (callFunc fid args).run Tryz.prog w = .ok (.enter fid args) w) (q : Tm → Bool) (hf : Tests (fun W x v => eG W S x v) w fid l q) :
  Calls Tryz.prog 145 #[.slice A l.length c, .func (.func fid) #[] #[]] w (IPost l q w) := by
 have HF := Lib.hid hf
 have HLS := Lib.hid hl
 clear hf hl
 go_enter Tryz.func145, Tryz.ntmps145
 go_wp2
 go_loopw [8] (fun x wr => ∃ k : Nat, k ≤ l.length ∧ x = .int .i64 k ∧ Hid (∀ j (hj : j < l.length), j < k → q l[j] = false) ∧ Below w.heap.size w wr) (fun x _ => l.length - (intOf x).toNat)
 case atStart => exact ⟨0, Nat.zero_le _, rfl, (fun j _ h => absurd h (by omega)), Below.refl _ _⟩
 case round =>
  obtain ⟨k, hk, rfl, hno, hb⟩ := hrel
  have hsz := hb.size
  by_cases hlt : k < l.length
  ·have hlr := HLS.out.keep (P' := eG wr S) (aA hb hS) (fun _ _ h => h.keep (aA hb hS))
   obtain ⟨g, o, op2, nm2, nd2, wA2, wn2, wc2, kA2, kn2, kc2, rfl, hSg, htm, k0, k1, k2, k3, k4⟩ := zY (fun t v h => ⟨_, h⟩) hlr k hlt
   have hgs : g < wr.heap.size := by have := hS g hSg; omega
   have hc := HF.out l[k] (List.getElem_mem hlt) _ wr htm hb
   have hkI : (k : Int) < (l.length : Int) := by omega
   have hk0 : (0 : Int) ≤ (k : Int) := by omega
   cases hq : q l[k]
   ·rw [hq] at hc
    have HC := Lib.hid hc
    have HQ := Lib.hid hq
    clear hc hq hlr
    go_wp2_with fail
    refine HC.out.mono ?_
    rintro e W2 ⟨rfl, hb2⟩
    go_wp2
    go_roundw
    case rel =>
     refine ⟨k + 1, by omega, by go_num, ?_, hb.trans (hb2.mono hsz)⟩
     intro j hj hjk
     by_cases h9 : j < k
     ·exact hno.out j hj h9
     ·obtain rfl : j = k := by omega
      exact HQ.out
    case measure => simp [intOf]; omega
   ·rw [hq] at hc
    have HC := Lib.hid hc
    have HQ := Lib.hid (CQ hlt hq)
    clear hc hq hlr
    go_wp2_with fail
    refine HC.out.mono ?_
    rintro e W2 ⟨rfl, hb2⟩
    go_wp2
    go_ret
    refine ⟨⟨k, rfl, ?_⟩, hb.trans (hb2.mono hsz)⟩
    rw [HQ.out]; simp
  ·have HQ : Hid (l.any q = false) := Lib.hid (any_none (fun j hj => hno.out j hj (by omega)))
   have hkI : ¬ (k : Int) < (l.length : Int) := by omega
   go_wp2
   go_ret
   refine ⟨⟨-1, rfl, ?_⟩, hb⟩
   rw [HQ.out]; rfl
set_option maxHeartbeats 1000000 in
theorem Er (l : List Tm) (S : Nat → Prop) (A : Option Addr) (c : Nat) (w : World) (hl : aT (eG w S) w S 5 A l) (hS : ∀ g, S g → g < w.heap.size) (hlim : l.length ≤ 1000000000000)
  (fid : Nat) (he : ∀ (args : Array Value) (w : World), (callFunc fid args).run Tryz.prog w = .ok (.enter fid args) w) (q : Tm → Bool) (hf : Tests (fun W x v => eG W S x v) w fid l q) :
  Calls Tryz.prog 119 #[.slice A l.length c, .func (.func fid) #[] #[]] w fun e w' => e = .returned (.bool (l.any q)) ∧ Below w.heap.size w w' := by
 have HC := Lib.hid (LM l S A c w hl hS hlim fid he q hf)
 clear hl hf
 go_enter Tryz.func119, Tryz.ntmps119
 go_wp2_with fail
 refine HC.out.mono ?_
 rintro e w' ⟨⟨z, rfl, hz⟩, hb⟩
 have HZ := Lib.hid hz
 clear hz
 go_wp2
 go_ret
 refine ⟨?_, hb⟩
 show Ending.returned (.bool (decide (0 ≤ z))) = _
 rw [HZ.out]

set_option maxRecDepth 100000 in
set_option maxHeartbeats 4000000 in
theorem IY (l : List Ft) (S : Nat → Prop) (A : Option Addr) (c : Nat) (w : World) (hl : aT (lm w S) w S 6 A l) (hS : ∀ g, S g → g < w.heap.size) (hlim : l.length ≤ 1000000000000)
  (fid : Nat) (he : ∀ (args : Array Value) (w : World), (callFunc fid args).run Tryz.prog w = .ok (.enter fid args) w) (q : Ft → Bool) (hf : Tests (fun W x v => lm W S x v) w fid l q) :
  Calls Tryz.prog 135 #[.slice A l.length c, .func (.func fid) #[] #[]] w (IPost l q w) := by
 have HF := Lib.hid hf
 have HLS := Lib.hid hl
 clear hf hl
 go_enter Tryz.func135, Tryz.ntmps135
 go_wp2
 go_loopw [8] (fun x wr => ∃ k : Nat, k ≤ l.length ∧ x = .int .i64 k ∧ Hid (∀ j (hj : j < l.length), j < k → q l[j] = false) ∧ Below w.heap.size w wr) (fun x _ => l.length - (intOf x).toNat)
 case atStart => exact ⟨0, Nat.zero_le _, rfl, (fun j _ h => absurd h (by omega)), Below.refl _ _⟩
 case round =>
  obtain ⟨k, hk, rfl, hno, hb⟩ := hrel
  have hsz := hb.size
  by_cases hlt : k < l.length
  ·have hlr := HLS.out.keep (P' := lm wr S) (aA hb hS) (fun _ _ h => h.keep (aA hb hS))
   obtain ⟨g, o, op2, nm2, by2, cr2, bA2, bn2, bc2, cA2, cn2, cc2, rfl, hSg, htm, k0, k1, k2, k3, k4, k5⟩ := nT hlr hlt
   have hgs : g < wr.heap.size := by have := hS g hSg; omega
   have hc := HF.out l[k] (List.getElem_mem hlt) _ wr htm hb
   have hkI : (k : Int) < (l.length : Int) := by omega
   have hk0 : (0 : Int) ≤ (k : Int) := by omega
   cases hq : q l[k]
   ·rw [hq] at hc
    have HC := Lib.hid hc
    have HQ := Lib.hid hq
    clear hc hq hlr
    go_wp2_with fail
    refine HC.out.mono ?_
    rintro e W2 ⟨rfl, hb2⟩
    go_wp2
    go_roundw
    case rel =>
     refine ⟨k + 1, by omega, by go_num, ?_, hb.trans (hb2.mono hsz)⟩
     intro j hj hjk
     by_cases h9 : j < k
     ·exact hno.out j hj h9
     ·obtain rfl : j = k := by omega
      exact HQ.out
    case measure => simp [intOf]; omega
   ·rw [hq] at hc
    have HC := Lib.hid hc
    have HQ := Lib.hid (CQ hlt hq)
    clear hc hq hlr
    go_wp2_with fail
    refine HC.out.mono ?_
    rintro e W2 ⟨rfl, hb2⟩
    go_wp2
    go_ret
    refine ⟨⟨k, rfl, ?_⟩, hb.trans (hb2.mono hsz)⟩
    rw [HQ.out]; simp
  ·have HQ : Hid (l.any q = false) := Lib.hid (any_none (fun j hj => hno.out j hj (by omega)))
   have hkI : ¬ (k : Int) < (l.length : Int) := by omega
   go_wp2
   go_ret
   refine ⟨⟨-1, rfl, ?_⟩, hb⟩
   rw [HQ.out]; rfl
set_option maxHeartbeats 1000000 in
theorem Bp (l : List Ft) (S : Nat → Prop) (A : Option Addr) (c : Nat) (w : World) (hl : aT (lm w S) w S 6 A l) (hS : ∀ g, S g → g < w.heap.size) (hlim : l.length ≤ 1000000000000)
  (fid : Nat) (he : ∀ (args : Array Value) (w : World), (callFunc fid args).run Tryz.prog w = .ok (.enter fid args) w) (q : Ft → Bool) (hf : Tests (fun W x v => lm W S x v) w fid l q) :
  Calls Tryz.prog 101 #[.slice A l.length c, .func (.func fid) #[] #[]] w fun e w' => e = .returned (.bool (l.any q)) ∧ Below w.heap.size w w' := by
 have HC := Lib.hid (IY l S A c w hl hS hlim fid he q hf)
 clear hl hf
 go_enter Tryz.func101, Tryz.ntmps101
 go_wp2_with fail
 refine HC.out.mono ?_
 rintro e w' ⟨⟨z, rfl, hz⟩, hb⟩
 have HZ := Lib.hid hz
 clear hz
 go_wp2
 go_ret
 refine ⟨?_, hb⟩
 show Ending.returned (.bool (decide (0 ≤ z))) = _
 rw [HZ.out]
end Go.Proofs.YtbmglebipepdmaaGreatDoor
namespace Go.Proofs.YtbmglebipepdmaaGreatDoor
open Go.RowKit

set_option maxRecDepth 100000 in
set_option maxHeartbeats 4000000 in
theorem LP (l : List Dc) (S : Nat → Prop) (A : Option Addr) (c : Nat) (w : World) (hl : aT (fo w S) w S 22 A l) (hS : ∀ g, S g → g < w.heap.size) (hlim : l.length ≤ 1000000000000)
  (fid : Nat) (he : ∀ (args : Array Value) (w : World), (callFunc fid args).run Tryz.prog w = .ok (.enter fid args) w) (q : Dc → Bool) (hf : Tests (fun W x v => fo W S x v) w fid l q) :
  Calls Tryz.prog 60 #[.slice A l.length c, .func (.func fid) #[] #[]] w (IPost l q w) := by
 have HF := Lib.hid hf
 have HLS := Lib.hid hl
 clear hf hl
 go_enter Tryz.func60, Tryz.ntmps60
 go_wp2
 go_loopw [8] (fun x wr => ∃ k : Nat, k ≤ l.length ∧ x = .int .i64 k ∧ Hid (∀ j (hj : j < l.length), j < k → q l[j] = false) ∧ Below w.heap.size w wr) (fun x _ => l.length - (intOf x).toNat)
 case atStart => exact ⟨0, Nat.zero_le _, rfl, (fun j _ h => absurd h (by omega)), Below.refl _ _⟩
 case round =>
  obtain ⟨k, hk, rfl, hno, hb⟩ := hrel
  have hsz := hb.size
  by_cases hlt : k < l.length
  ·have hlr := HLS.out.keep (P' := fo wr S) (aA hb hS) (fun _ _ h => h.keep (aA hb hS))
   obtain ⟨g, o, v, rfl, hSg, htm, hcs⟩ := fJ (fun _ _ h => jE h) hlr hlt
   have hgs : g < wr.heap.size := by have := hS g hSg; omega
   obtain ⟨cs, hcl, rfl⟩ : ∃ cs : List Value, cs.length = 22 ∧ v = .agg cs.toArray := by
    obtain ⟨nA, nc, fA, fc, o1, m1, d1, wA1, wn1, wc1, kA1, kn1, kc1, o2, m2, d2, wA2, wn2, wc2, kA2, kn2, kc2, o3, m3, d3, wA3, wn3, wc3, kA3, kn3, kc3, hv⟩ := uQ htm
    exact ⟨_, rfl, hv⟩
   have hrange : wr.rangeAt g (o + k * 22) cs := fun j u hu => hcs j u (by simpa [cellsOf, Value.cells] using hu)
   have ru : (Tryz.prog.info? 41).map (·.size) = some cs.length := by rw [hcl]; exact dJ
   clear hcs
   have hc := HF.out l[k] (List.getElem_mem hlt) _ wr htm hb
   have hkI : (k : Int) < (l.length : Int) := by omega
   have hk0 : (0 : Int) ≤ (k : Int) := by omega
   cases hq : q l[k]
   ·rw [hq] at hc
    have HC := Lib.hid hc
    have HQ := Lib.hid hq
    clear hc hq hlr
    go_wp2_with (with_reducible refine wpList_load_mid rfl 41 (.tmp 14) rfl g (o + k * 22) rfl cs _ hrange Tryz.underlying41 rfl ru ?_)
    refine HC.out.mono ?_
    rintro e W2 ⟨rfl, hb2⟩
    go_wp2
    go_roundw
    case rel =>
     refine ⟨k + 1, by omega, by go_num, ?_, hb.trans (hb2.mono hsz)⟩
     intro j hj hjk
     by_cases h9 : j < k
     ·exact hno.out j hj h9
     ·obtain rfl : j = k := by omega
      exact HQ.out
    case measure => simp [intOf]; omega
   ·rw [hq] at hc
    have HC := Lib.hid hc
    have HQ := Lib.hid (CQ hlt hq)
    clear hc hq hlr
    go_wp2_with (with_reducible refine wpList_load_mid rfl 41 (.tmp 14) rfl g (o + k * 22) rfl cs _ hrange Tryz.underlying41 rfl ru ?_)
    refine HC.out.mono ?_
    rintro e W2 ⟨rfl, hb2⟩
    go_wp2
    go_ret
    refine ⟨⟨k, rfl, ?_⟩, hb.trans (hb2.mono hsz)⟩
    rw [HQ.out]; simp
  ·have HQ : Hid (l.any q = false) := Lib.hid (any_none (fun j hj => hno.out j hj (by omega)))
   have hkI : ¬ (k : Int) < (l.length : Int) := by omega
   go_wp2
   go_ret
   refine ⟨⟨-1, rfl, ?_⟩, hb⟩
   rw [HQ.out]; rfl
set_option maxHeartbeats 1000000 in
theorem wQ (l : List Dc) (S : Nat → Prop) (A : Option Addr) (c : Nat) (w : World) (hl : aT (fo w S) w S 22 A l) (hS : ∀ g, S g → g < w.heap.size) (hlim : l.length ≤ 1000000000000)
  (fid : Nat) (he : ∀ (args : Array Value) (w : World), (callFunc fid args).run Tryz.prog w = .ok (.enter fid args) w) (q : Dc → Bool) (hf : Tests (fun W x v => fo W S x v) w fid l q) :
  Calls Tryz.prog 49 #[.slice A l.length c, .func (.func fid) #[] #[]] w fun e w' => e = .returned (.bool (l.any q)) ∧ Below w.heap.size w w' := by
 have HC := Lib.hid (LP l S A c w hl hS hlim fid he q hf)
 clear hl hf
 go_enter Tryz.func49, Tryz.ntmps49
 go_wp2_with fail
 refine HC.out.mono ?_
 rintro e w' ⟨⟨z, rfl, hz⟩, hb⟩
 have HZ := Lib.hid hz
 clear hz
 go_wp2
 go_ret
 refine ⟨?_, hb⟩
 show Ending.returned (.bool (decide (0 ≤ z))) = _
 rw [HZ.out]
end Go.Proofs.YtbmglebipepdmaaGreatDoor
namespace Go.Proofs.YtbmglebipepdmaaGreatDoor
open Go.RowKit

set_option maxHeartbeats 1000000 in
theorem lI (s : ByteArray) (w : World) : Calls Tryz.prog 114 #[.string s] w fun e w' => e = .returned (.bool (bG s)) ∧ w = w' := by
 have hl := LJ s w
 have hr := xR s w
 unfold bG
 cases h : dR s.data.toList
 ·rw [h] at hl
  have HL := Lib.hid hl
  clear hl hr h
  go_enter Tryz.func114, Tryz.ntmps114
  go_wp2_with fail
  refine HL.out.mono ?_
  rintro e w' ⟨rfl, rfl⟩
  go_wp2
  go_ret
  exact ⟨rfl, rfl⟩
 ·rw [h] at hl
  have HL := Lib.hid hl
  have HR := Lib.hid hr
  clear hl hr h
  go_enter Tryz.func114, Tryz.ntmps114
  go_wp2_with fail
  refine HL.out.mono ?_
  rintro e w' ⟨rfl, rfl⟩
  go_wp2_with fail
  refine HR.out.mono ?_
  rintro e w' ⟨rfl, rfl⟩
  go_wp2
  go_ret
  exact ⟨by rw [Bool.true_and]; rfl, rfl⟩

set_option maxHeartbeats 1000000 in
theorem vB (n : Int) (w : World) : Calls Tryz.prog 116 #[.int .i64 n] w fun e w' => e = .returned (.bool (small n)) ∧ w = w' := by
 have key : ∀ r : Bool, (r = true ↔ (0 ≤ n ∧ n ≤ 100000)) → r = small n := by
  intro r h
  rw [Bool.eq_iff_iff, h]
  simp [small]
 have HK := Lib.hid key
 clear key
 go_enter Tryz.func116, Tryz.ntmps116
 go_wp2
 all_goals go_ret
 all_goals refine ⟨congrArg (fun b => Ending.returned (.bool b)) (HK.out _ ?_), rfl⟩
 all_goals simp
 all_goals omega

set_option maxHeartbeats 1000000 in
theorem wT (op need : Int) (nm : ByteArray) (wA kA : Option Addr) (wn wc kn kc : Nat) (w : World) (hw : wn ≤ 1000000000000) (hk : kn ≤ 1000000000000) :
  Calls Tryz.prog 115 #[.agg #[.int .i64 op, .string nm, .int .i64 need, .slice wA wn wc, .slice kA kn kc]] w fun e w' => e = .returned (.bool (decide (need = 0) && decide (wn + kn = 0))) ∧ Below w.heap.size w w' := by
 by_cases h0 : need = 0
 ·subst h0
  by_cases h1 : wn + kn = 0
  ·obtain ⟨rfl, rfl⟩ : wn = 0 ∧ kn = 0 := by omega
   go_enter Tryz.func115, Tryz.ntmps115
   go_wp2
   go_ret
   exact ⟨rfl, (Below.refl _ _).alloc (Nat.le_refl _) _⟩
  ·have hz : (((wn : Int) + (kn : Int)) == 0) = false := by rw [beq_eq_false_iff_ne]; omega
   have e : (decide ((0 : Int) = 0) && decide (wn + kn = 0)) = false := by simp; omega
   rw [e]
   clear e h1
   go_enter Tryz.func115, Tryz.ntmps115
   go_wp2
   go_ret
   refine ⟨?_, (Below.refl _ _).alloc (Nat.le_refl _) _⟩
   first | rfl | (show Ending.returned (.bool (((wn : Int) + (kn : Int)) == 0)) = _; rw [hz])
 ·have hz : (need == 0) = false := by rw [beq_eq_false_iff_ne]; exact h0
  have e : (decide (need = 0) && decide (wn + kn = 0)) = false := by simp [h0]
  rw [e]
  clear e h0
  go_enter Tryz.func115, Tryz.ntmps115
  go_wp2
  go_ret
  exact ⟨rfl, (Below.refl _ _).alloc (Nat.le_refl _) _⟩

set_option maxHeartbeats 1000000 in
theorem He (w : World) (l : List Int) : Tests (fun _ x v => v = .int .i64 x) w 118 l (fun n => !small n) := by
 rintro x - v W rfl -
 have HS := Lib.hid (vB x W)
 go_enter Tryz.func118, Tryz.ntmps118
 go_wp2_with fail
 refine HS.out.mono ?_
 rintro e w' ⟨rfl, rfl⟩
 go_wp2
 go_ret
 exact ⟨rfl, Below.refl _ _⟩

theorem gI {t k : Tm} (h : k ∈ t.kids) : au k < au t := by
 cases t with
 |mk op name need ws kids =>
  have : ∀ l : List Tm, k ∈ l → au k ≤ aX l := by
   intro l
   induction l with
   |nil => intro h; simp at h
   |cons a r ih =>
    intro h
    rw [aX]
    rcases List.mem_cons.1 h with rfl | h
    ·omega
    ·have := ih h; omega
  have := this kids h
  rw [au]; omega
theorem jY (t : Tm) : t.kids.length + t.ws.length < au t := by
 cases t with
 |mk op name need ws kids =>
  have : ∀ l : List Tm, l.length ≤ aX l := by
   intro l
   induction l with
   |nil => simp
   |cons a r ih =>
    rw [aX, List.length_cons]
    have : 0 < au a := by cases a; rw [au]; omega
    omega
  have := this kids
  rw [au]
  show kids.length + ws.length < _
  omega

def VOk (t : Tm) : Prop := ∀ (v : Value) (w : World) (S : Nat → Prop), eG w S t v → (∀ g, S g → g < w.heap.size) → au t ≤ 1000000000000 →
 Calls Tryz.prog 91 #[v] w fun e w' => e = .returned (.bool (iZ t)) ∧ Below w.heap.size w w'

set_option maxHeartbeats 1000000 in
theorem term_test (w : World) (S : Nat → Prop) (l : List Tm) (hS : ∀ g, S g → g < w.heap.size) (hl : ∀ k ∈ l, VOk k) (hz : ∀ k ∈ l, au k ≤ 1000000000000) : Tests (fun W x v => eG W S x v) w 120 l (fun k => !iZ k) := by
 intro x hx v W htm hb
 obtain ⟨op, nm, nd, wA, wn, wc, kA, kn, kc, rfl⟩ := htm.form
 have hsz := hb.size
 have hbA : ∀ o, Below W.heap.size W (W.alloc o) := fun o => (Below.refl _ _).alloc (Nat.le_refl _) o
 have HV := Lib.hid (fun o => hl x hx _ (W.alloc o) S (htm.keep (aP (hbA o))) (fun g hg => by have := hS g hg; simp; omega) (hz x hx))
 go_enter Tryz.func120, Tryz.ntmps120
 go_wp2_with fail
 refine (HV.out _).mono ?_
 rintro e w' ⟨rfl, hb2⟩
 go_wp2
 go_ret
 exact ⟨rfl, (hbA _).trans (hb2.mono (by simp))⟩

theorem ok2 (need : Int) (ws : List Int) (kids : List Tm) : bY (.mk 2 ⟨#[]⟩ need ws kids) = (small need && decide (0 < kids.length) && (decide (ws.length = 0) || decide (ws.length = kids.length))) := rfl
theorem ok3 (need : Int) (ws : List Int) (kids : List Tm) : bY (.mk 3 ⟨#[]⟩ need ws kids) = (decide (need = 0) && decide (ws.length = 0) && decide (2 ≤ kids.length)) := rfl
theorem ok4 (need : Int) (ws : List Int) (kids : List Tm) : bY (.mk 4 ⟨#[]⟩ need ws kids) = (decide (need = 0) && decide (ws.length = 0) && decide (2 ≤ kids.length)) := rfl
theorem ok5 (need : Int) (ws : List Int) (kids : List Tm) : bY (.mk 5 ⟨#[]⟩ need ws kids) = (decide (need = 0) && decide (ws.length = 0) && decide (kids.length = 1)) := rfl

set_option maxRecDepth 100000 in
set_option maxHeartbeats 8000000 in
theorem AV (t : Tm) (ih : ∀ k ∈ t.kids, VOk k) : VOk t := by
 intro v w S hv hS hsz
 have hkl := jY t
 cases hv with
 |mk op nm need ws kids wA kA cw kc vs hw hwc hk hkc hl h =>
  have hkl : kids.length + ws.length < au (.mk op nm need ws kids) := hkl
  have IH := Lib.hid ih
  have hkw : kids.length + ws.length < 1000000000000 := by omega
  clear ih
  go_enter Tryz.func91, Tryz.ntmps91
  go_upto_block 0 with fail
  obtain ⟨W0, hW0⟩ : ∃ W0 : World, W0 = w.alloc (.cells #[.int .i64 op, .string nm, .int .i64 need, .slice wA ws.length cw, .slice kA kids.length kc] 39) := ⟨_, rfl⟩
  have hb0 : Below w.heap.size w W0 := by rw [hW0]; exact (Below.refl _ _).alloc (Nat.le_refl _) _
  have hs0 : w.heap.size < W0.heap.size := by rw [hW0]; simp
  have hr0 : W0.heap[w.heap.size]? = some (.cells #[.int .i64 op, .string nm, .int .i64 need, .slice wA ws.length cw, .slice kA kids.length kc] 39 (0, 0)) := by rw [hW0]; exact heap_alloc_new w _
  rw [← hW0]
  clear hW0
  go_cut [4] (fun s4 wx => s4 = .bool (bY (.mk op nm need ws kids)) ∧ Below W0.heap.size W0 wx)
  case first =>
   obtain ⟨c0, c1, c2, c3, c4, -⟩ := jF hr0
   clear hr0 hw hk hl h IH
   by_cases h1 : op = 1
   ·subst h1
    have HN := Lib.hid (lI nm W0)
    have HB := Lib.hid (wT 1 need nm wA kA ws.length cw kids.length kc W0 (by omega) (by omega))
    have e : bY (.mk 1 nm need ws kids) = ((bG nm) && (decide (need = 0) && decide (ws.length + kids.length = 0))) := rfl
    have E := Lib.hid e
    clear e
    generalize (decide (need = 0) && decide (ws.length + kids.length = 0)) = bq at HB E
    cases hn : bG nm
    ·rw [hn] at HN E
     go_wp2_with fail
     refine HN.out.mono ?_
     rintro e w' ⟨rfl, rfl⟩
     go_wp2_with fail
     go_meet
     exact ⟨congrArg Value.bool (by rw [E.out]; rfl), Below.refl _ _⟩
    ·rw [hn] at HN E
     go_wp2_with fail
     refine HN.out.mono ?_
     rintro e w' ⟨rfl, rfl⟩
     go_wp2_with fail
     refine HB.out.mono ?_
     rintro e w2 ⟨rfl, hb2⟩
     go_wp2_with fail
     go_meet
     exact ⟨congrArg Value.bool (by rw [E.out]; rfl), hb2⟩
   ·have q1 : (op == 1) = false := by rw [beq_eq_false_iff_ne]; exact h1
    by_cases h6 : op = 6
    ·subst h6
     have HN := Lib.hid (lI nm W0)
     have HB := Lib.hid (wT 6 need nm wA kA ws.length cw kids.length kc W0 (by omega) (by omega))
     have e : bY (.mk 6 nm need ws kids) = ((bG nm || nm == (⟨#[115, 101, 114, 118, 101, 114, 115]⟩ : ByteArray)) && (decide (need = 0) && decide (ws.length + kids.length = 0))) := rfl
     have E := Lib.hid e
     clear e
     generalize (decide (need = 0) && decide (ws.length + kids.length = 0)) = bq at HB E
     cases hn : bG nm
     ·rw [hn] at HN E
      cases hs : (nm == (⟨#[115, 101, 114, 118, 101, 114, 115]⟩ : ByteArray))
      ·rw [hs] at E
       have hs2 : (nm.toList == ((⟨#[115, 101, 114, 118, 101, 114, 115]⟩ : ByteArray)).toList) = false := by rw [jR]; exact hs
       have hs6 : ¬ nm = (⟨#[115, 101, 114, 118, 101, 114, 115]⟩ : ByteArray) := fun e9 => by rw [(iJ _ _).2 e9] at hs; exact absurd hs (by simp)
       have hs3 : ¬ nm.toList = [115, 101, 114, 118, 101, 114, 115] := fun e9 => hs6 (by rw [ByteArray.toList_eq] at e9; rw [← dS nm, e9]; rfl)
       have hs4 : (nm.toList == [115, 101, 114, 118, 101, 114, 115]) = false := by rw [beq_eq_false_iff_ne]; exact hs3
       go_wp2_with fail
       refine HN.out.mono ?_
       rintro e w' ⟨rfl, rfl⟩
       go_wp2_with fail
       go_meet
       exact ⟨congrArg Value.bool (by rw [E.out]; rfl), Below.refl _ _⟩
      ·rw [hs] at E
       obtain rfl := (iJ _ _).1 hs
       go_wp2_with fail
       refine HN.out.mono ?_
       rintro e w' ⟨rfl, rfl⟩
       go_wp2_with fail
       refine HB.out.mono ?_
       rintro e w2 ⟨rfl, hb2⟩
       go_wp2_with fail
       go_meet
       exact ⟨congrArg Value.bool (by rw [E.out]; rfl), hb2⟩
     ·rw [hn] at HN E
      go_wp2_with fail
      refine HN.out.mono ?_
      rintro e w' ⟨rfl, rfl⟩
      go_wp2_with fail
      refine HB.out.mono ?_
      rintro e w2 ⟨rfl, hb2⟩
      go_wp2_with fail
      go_meet
      exact ⟨congrArg Value.bool (by rw [E.out]; rfl), hb2⟩
    have q6 : (op == 6) = false := by rw [beq_eq_false_iff_ne]; exact h6
    by_cases h7 : op = 7
    ·subst h7
     have HN := Lib.hid (lI nm W0)
     have HB := Lib.hid (wT 7 need nm wA kA ws.length cw kids.length kc W0 (by omega) (by omega))
     have e : bY (.mk 7 nm need ws kids) = ((bG nm || nm == (⟨#[115, 101, 114, 118, 101, 114, 115]⟩ : ByteArray)) && (decide (need = 0) && decide (ws.length + kids.length = 0))) := rfl
     have E := Lib.hid e
     clear e
     generalize (decide (need = 0) && decide (ws.length + kids.length = 0)) = bq at HB E
     cases hn : bG nm
     ·rw [hn] at HN E
      cases hs : (nm == (⟨#[115, 101, 114, 118, 101, 114, 115]⟩ : ByteArray))
      ·rw [hs] at E
       have hs2 : (nm.toList == ((⟨#[115, 101, 114, 118, 101, 114, 115]⟩ : ByteArray)).toList) = false := by rw [jR]; exact hs
       have hs6 : ¬ nm = (⟨#[115, 101, 114, 118, 101, 114, 115]⟩ : ByteArray) := fun e9 => by rw [(iJ _ _).2 e9] at hs; exact absurd hs (by simp)
       have hs3 : ¬ nm.toList = [115, 101, 114, 118, 101, 114, 115] := fun e9 => hs6 (by rw [ByteArray.toList_eq] at e9; rw [← dS nm, e9]; rfl)
       have hs4 : (nm.toList == [115, 101, 114, 118, 101, 114, 115]) = false := by rw [beq_eq_false_iff_ne]; exact hs3
       go_wp2_with fail
       refine HN.out.mono ?_
       rintro e w' ⟨rfl, rfl⟩
       go_wp2_with fail
       go_meet
       exact ⟨congrArg Value.bool (by rw [E.out]; rfl), Below.refl _ _⟩
      ·rw [hs] at E
       obtain rfl := (iJ _ _).1 hs
       go_wp2_with fail
       refine HN.out.mono ?_
       rintro e w' ⟨rfl, rfl⟩
       go_wp2_with fail
       refine HB.out.mono ?_
       rintro e w2 ⟨rfl, hb2⟩
       go_wp2_with fail
       go_meet
       exact ⟨congrArg Value.bool (by rw [E.out]; rfl), hb2⟩
     ·rw [hn] at HN E
      go_wp2_with fail
      refine HN.out.mono ?_
      rintro e w' ⟨rfl, rfl⟩
      go_wp2_with fail
      refine HB.out.mono ?_
      rintro e w2 ⟨rfl, hb2⟩
      go_wp2_with fail
      go_meet
      exact ⟨congrArg Value.bool (by rw [E.out]; rfl), hb2⟩
    have q7 : (op == 7) = false := by rw [beq_eq_false_iff_ne]; exact h7
    by_cases h8 : op = 8
    ·subst h8
     have HN := Lib.hid (lI nm W0)
     have HB := Lib.hid (wT 8 need nm wA kA ws.length cw kids.length kc W0 (by omega) (by omega))
     have e : bY (.mk 8 nm need ws kids) = ((bG nm || nm == (⟨#[115, 101, 114, 118, 101, 114, 115]⟩ : ByteArray)) && (decide (need = 0) && decide (ws.length + kids.length = 0))) := rfl
     have E := Lib.hid e
     clear e
     generalize (decide (need = 0) && decide (ws.length + kids.length = 0)) = bq at HB E
     cases hn : bG nm
     ·rw [hn] at HN E
      cases hs : (nm == (⟨#[115, 101, 114, 118, 101, 114, 115]⟩ : ByteArray))
      ·rw [hs] at E
       have hs2 : (nm.toList == ((⟨#[115, 101, 114, 118, 101, 114, 115]⟩ : ByteArray)).toList) = false := by rw [jR]; exact hs
       have hs6 : ¬ nm = (⟨#[115, 101, 114, 118, 101, 114, 115]⟩ : ByteArray) := fun e9 => by rw [(iJ _ _).2 e9] at hs; exact absurd hs (by simp)
       have hs3 : ¬ nm.toList = [115, 101, 114, 118, 101, 114, 115] := fun e9 => hs6 (by rw [ByteArray.toList_eq] at e9; rw [← dS nm, e9]; rfl)
       have hs4 : (nm.toList == [115, 101, 114, 118, 101, 114, 115]) = false := by rw [beq_eq_false_iff_ne]; exact hs3
       go_wp2_with fail
       refine HN.out.mono ?_
       rintro e w' ⟨rfl, rfl⟩
       go_wp2_with fail
       go_meet
       exact ⟨congrArg Value.bool (by rw [E.out]; rfl), Below.refl _ _⟩
      ·rw [hs] at E
       obtain rfl := (iJ _ _).1 hs
       go_wp2_with fail
       refine HN.out.mono ?_
       rintro e w' ⟨rfl, rfl⟩
       go_wp2_with fail
       refine HB.out.mono ?_
       rintro e w2 ⟨rfl, hb2⟩
       go_wp2_with fail
       go_meet
       exact ⟨congrArg Value.bool (by rw [E.out]; rfl), hb2⟩
     ·rw [hn] at HN E
      go_wp2_with fail
      refine HN.out.mono ?_
      rintro e w' ⟨rfl, rfl⟩
      go_wp2_with fail
      refine HB.out.mono ?_
      rintro e w2 ⟨rfl, hb2⟩
      go_wp2_with fail
      go_meet
      exact ⟨congrArg Value.bool (by rw [E.out]; rfl), hb2⟩
    have q8 : (op == 8) = false := by rw [beq_eq_false_iff_ne]; exact h8
    have key2 : nm.size ≠ 0 → 0 < nm.size := fun h => by omega
    by_cases h2 : op = 2
    ·subst h2
     by_cases hz : nm.size = 0
     ·obtain rfl : nm = ⟨#[]⟩ := by
       have : nm.data.toList = [] := List.length_eq_zero_iff.1 (by simpa using hz)
       rw [← dS nm, this]; rfl
      have HSM := Lib.hid (vB need W0)
      cases hsm : small need
      ·rw [hsm] at HSM
       have E := Lib.hid (show bY (.mk 2 ⟨#[]⟩ need ws kids) = false by rw [ok2]; simp [hsm])
       go_wp2_with fail
       refine HSM.out.mono ?_
       rintro e w' ⟨rfl, rfl⟩
       go_wp2_with fail
       go_meet
       exact ⟨congrArg Value.bool E.out.symm, Below.refl _ _⟩
      ·rw [hsm] at HSM
       by_cases gk0 : 0 < kids.length
       ·have zk0 : (0 : Int) < (kids.length : Int) := by omega
        by_cases gw0 : ws.length = 0
        ·have zw0 : ((ws.length : Int) == 0) = true := lq gw0
         have E := Lib.hid (show bY (.mk 2 ⟨#[]⟩ need ws kids) = true by rw [ok2]; simp [hsm, gk0, gw0])
         clear gk0 gw0
         go_wp2_with fail
         refine HSM.out.mono ?_
         rintro e w' ⟨rfl, rfl⟩
         go_wp2_with fail
         go_meet
         exact ⟨congrArg Value.bool E.out.symm, Below.refl _ _⟩
        ·have zw0 : ((ws.length : Int) == 0) = false := eP gw0
         by_cases gwk : ws.length = kids.length
         ·have zwk : ((ws.length : Int) == (kids.length : Int)) = true := lq gwk
          have E := Lib.hid (show bY (.mk 2 ⟨#[]⟩ need ws kids) = true by rw [ok2]; simp [hsm, gk0, gwk])
          clear gk0 gw0 gwk
          go_wp2_with fail
          refine HSM.out.mono ?_
          rintro e w' ⟨rfl, rfl⟩
          go_wp2_with fail
          go_meet
          exact ⟨congrArg Value.bool E.out.symm, Below.refl _ _⟩
         ·have zwk : ((ws.length : Int) == (kids.length : Int)) = false := eP gwk
          have E := Lib.hid (show bY (.mk 2 ⟨#[]⟩ need ws kids) = false by rw [ok2]; simp [hsm, gk0, gw0, gwk])
          clear gk0 gw0 gwk
          go_wp2_with fail
          refine HSM.out.mono ?_
          rintro e w' ⟨rfl, rfl⟩
          go_wp2_with fail
          go_meet
          exact ⟨congrArg Value.bool E.out.symm, Below.refl _ _⟩
       ·have zk0 : ¬ (0 : Int) < (kids.length : Int) := by omega
        have E := Lib.hid (show bY (.mk 2 ⟨#[]⟩ need ws kids) = false by rw [ok2]; simp [hsm, gk0])
        clear gk0
        go_wp2_with fail
        refine HSM.out.mono ?_
        rintro e w' ⟨rfl, rfl⟩
        go_wp2_with fail
        go_meet
        exact ⟨congrArg Value.bool E.out.symm, Below.refl _ _⟩
     ·have hp := key2 hz
      have hne2 := gT hp
      have hne := bP hp
      have E := Lib.hid (show bY (.mk 2 nm need ws kids) = false by simp [bY, Tm.op, Tm.name, hz])
      go_wp2_with fail
      go_meet
      exact ⟨congrArg Value.bool E.out.symm, Below.refl _ _⟩
    have q2 : (op == 2) = false := by rw [beq_eq_false_iff_ne]; exact h2
    by_cases h3 : op = 3
    ·subst h3
     by_cases hz : nm.size = 0
     ·obtain rfl : nm = ⟨#[]⟩ := by
       have : nm.data.toList = [] := List.length_eq_zero_iff.1 (by simpa using hz)
       rw [← dS nm, this]; rfl
      by_cases gn0 : need = 0
      ·have zn0 : (need == 0) = true := by rw [beq_iff_eq]; exact gn0
       by_cases gw0 : ws.length = 0
       ·have zw0 : ((ws.length : Int) == 0) = true := lq gw0
        by_cases gk2 : 2 ≤ kids.length
        ·have zk2 : (2 : Int) ≤ (kids.length : Int) := by omega
         have E := Lib.hid (show bY (.mk 3 ⟨#[]⟩ need ws kids) = true by rw [ok3]; simp [gn0, gw0, gk2])
         clear gn0 gw0 gk2
         go_wp2_with fail
         go_meet
         exact ⟨congrArg Value.bool E.out.symm, Below.refl _ _⟩
        ·have zk2 : ¬ (2 : Int) ≤ (kids.length : Int) := by omega
         have E := Lib.hid (show bY (.mk 3 ⟨#[]⟩ need ws kids) = false by rw [ok3]; simp [gn0, gw0, gk2])
         clear gn0 gw0 gk2
         go_wp2_with fail
         go_meet
         exact ⟨congrArg Value.bool E.out.symm, Below.refl _ _⟩
       ·have zw0 : ((ws.length : Int) == 0) = false := eP gw0
        have E := Lib.hid (show bY (.mk 3 ⟨#[]⟩ need ws kids) = false by rw [ok3]; simp [gn0, gw0])
        clear gn0 gw0
        go_wp2_with fail
        go_meet
        exact ⟨congrArg Value.bool E.out.symm, Below.refl _ _⟩
      ·have zn0 : (need == 0) = false := by rw [beq_eq_false_iff_ne]; exact gn0
       have E := Lib.hid (show bY (.mk 3 ⟨#[]⟩ need ws kids) = false by rw [ok3]; simp [gn0])
       clear gn0
       go_wp2_with fail
       go_meet
       exact ⟨congrArg Value.bool E.out.symm, Below.refl _ _⟩
     ·have hp := key2 hz
      have hne2 := gT hp
      have hne := bP hp
      have E := Lib.hid (show bY (.mk 3 nm need ws kids) = false by simp [bY, Tm.op, Tm.name, hz])
      go_wp2_with fail
      go_meet
      exact ⟨congrArg Value.bool E.out.symm, Below.refl _ _⟩
    have q3 : (op == 3) = false := by rw [beq_eq_false_iff_ne]; exact h3
    by_cases h4 : op = 4
    ·subst h4
     by_cases hz : nm.size = 0
     ·obtain rfl : nm = ⟨#[]⟩ := by
       have : nm.data.toList = [] := List.length_eq_zero_iff.1 (by simpa using hz)
       rw [← dS nm, this]; rfl
      by_cases gn0 : need = 0
      ·have zn0 : (need == 0) = true := by rw [beq_iff_eq]; exact gn0
       by_cases gw0 : ws.length = 0
       ·have zw0 : ((ws.length : Int) == 0) = true := lq gw0
        by_cases gk2 : 2 ≤ kids.length
        ·have zk2 : (2 : Int) ≤ (kids.length : Int) := by omega
         have E := Lib.hid (show bY (.mk 4 ⟨#[]⟩ need ws kids) = true by rw [ok4]; simp [gn0, gw0, gk2])
         clear gn0 gw0 gk2
         go_wp2_with fail
         go_meet
         exact ⟨congrArg Value.bool E.out.symm, Below.refl _ _⟩
        ·have zk2 : ¬ (2 : Int) ≤ (kids.length : Int) := by omega
         have E := Lib.hid (show bY (.mk 4 ⟨#[]⟩ need ws kids) = false by rw [ok4]; simp [gn0, gw0, gk2])
         clear gn0 gw0 gk2
         go_wp2_with fail
         go_meet
         exact ⟨congrArg Value.bool E.out.symm, Below.refl _ _⟩
       ·have zw0 : ((ws.length : Int) == 0) = false := eP gw0
        have E := Lib.hid (show bY (.mk 4 ⟨#[]⟩ need ws kids) = false by rw [ok4]; simp [gn0, gw0])
        clear gn0 gw0
        go_wp2_with fail
        go_meet
        exact ⟨congrArg Value.bool E.out.symm, Below.refl _ _⟩
      ·have zn0 : (need == 0) = false := by rw [beq_eq_false_iff_ne]; exact gn0
       have E := Lib.hid (show bY (.mk 4 ⟨#[]⟩ need ws kids) = false by rw [ok4]; simp [gn0])
       clear gn0
       go_wp2_with fail
       go_meet
       exact ⟨congrArg Value.bool E.out.symm, Below.refl _ _⟩
     ·have hp := key2 hz
      have hne2 := gT hp
      have hne := bP hp
      have E := Lib.hid (show bY (.mk 4 nm need ws kids) = false by simp [bY, Tm.op, Tm.name, hz])
      go_wp2_with fail
      go_meet
      exact ⟨congrArg Value.bool E.out.symm, Below.refl _ _⟩
    have q4 : (op == 4) = false := by rw [beq_eq_false_iff_ne]; exact h4
    by_cases h5 : op = 5
    ·subst h5
     by_cases hz : nm.size = 0
     ·obtain rfl : nm = ⟨#[]⟩ := by
       have : nm.data.toList = [] := List.length_eq_zero_iff.1 (by simpa using hz)
       rw [← dS nm, this]; rfl
      by_cases gn0 : need = 0
      ·have zn0 : (need == 0) = true := by rw [beq_iff_eq]; exact gn0
       by_cases gw0 : ws.length = 0
       ·have zw0 : ((ws.length : Int) == 0) = true := lq gw0
        by_cases gk1 : kids.length = 1
        ·have zk1 : ((kids.length : Int) == 1) = true := lq gk1
         have E := Lib.hid (show bY (.mk 5 ⟨#[]⟩ need ws kids) = true by rw [ok5]; simp [gn0, gw0, gk1])
         clear gn0 gw0 gk1
         go_wp2_with fail
         go_meet
         exact ⟨congrArg Value.bool E.out.symm, Below.refl _ _⟩
        ·have zk1 : ((kids.length : Int) == 1) = false := eP gk1
         have E := Lib.hid (show bY (.mk 5 ⟨#[]⟩ need ws kids) = false by rw [ok5]; simp [gn0, gw0, gk1])
         clear gn0 gw0 gk1
         go_wp2_with fail
         go_meet
         exact ⟨congrArg Value.bool E.out.symm, Below.refl _ _⟩
       ·have zw0 : ((ws.length : Int) == 0) = false := eP gw0
        have E := Lib.hid (show bY (.mk 5 ⟨#[]⟩ need ws kids) = false by rw [ok5]; simp [gn0, gw0])
        clear gn0 gw0
        go_wp2_with fail
        go_meet
        exact ⟨congrArg Value.bool E.out.symm, Below.refl _ _⟩
      ·have zn0 : (need == 0) = false := by rw [beq_eq_false_iff_ne]; exact gn0
       have E := Lib.hid (show bY (.mk 5 ⟨#[]⟩ need ws kids) = false by rw [ok5]; simp [gn0])
       clear gn0
       go_wp2_with fail
       go_meet
       exact ⟨congrArg Value.bool E.out.symm, Below.refl _ _⟩
     ·have hp := key2 hz
      have hne2 := gT hp
      have hne := bP hp
      have E := Lib.hid (show bY (.mk 5 nm need ws kids) = false by simp [bY, Tm.op, Tm.name, hz])
      go_wp2_with fail
      go_meet
      exact ⟨congrArg Value.bool E.out.symm, Below.refl _ _⟩
    have q5 : (op == 5) = false := by rw [beq_eq_false_iff_ne]; exact h5
    have E := Lib.hid (show bY (.mk op nm need ws kids) = false by simp [bY, Tm.op, h1, h2, h3, h4, h5, h6, h7, h8])
    go_wp2_with fail
    go_meet
    exact ⟨congrArg Value.bool E.out.symm, Below.refl _ _⟩
  case rest =>
   obtain ⟨rfl, hbc⟩ := hcut
   have hsc := hbc.size
   have hbw : Below w.heap.size w wc := hb0.trans (hbc.mono (Nat.le_of_lt hs0))
   have hrW := (hbc.block _ hs0).trans hr0
   obtain ⟨c0, c1, c2, c3, c4, -⟩ := jF hrW
   have hSc : ∀ g, S g → g < wc.heap.size := fun g hg => by have := hS g hg; omega
   have hkw : Kept S w wc := aA hbw hS
   have e : iZ (.mk op nm need ws kids) = (bY (.mk op nm need ws kids) && ws.all small && kids.all iZ) := uE _
   have E := Lib.hid e
   clear e hrW
   cases hok : bY (.mk op nm need ws kids)
   ·rw [hok] at E
    go_wp2
    go_ret
    exact ⟨congrArg (fun b => Ending.returned (.bool b)) (by rw [E.out]; rfl), hbw⟩
   ·rw [hok] at E
    have hcw := GH ws S wA cw wc (hw.keep hkw) hSc (by omega) 118 (enters_of Tryz.func118 (by kernel_rfl) rfl) _ (He wc ws)
    have e1 : ws.all small = !ws.any (fun n => !small n) := by rw [List.not_any_eq_all_not]; simp
    have e2 : kids.all iZ = !kids.any (fun n => !iZ n) := by rw [List.not_any_eq_all_not]; simp
    rw [e1, e2, Bool.true_and] at E
    clear e1 e2
    cases hwt : ws.any (fun n => !small n)
    ·rw [hwt] at hcw E
     have HCW := Lib.hid hcw
     clear hcw
     go_wp2_with fail
     refine HCW.out.mono ?_
     rintro e W2 ⟨rfl, hb2⟩
     have hs2 := hb2.size
     have hbw2 : Below w.heap.size w W2 := hbw.trans (hb2.mono hbw.size)
     have hlt2 : w.heap.size < wc.heap.size := by omega
     have d4 := (hb2.cell (p := ⟨w.heap.size, 4, none⟩) hlt2).trans c4
     have hSc2 : ∀ g, S g → g < W2.heap.size := fun g hg => by have := hS g hg; have := hbw2.size; omega
     have hkids : aT (eG W2 S) W2 S 5 kA kids := ⟨vs, hl, hk.keep (aA hbw2 hS), fun i x u hx hu => (h i x u hx hu).keep (aA hbw2 hS)⟩
     have HCK := Lib.hid (Er kids S kA kc W2 hkids hSc2 (by omega) 120 (enters_of Tryz.func120 (by kernel_rfl) rfl) _ (term_test W2 S kids hSc2 IH.out (fun k hk => by have := gI (t := .mk op nm need ws kids) hk; omega)))
     clear c0 c1 c2 c3 c4
     go_wp2_with fail
     refine HCK.out.mono ?_
     rintro e W3 ⟨rfl, hb3⟩
     go_wp2
     go_ret
     exact ⟨congrArg (fun b => Ending.returned (.bool b)) (by rw [E.out]; simp), hbw2.trans (hb3.mono hbw2.size)⟩
    ·rw [hwt] at hcw E
     have HCW := Lib.hid hcw
     clear hcw
     go_wp2_with fail
     refine HCW.out.mono ?_
     rintro e W2 ⟨rfl, hb2⟩
     go_wp2
     go_ret
     exact ⟨congrArg (fun b => Ending.returned (.bool b)) (by rw [E.out]; simp), hbw.trans (hb2.mono hbw.size)⟩
theorem mV (t : Tm) : VOk t := by
 have : ∀ (n : Nat) (t : Tm), au t ≤ n → VOk t := by
  intro n
  induction n with
  |zero => intro t ht; exact absurd ht (by cases t; rw [au]; omega)
  |succ n ih => intro t ht; exact AV t (fun k hk => ih k (by have := gI hk; omega))
 exact this _ t (Nat.le_refl _)
end Go.Proofs.YtbmglebipepdmaaGreatDoor
