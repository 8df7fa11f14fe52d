/- The contract of the reference reader's reserved. The contracts of the reference reader's smallest methods: fail, is, take, need, reserved, name, number, group. The contracts of the reference reader's methods name, number, group, and of reserved. The contracts of the reference reader's methods names and braces. gX by gen_rnames.py. The contract of the reference reader's method threshold. gX by gen_rthr.py. -/
import Derived.Test.YtbmglebipepdmaaGreatDoorPkPara
namespace Go.Proofs.YtbmglebipepdmaaGreatDoor
open Go.RowKit

theorem Il {x : ByteArray} (h : ∀ j (hj : j < 19), (words[j]'hj == x) = false) : reserved x = false := by
 unfold reserved
 rw [List.any_eq_false]
 intro w hw
 obtain ⟨j, hj, rfl⟩ := List.getElem_of_mem hw
 have := h j hj
 rw [Bool.not_eq_true]
 cases e : (x == words[j])
 ·rfl
 ·rw [(iJ _ _).1 e] at this
  rw [(iJ _ _).2 rfl] at this
  exact this
theorem Fw {x : ByteArray} {j : Nat} (hj : j < 19) (h : (words[j]'hj == x) = true) : reserved x = true := by
 unfold reserved
 rw [List.any_eq_true]
 exact ⟨words[j]'hj, List.getElem_mem _, by rw [(iJ _ _).1 h]; exact (iJ _ _).2 rfl⟩

set_option maxRecDepth 100000 in
set_option maxHeartbeats 2000000 in
theorem zC (x : ByteArray) (w : World) : Calls Tryz.prog 105 #[.string x] w fun e w' => e = .returned (.bool (reserved x)) ∧ Below w.heap.size w w' := by
 have hnew := heap_alloc_new w (.cells #[.string (⟨#[115, 105, 116, 101]⟩ : ByteArray), .string (⟨#[102, 97, 117, 108, 116, 115]⟩ : ByteArray), .string (⟨#[113, 117, 111, 114, 117, 109]⟩ : ByteArray), .string (⟨#[99, 111, 110, 102, 105, 103]⟩ : ByteArray), .string (⟨#[119, 105, 116, 110, 101, 115, 115]⟩ : ByteArray), .string (⟨#[99, 108, 105, 101, 110, 116]⟩ : ByteArray), .string (⟨#[99, 104, 97, 105, 110]⟩ : ByteArray), .string (⟨#[114, 101, 97, 100]⟩ : ByteArray), .string (⟨#[119, 114, 105, 116, 101]⟩ : ByteArray), .string (⟨#[99, 114, 97, 115, 104]⟩ : ByteArray), .string (⟨#[98, 121, 122, 97, 110, 116, 105, 110, 101]⟩ : ByteArray), .string (⟨#[110, 111, 110, 101]⟩ : ByteArray), .string (⟨#[116, 104, 114, 101, 115, 104, 111, 108, 100]⟩ : ByteArray), .string (⟨#[98, 121, 122]⟩ : ByteArray), .string (⟨#[100, 117, 97, 108]⟩ : ByteArray), .string (⟨#[109, 97, 106, 111, 114, 105, 116, 121]⟩ : ByteArray), .string (⟨#[97, 108, 108]⟩ : ByteArray), .string (⟨#[97, 110, 121]⟩ : ByteArray), .string (⟨#[115, 101, 114, 118, 101, 114, 115]⟩ : ByteArray)] 9)
 obtain ⟨W, hW⟩ : ∃ W : World, W = w.alloc (.cells #[.string (⟨#[115, 105, 116, 101]⟩ : ByteArray), .string (⟨#[102, 97, 117, 108, 116, 115]⟩ : ByteArray), .string (⟨#[113, 117, 111, 114, 117, 109]⟩ : ByteArray), .string (⟨#[99, 111, 110, 102, 105, 103]⟩ : ByteArray), .string (⟨#[119, 105, 116, 110, 101, 115, 115]⟩ : ByteArray), .string (⟨#[99, 108, 105, 101, 110, 116]⟩ : ByteArray), .string (⟨#[99, 104, 97, 105, 110]⟩ : ByteArray), .string (⟨#[114, 101, 97, 100]⟩ : ByteArray), .string (⟨#[119, 114, 105, 116, 101]⟩ : ByteArray), .string (⟨#[99, 114, 97, 115, 104]⟩ : ByteArray), .string (⟨#[98, 121, 122, 97, 110, 116, 105, 110, 101]⟩ : ByteArray), .string (⟨#[110, 111, 110, 101]⟩ : ByteArray), .string (⟨#[116, 104, 114, 101, 115, 104, 111, 108, 100]⟩ : ByteArray), .string (⟨#[98, 121, 122]⟩ : ByteArray), .string (⟨#[100, 117, 97, 108]⟩ : ByteArray), .string (⟨#[109, 97, 106, 111, 114, 105, 116, 121]⟩ : ByteArray), .string (⟨#[97, 108, 108]⟩ : ByteArray), .string (⟨#[97, 110, 121]⟩ : ByteArray), .string (⟨#[115, 101, 114, 118, 101, 114, 115]⟩ : ByteArray)] 9) := ⟨_, rfl⟩
 have hb : Below w.heap.size w W := by rw [hW]; exact (Below.refl _ _).alloc (Nat.le_refl _) _
 rw [← hW] at hnew
 have HC := Lib.hid (fun (j : Nat) (hj : j < 19) => (show W.cell? ⟨w.heap.size, j, none⟩ = some (.string (words[j]'hj)) by
  rw [cell_of_row _ _ j _ _ _ hnew]
  show (words.map Value.string).toArray[j]? = _
  simp only [List.getElem?_toArray, List.getElem?_map]
  rw [List.getElem?_eq_getElem (show j < words.length from hj)]; rfl))
 go_enter Tryz.func105, Tryz.ntmps105
 go_wp2
 rw [← hW]
 clear hW hnew
 go_loop [4] (fun y => ∃ k : Nat, k ≤ 19 ∧ y = .int .i64 k ∧ Hid (∀ j (hj : j < 19), j < k → (words[j]'hj == x) = false)) (fun y => 19 - (intOf y).toNat)
 case atStart => exact ⟨0, by decide, rfl, fun j _ hj => absurd hj (by omega)⟩
 case round =>
  obtain ⟨k, hk, rfl, hno⟩ := hrel
  by_cases hlt : k < 19
  ·have hkI : (k : Int) < 19 := by omega
   have hk0 : (0 : Int) ≤ (k : Int) := by omega
   have hc := HC.out k hlt
   obtain ⟨u, hu⟩ : ∃ u, u = words[k]'hlt := ⟨_, rfl⟩
   rw [← hu] at hc
   have HU := Lib.hid hu
   clear hu
   cases hq : (u == x)
   ·have hq2 : (u.toList == x.toList) = false := by rw [jR]; exact hq
    have HQ := Lib.hid hq
    go_wp2
    go_round
    case rel =>
     refine ⟨k + 1, by omega, by go_num, fun j hj h => ?_⟩
     rcases Nat.lt_or_ge j k with h1 | h1
     ·exact hno.out j hj h1
     ·obtain rfl : j = k := by omega
      rw [← HU.out]; exact HQ.out
    case measure => simp [intOf]; omega
   ·have hq2 : (u.toList == x.toList) = true := by rw [jR]; exact hq
    have E := Lib.hid (Fw hlt (by rw [← HU.out]; exact hq))
    go_wp2
    go_ret
    exact ⟨by rw [E.out]; rfl, hb⟩
  ·obtain rfl : k = 19 := by omega
   have E := Lib.hid (Il (fun j hj => hno.out j hj hj))
   clear hno
   go_wp2
   go_ret
   exact ⟨by rw [E.out]; rfl, hb⟩

end Go.Proofs.YtbmglebipepdmaaGreatDoor
namespace Go.Proofs.YtbmglebipepdmaaGreatDoor
open Go.RowKit

theorem sI {w : World} {b : Nat} {v0 v1 v2 : Value} {t : TypeId} (h : w.heap[b]? = some (.cells #[v0, v1, v2] t (0, 0))) :
  w.cell? ⟨b, 0, none⟩ = some v0 ∧ w.cell? ⟨b, 1, none⟩ = some v1 ∧ w.cell? ⟨b, 2, none⟩ = some v2 ∧ ∀ i, w.frozen? ⟨b, i, none⟩ = false :=
 ⟨(cell_of_row _ _ _ _ _ _ h).trans rfl, (cell_of_row _ _ _ _ _ _ h).trans rfl, (cell_of_row _ _ _ _ _ _ h).trans rfl, fun i => frozen_of_row _ _ i _ _ h⟩
def Jy (b : Nat) (A : Option Addr) (n c : Nat) (L : aW) (w : World) (v : Value) (s : St) (e : Ending) (w' : World) : Prop := e = .returned v ∧ RSt b A n c L s w' ∧ w.grownBy w' (some b)
theorem RSt.drewN {b : Nat} {A : Option Addr} {n c : Nat} {L : aW} {s : St} {w : World} (h : RSt b A n c L s w) (k : Nat) : RSt b A n c L s (w.drewN k) := h.below (below_drewN (Below.refl _ _) k)
theorem RSt.next {b : Nat} {A : Option Addr} {n c : Nat} {L : aW} {s : St} {w w' : World} (h : RSt b A n c L s w) (s' : St) (hp : s'.pos ≤ L.length)
  (hb : w'.heap[b]? = some (.cells #[.slice A n c, .int .i64 s'.pos, .int .i64 s'.err] 73 (0, 0))) (hg : w.grownBy w' (some b)) : RSt b A n c L s' w' :=
 ⟨hb, h.len, hp, h.toks.keep (qM hg), h.few⟩
theorem RSt.adv {b : Nat} {A : Option Addr} {n c : Nat} {L : aW} {s : St} {w w' : World} (h : RSt b A n c L s w) (hp : s.pos < L.length)
  (hb : w'.heap[b]? = some (.cells #[.slice A n c, .int .i64 ((s.pos : Int) + 1), .int .i64 s.err] 73 (0, 0))) (hg : w.grownBy w' (some b)) : RSt b A n c L (adv s) w' :=
 h.next (Go.Proofs.YtbmglebipepdmaaGreatDoor.adv s) hp (by rw [hb]; rfl) hg

set_option maxRecDepth 100000 in
set_option maxHeartbeats 1000000 in
theorem xJ {b : Nat} {A : Option Addr} {n c : Nat} {L : aW} {s : St} (e : Nat) (w : World) (h : RSt b A n c L s w) :
  Calls Tryz.prog 86 #[.pointer (some ⟨b, 0, none⟩), .int .i64 e] w (Jy b A n c L w (.tuple #[]) (fails e s)) := by
 obtain ⟨c0, c1, c2, cf⟩ := sI h.blk
 have f2 := cf 2
 have HH := Lib.hid h
 clear cf h
 by_cases hz : s.err = 0
 ·have hd : (((s.err : Nat) : Int) == 0) = true := lq hz
  have E := Lib.hid (show fails e s = ⟨s.pos, e⟩ by unfold fails; rw [if_pos hz])
  clear hz
  go_enter Tryz.func86, Tryz.ntmps86
  go_wp2
  (try simp only [Exit.inBlock, Exit.then])
  go_end0
  rw [E.out]
  exact ⟨rfl, HH.out.next ⟨s.pos, e⟩ HH.out.pos (aQ HH.out.blk _) (aF (aJ _ _) _ _), aF (aJ _ _) _ _⟩
 ·have hd : (((s.err : Nat) : Int) == 0) = false := eP hz
  have E := Lib.hid (show fails e s = s by unfold fails; rw [if_neg hz])
  clear hz
  go_enter Tryz.func86, Tryz.ntmps86
  go_wp2
  (try simp only [Exit.inBlock, Exit.then])
  go_end0
  rw [E.out]
  exact ⟨rfl, HH.out, aJ _ _⟩

theorem rd_facts {b : Nat} {A : Option Addr} {n c : Nat} {L : aW} {s : St} {w : World} (h : RSt b A n c L s w) (hp : s.pos < L.length) :
  ∃ g o : Nat, A = some ⟨g, o, none⟩ ∧ g < b ∧ g < w.heap.size ∧ b < w.heap.size ∧
   w.cell? ⟨g, o + s.pos * 5, none⟩ = some (.int .i64 (L[s.pos]'hp).1.kind) ∧ w.cell? ⟨g, o + s.pos * 5 + 1, none⟩ = some (.string (L[s.pos]'hp).1.text) ∧
   w.cell? ⟨g, o + s.pos * 5 + 2, none⟩ = some (.int .i64 (L[s.pos]'hp).1.int) ∧ w.cell? ⟨g, o + s.pos * 5 + 3, none⟩ = some (.string (L[s.pos]'hp).1.str) ∧ w.cell? ⟨g, o + s.pos * 5 + 4, none⟩ = some (.int .i64 (L[s.pos]'hp).2) ∧
   (0 : Int) ≤ (s.pos : Int) ∧ (s.pos : Int) < (n : Int) ∧ n ≤ 100000 := by
 have hn := h.len
 have oo := h.few
 obtain ⟨g, o, rfl, hS, k0, k1, k2, k3, k4⟩ := vg (i := s.pos) h.toks hn (by omega)
 exact ⟨g, o, rfl, hS, World.block_lt_of_cell? w _ k0, h.lt, k0, k1, k2, k3, k4, by omega, by omega, by omega⟩
theorem rd_less {s : St} {L : aW} {n : Nat} (hn : n = L.length) (h : ¬ s.pos < L.length) : decide (s.pos < n) = false := decide_eq_false (by omega)

set_option maxRecDepth 100000 in
set_option maxHeartbeats 1000000 in
theorem is_rd {b : Nat} {A : Option Addr} {n c : Nat} {L : aW} {s : St} (x : ByteArray) (w : World) (h : RSt b A n c L s w) :
  Calls Tryz.prog 110 #[.pointer (some ⟨b, 0, none⟩), .string x] w fun e w' => e = .returned (.bool (isW L x s)) ∧ ∃ q, w' = w.drewN q := by
 obtain ⟨c0, c1, c2, -⟩ := sI h.blk
 by_cases h0 : s.err = 0
 ·have hd : (((s.err : Nat) : Int) == 0) = true := lq h0
  by_cases hp : s.pos < L.length
  ·rw [isW_at h0 hp]
   obtain ⟨g, o, rfl, hS, hgs, hbs, k0, k1, k2, k3, k4, i1, i2, i3⟩ := rd_facts h hp
   obtain ⟨t, ht⟩ : ∃ t, t = L[s.pos]'hp := ⟨_, rfl⟩
   rw [← ht] at k0 k1 k2 k3 k4 ⊢
   clear h h0 ht hp
   by_cases h1 : t.1.kind = 1
   ·have q1 : ((t.1.kind : Int) == 1) = true := lq h1
    have Q3 := Lib.hid (show isWord x t.1 = (t.1.text == x) by unfold isWord; rw [h1]; rfl)
    clear h1
    go_enter Tryz.func110, Tryz.ntmps110
    go_wp2
    go_quiet (fail)
    go_wp2
    go_ret
    refine ⟨?_, _, rfl⟩
    rw [Q3.out]; first | rfl | (rw [← jR]; rfl)
   ·have q1 : ((t.1.kind : Int) == 1) = false := eP h1
    by_cases h4 : t.1.kind = 4
    ·have q4 : ((t.1.kind : Int) == 4) = true := lq h4
     have Q3 := Lib.hid (show isWord x t.1 = (t.1.text == x) by unfold isWord; rw [h4]; rfl)
     clear h1 h4
     go_enter Tryz.func110, Tryz.ntmps110
     go_wp2
     go_quiet (fail)
     go_wp2
     go_ret
     refine ⟨?_, _, rfl⟩
     rw [Q3.out]; first | rfl | (rw [← jR]; rfl)
    ·have q4 : ((t.1.kind : Int) == 4) = false := eP h4
     have Q3 := Lib.hid (show isWord x t.1 = false by unfold isWord; simp [h1, h4])
     clear h1 h4
     go_enter Tryz.func110, Tryz.ntmps110
     go_wp2
     go_quiet (fail)
     go_wp2
     go_ret
     refine ⟨?_, _, rfl⟩
     rw [Q3.out]; rfl
  ·have e : isW L x s = false := by unfold isW tk; rw [if_pos h0, List.getElem?_eq_none (by omega)]; rfl
   rw [e]
   have hlt := rd_less h.len hp
   clear h h0 e hp
   go_enter Tryz.func110, Tryz.ntmps110
   go_wp2
   go_quiet (fail)
   go_wp2
   go_ret
   exact ⟨rfl, _, rfl⟩
 ·have hd : (((s.err : Nat) : Int) == 0) = false := eP h0
  have e : isW L x s = false := by unfold isW tk; rw [if_neg h0]
  rw [e]
  clear h h0 e
  go_enter Tryz.func110, Tryz.ntmps110
  go_wp2
  go_quiet (fail)
  go_wp2
  go_ret
  exact ⟨rfl, _, rfl⟩

set_option maxRecDepth 100000 in
set_option maxHeartbeats 1000000 in
theorem aD {b : Nat} {A : Option Addr} {n c : Nat} {L : aW} {s : St} (x : ByteArray) (w : World) (h : RSt b A n c L s w) :
  Calls Tryz.prog 79 #[.pointer (some ⟨b, 0, none⟩), .string x] w (Jy b A n c L w (.bool (isW L x s)) (taken L x s)) := by
 have hi := is_rd x w h
 cases his : isW L x s
 ·rw [his] at hi
  have e : taken L x s = s := by unfold taken; rw [his]; rfl
  rw [e]
  have HI := Lib.hid hi
  have HH := Lib.hid h
  clear hi h his e
  go_enter Tryz.func79, Tryz.ntmps79
  go_wp2_with fail
  refine HI.out.mono ?_
  rintro e W ⟨rfl, q, rfl⟩
  go_wp2
  go_ret
  exact ⟨rfl, HH.out.drewN _, fw (aJ _ _) _⟩
 ·rw [his] at hi
  have e : taken L x s = adv s := by unfold taken; rw [his]; rfl
  rw [e]
  obtain ⟨h0, hp⟩ := dW his
  have HI := Lib.hid hi
  have HH := Lib.hid h
  have oo := h.few
  clear hi h his e h0
  go_enter Tryz.func79, Tryz.ntmps79
  go_wp2_with fail
  refine HI.out.mono ?_
  rintro e W ⟨rfl, q, hq⟩
  have h1 : RSt b A n c L s W := by rw [hq]; exact HH.out.drewN _
  have hgW : w.grownBy W (some b) := by rw [hq]; exact fw (aJ _ _) _
  obtain ⟨c0, c1, c2, cf⟩ := sI h1.blk
  have f1 := cf 1
  have HL := Lib.hid h1
  clear hq cf h1
  go_wp2
  go_ret
  have hg : W.grownBy (W.setCell ⟨b, 1, none⟩ (.int .i64 ((s.pos : Int) + 1))) (some b) := aF (aJ _ _) _ _
  exact ⟨rfl, HL.out.adv hp (aQ HL.out.blk _) hg, aj hgW hg⟩

set_option maxRecDepth 100000 in
set_option maxHeartbeats 1000000 in
theorem eB {b : Nat} {A : Option Addr} {n c : Nat} {L : aW} {s : St} (x : ByteArray) (w : World) (h : RSt b A n c L s w) :
  Calls Tryz.prog 82 #[.pointer (some ⟨b, 0, none⟩), .string x] w (Jy b A n c L w (.tuple #[]) (need L x s)) := by
 have ht := aD x w h
 rw [need_eq]
 have HT := Lib.hid ht
 clear ht h
 cases his : isW L x s
 ·rw [his] at HT
  clear his
  go_enter Tryz.func82, Tryz.ntmps82
  go_wp2_with fail
  refine HT.out.mono ?_
  rintro e W ⟨rfl, h1, hb⟩
  go_wp2_with fail
  refine (xJ 2 W h1).mono ?_
  rintro e W2 ⟨rfl, h2, hb2⟩
  go_wp2
  (try simp only [Exit.inBlock, Exit.then])
  go_end0
  exact ⟨rfl, h2, aj hb hb2⟩
 ·rw [his] at HT
  clear his
  go_enter Tryz.func82, Tryz.ntmps82
  go_wp2_with fail
  refine HT.out.mono ?_
  rintro e W ⟨rfl, h1, hb⟩
  go_wp2
  (try simp only [Exit.inBlock, Exit.then])
  go_end0
  exact ⟨rfl, h1, hb⟩
end Go.Proofs.YtbmglebipepdmaaGreatDoor
namespace Go.Proofs.YtbmglebipepdmaaGreatDoor
open Go.RowKit


theorem rd_over {s : St} {L : aW} {n : Nat} (hn : n = L.length) (h : ¬ s.pos < L.length) : decide (n ≤ s.pos) = true := decide_eq_true (by omega)
theorem JU {s : St} {L : aW} {n : Nat} (hn : n = L.length) (h : s.pos < L.length) : decide (n ≤ s.pos) = false := decide_eq_false (by omega)
theorem FQ {L : aW} {s : St} (h : ¬ (s.err = 0 ∧ s.pos < L.length)) : kK L s = false := by
 cases e : kK L s
 ·rfl
 ·exact absurd (Ag e) h
theorem Ke {L : aW} {s : St} (h : ¬ (s.err = 0 ∧ s.pos < L.length)) : isInt L s = false := by
 cases e : isInt L s
 ·rfl
 ·exact absurd (vW e) h

set_option maxRecDepth 100000 in
set_option maxHeartbeats 4000000 in
theorem ja {b : Nat} {A : Option Addr} {n c : Nat} {L : aW} {s : St} (w : World) (h : RSt b A n c L s w) :
  Calls Tryz.prog 80 #[.pointer (some ⟨b, 0, none⟩)] w (Jy b A n c L w (.string (bD L s).1) (bD L s).2) := by
 have HH := Lib.hid h
 have hbs := h.lt
 obtain ⟨c0, c1, c2, cf⟩ := sI h.blk
 have no : ∀ (q : Nat), kK L s = false → Calls Tryz.prog 86 #[.pointer (some ⟨b, 0, none⟩), .int .i64 2] (w.drewN q) (Jy b A n c L (w.drewN q) (.tuple #[]) (fails 2 s)) := fun q _ => xJ 2 _ (HH.out.drewN q)
 have NO := Lib.hid no
 clear no
 by_cases h0 : s.err = 0
 ·have hd : (((s.err : Nat) : Int) == 0) = true := lq h0
  have hd2 : (((s.err : Nat) : Int) != 0) = false := by rw [h0]; rfl
  by_cases hp : s.pos < L.length
  ·have hat := isName_at h0 hp
   have htx := txt_at h0 hp
   obtain ⟨g, o, rfl, hS, hgs, _, k0, k1, k2, k3, k4, i1, i2, i3⟩ := rd_facts h hp
   have hu := JU h.len hp
   obtain ⟨t, ht⟩ : ∃ t, t = L[s.pos]'hp := ⟨_, rfl⟩
   rw [← ht] at k0 k1 k2 k3 k4 hat htx
   have H0 := Lib.hid h0
   have f1 := cf 1
   clear h h0 ht cf
   by_cases h1 : t.1.kind = 1
   ·have q1 : ((t.1.kind : Int) == 1) = true := lq h1
    have q2 : ((t.1.kind : Int) != 1) = false := by rw [h1]; rfl
    have HR := Lib.hid (fun w => zC t.1.text w)
    cases hr : reserved t.1.text
    ·have e : kK L s = true := by rw [hat]; unfold nN; rw [h1, hr]; rfl
     rw [name_yes e, htx]
     rw [hr] at HR
     clear h1 hr e hat htx NO
     go_enter Tryz.func80, Tryz.ntmps80
     go_wp2
     go_still_tail 43, (by kernel_rfl)
     go_wp2_with fail
     refine (HR.out _).mono ?_
     rintro e W0 ⟨rfl, hb0⟩
     have hbw : Below w.heap.size w W0 := ((Below.refl _ _).drew).trans hb0
     have hR0 := HH.out.below hbw
     have HL := Lib.hid hR0
     have hg0 := aH (row := some b) hbw
     clear hbw hb0 c0 c1 c2 f1
     obtain ⟨c0, c1, c2, cf⟩ := sI hR0.blk
     have f1 := cf 1
     clear cf hR0
     go_wp2
     obtain ⟨W, hW⟩ : ∃ W : World, W = W0.setCell ⟨b, 1, none⟩ (.int .i64 ((s.pos : Int) + 1)) := ⟨_, rfl⟩
     have hg : W0.grownBy W (some b) := by rw [hW]; exact aF (aJ _ _) _ _
     have hbk : W.heap[b]? = some (.cells #[.slice (some ⟨g, o, none⟩) n c, .int .i64 ((s.pos : Int) + 1), .int .i64 s.err] 73 (0, 0)) := by rw [hW]; exact aQ HL.out.blk _
     have HB := Lib.hid (HL.out.adv hp hbk hg)
     have k1' := (aj hg0 hg).cell k1 (fun e => Nat.ne_of_lt hS (by injection e))
     rw [← hW]
     clear hW c0 c1 c2 f1 k0 k1 k2 k3 k4
     obtain ⟨c0, c1, c2, -⟩ := sI hbk
     have hw1 : IntKind.i64.wrap ((s.pos : Int) + 1 - 1) = (s.pos : Int) := by rw [Int.add_sub_cancel]; exact IntWalk.i64_in _ (by omega)
     clear hbk
     go_quiet (fail)
     go_wp2
     go_ret
     exact ⟨rfl, HB.out.drewN _, fw (aj hg0 hg) _⟩
    ·have e : kK L s = false := by rw [hat]; unfold nN; rw [h1, hr]; rfl
     rw [DL e]
     rw [hr] at HR
     clear h1 hr e hat htx f1 NO
     go_enter Tryz.func80, Tryz.ntmps80
     go_wp2
     go_still_tail 43, (by kernel_rfl)
     go_wp2_with fail
     refine (HR.out _).mono ?_
     rintro e W0 ⟨rfl, hb0⟩
     have hbw : Below w.heap.size w W0 := ((Below.refl _ _).drew).trans hb0
     go_wp2_with fail
     refine (xJ 2 _ (HH.out.below hbw)).mono ?_
     rintro e W ⟨rfl, h1, hg⟩
     go_wp2
     go_ret
     exact ⟨rfl, h1, aj (aH hbw) hg⟩
   ·have q1 : ((t.1.kind : Int) == 1) = false := eP h1
    have q2 : ((t.1.kind : Int) != 1) = true := gY h1
    have e : kK L s = false := by rw [hat]; unfold nN; simp [h1]
    rw [DL e]
    have HN := Lib.hid (fun q => NO.out q e)
    clear h1 e hat htx f1 NO
    go_enter Tryz.func80, Tryz.ntmps80
    go_wp2
    go_quiet (fail)
    go_wp2_with fail
    refine (HN.out _).mono ?_
    rintro e W ⟨rfl, h1, hg⟩
    go_wp2
    go_ret
    exact ⟨rfl, h1, aj (fw (aJ _ _) _) hg⟩
  ·have e : kK L s = false := FQ (fun hh => hp hh.2)
   rw [DL e]
   have hov := rd_over h.len hp
   have HN := Lib.hid (fun q => NO.out q e)
   clear h h0 e hp cf NO
   go_enter Tryz.func80, Tryz.ntmps80
   go_wp2
   go_quiet (fail)
   go_wp2_with fail
   refine (HN.out _).mono ?_
   rintro e W ⟨rfl, h1, hg⟩
   go_wp2
   go_ret
   exact ⟨rfl, h1, aj (fw (aJ _ _) _) hg⟩
 ·have hd : (((s.err : Nat) : Int) == 0) = false := eP h0
  have hd2 : (((s.err : Nat) : Int) != 0) = true := gY h0
  have e : kK L s = false := FQ (fun hh => h0 hh.1)
  rw [DL e]
  have HN := Lib.hid (fun q => NO.out q e)
  clear h h0 e cf NO
  go_enter Tryz.func80, Tryz.ntmps80
  go_wp2
  go_quiet (fail)
  go_wp2_with fail
  refine (HN.out _).mono ?_
  rintro e W ⟨rfl, h1, hg⟩
  go_wp2
  go_ret
  exact ⟨rfl, h1, aj (fw (aJ _ _) _) hg⟩

set_option maxRecDepth 100000 in
set_option maxHeartbeats 4000000 in
theorem vK {b : Nat} {A : Option Addr} {n c : Nat} {L : aW} {s : St} (w : World) (h : RSt b A n c L s w) :
  Calls Tryz.prog 111 #[.pointer (some ⟨b, 0, none⟩)] w (Jy b A n c L w (.int .i64 (jS L s).1) (jS L s).2) := by
 have HH := Lib.hid h
 have hbs := h.lt
 obtain ⟨c0, c1, c2, cf⟩ := sI h.blk
 have HN := Lib.hid (fun q => xJ 2 _ (h.drewN q))
 by_cases h0 : s.err = 0
 ·have hd : (((s.err : Nat) : Int) == 0) = true := lq h0
  have hd2 : (((s.err : Nat) : Int) != 0) = false := by rw [h0]; rfl
  by_cases hp : s.pos < L.length
  ·have hint : isInt L s = ((L[s.pos]'hp).1.kind == 2) := by unfold isInt; rw [vo h0 hp]
   have hat := intAt_at h0 hp
   obtain ⟨g, o, rfl, hS, hgs, _, k0, k1, k2, k3, k4, i1, i2, i3⟩ := rd_facts h hp
   have hu := JU h.len hp
   obtain ⟨t, ht⟩ : ∃ t, t = L[s.pos]'hp := ⟨_, rfl⟩
   rw [← ht] at k0 k1 k2 k3 k4 hat hint
   have H0 := Lib.hid h0
   have f1 := cf 1
   clear h h0 ht cf
   by_cases h1 : t.1.kind = 2
   ·have q1 : ((t.1.kind : Int) == 2) = true := lq h1
    have q2 : ((t.1.kind : Int) != 2) = false := by rw [h1]; rfl
    have hin : isInt L s = true := by rw [hint, h1]; rfl
    by_cases hb : 100000 < t.1.int
    ·rw [num_big hin (by rw [hat]; exact hb)]
     have hbI : (100000 : Int) < (t.1.int : Int) := by omega
     have hbD : decide (100000 < t.1.int) = true := decide_eq_true hb
     clear hin hat hb hint h1 f1 HN
     go_enter Tryz.func111, Tryz.ntmps111
     go_wp2
     go_quiet (fail)
     go_wp2
     go_quiet (fail)
     go_wp2_with fail
     refine (xJ 7 _ (HH.out.drewN _)).mono ?_
     rintro e W ⟨rfl, h1, hg⟩
     go_wp2
     go_ret
     exact ⟨rfl, h1, aj (fw (aJ _ _) _) hg⟩
    ·rw [num_yes hin (by rw [hat]; exact hb), hat]
     have hbI : ¬ (100000 : Int) < (t.1.int : Int) := by omega
     have hbD : decide (100000 < t.1.int) = false := decide_eq_false hb
     clear hin hat hb hint h1 HN
     go_enter Tryz.func111, Tryz.ntmps111
     go_wp2
     go_quiet (fail)
     obtain ⟨W1, hW1⟩ : ∃ W1 : World, W1 = w.drewN nq := ⟨_, rfl⟩
     have hg1 : w.grownBy W1 (some b) := by rw [hW1]; exact fw (aJ _ _) _
     have hR1 : RSt b (some ⟨g, o, none⟩) n c L s W1 := by rw [hW1]; exact HH.out.drewN _
     have e2 := hg1.cell k2 (fun e => Nat.ne_of_lt hS (by injection e))
     rw [← hW1]
     clear hW1 c0 c1 c2 f1 k0 k1 k2 k3 k4
     have HR1 := Lib.hid hR1
     obtain ⟨c0, c1, c2, cf⟩ := sI hR1.blk
     have f1 := cf 1
     clear cf hR1
     go_wp2
     go_quiet (fail)
     go_wp2
     obtain ⟨W, hW⟩ : ∃ W : World, W = (W1.drewN nq).setCell ⟨b, 1, none⟩ (.int .i64 ((s.pos : Int) + 1)) := ⟨_, rfl⟩
     have hg : W1.grownBy W (some b) := by rw [hW]; exact aF (fw (aJ _ _) _) _ _
     have hbk : W.heap[b]? = some (.cells #[.slice (some ⟨g, o, none⟩) n c, .int .i64 ((s.pos : Int) + 1), .int .i64 s.err] 73 (0, 0)) := by rw [hW]; exact aQ (w := W1.drewN nq) HR1.out.blk _
     have HB := Lib.hid (HR1.out.adv hp hbk hg)
     have k2 := hg.cell e2 (fun e => Nat.ne_of_lt hS (by injection e))
     rw [← hW]
     clear hW c0 c1 c2 f1 e2
     obtain ⟨c0, c1, c2, -⟩ := sI hbk
     have hw1 : IntKind.i64.wrap ((s.pos : Int) + 1 - 1) = (s.pos : Int) := by rw [Int.add_sub_cancel]; exact IntWalk.i64_in _ (by omega)
     clear hbk
     go_quiet (fail)
     go_wp2
     go_ret
     exact ⟨rfl, HB.out.drewN _, fw (aj hg1 hg) _⟩
   ·have q1 : ((t.1.kind : Int) == 2) = false := eP h1
    have q2 : ((t.1.kind : Int) != 2) = true := gY h1
    have hin : isInt L s = false := by rw [hint]; simp [h1]
    rw [num_no hin]
    clear hin hat hint h1 f1
    go_enter Tryz.func111, Tryz.ntmps111
    go_wp2
    go_quiet (fail)
    go_wp2_with fail
    refine (HN.out _).mono ?_
    rintro e W ⟨rfl, h1, hg⟩
    go_wp2
    go_ret
    exact ⟨rfl, h1, aj (fw (aJ _ _) _) hg⟩
  ·rw [num_no (Ke (fun hh => hp hh.2))]
   have hov := rd_over h.len hp
   clear h h0 hp cf
   go_enter Tryz.func111, Tryz.ntmps111
   go_wp2
   go_quiet (fail)
   go_wp2_with fail
   refine (HN.out _).mono ?_
   rintro e W ⟨rfl, h1, hg⟩
   go_wp2
   go_ret
   exact ⟨rfl, h1, aj (fw (aJ _ _) _) hg⟩
 ·have hd : (((s.err : Nat) : Int) == 0) = false := eP h0
  have hd2 : (((s.err : Nat) : Int) != 0) = true := gY h0
  rw [num_no (Ke (fun hh => h0 hh.1))]
  clear h h0 cf
  go_enter Tryz.func111, Tryz.ntmps111
  go_wp2
  go_quiet (fail)
  go_wp2_with fail
  refine (HN.out _).mono ?_
  rintro e W ⟨rfl, h1, hg⟩
  go_wp2
  go_ret
  exact ⟨rfl, h1, aj (fw (aJ _ _) _) hg⟩

set_option maxRecDepth 100000 in
set_option maxHeartbeats 1000000 in
theorem D8 {b : Nat} {A : Option Addr} {n c : Nat} {L : aW} {s : St} (w : World) (h : RSt b A n c L s w) :
  Calls Tryz.prog 154 #[.pointer (some ⟨b, 0, none⟩)] w (Jy b A n c L w (.string (mg L (need L (⟨#[40]⟩ : ByteArray) s)).1) (need L (⟨#[41]⟩ : ByteArray) (mg L (need L (⟨#[40]⟩ : ByteArray) s)).2)) := by
 have H1 := Lib.hid (eB (⟨#[40]⟩ : ByteArray) w h)
 cases his : isW L (⟨#[115, 101, 114, 118, 101, 114, 115]⟩ : ByteArray) (need L (⟨#[40]⟩ : ByteArray) s)
 ·have e : mg L (need L (⟨#[40]⟩ : ByteArray) s) = bD L (taken L (⟨#[115, 101, 114, 118, 101, 114, 115]⟩ : ByteArray) (need L (⟨#[40]⟩ : ByteArray) s)) := by unfold mg taken; rw [his]; rfl
  rw [e]
  have HI := Lib.hid his
  clear h his e
  go_enter Tryz.func154, Tryz.ntmps154
  go_wp2_with fail
  refine H1.out.mono ?_
  rintro e W1 ⟨rfl, h1, hg1⟩
  have ht := aD (⟨#[115, 101, 114, 118, 101, 114, 115]⟩ : ByteArray) W1 h1
  rw [HI.out] at ht
  have HT := Lib.hid ht
  clear ht
  go_wp2_with fail
  refine HT.out.mono ?_
  rintro e W2 ⟨rfl, h2, hg2⟩
  go_wp2_with fail
  refine (ja W2 h2).mono ?_
  rintro e W3 ⟨rfl, h3, hg3⟩
  go_wp2_with fail
  refine (eB (⟨#[41]⟩ : ByteArray) W3 h3).mono ?_
  rintro e W4 ⟨rfl, h4, hg4⟩
  go_wp2
  go_ret
  exact ⟨rfl, h4, aj (aj (aj hg1 hg2) hg3) hg4⟩
 ·have e : mg L (need L (⟨#[40]⟩ : ByteArray) s) = ((⟨#[115, 101, 114, 118, 101, 114, 115]⟩ : ByteArray), taken L (⟨#[115, 101, 114, 118, 101, 114, 115]⟩ : ByteArray) (need L (⟨#[40]⟩ : ByteArray) s)) := by unfold mg taken; rw [his]; rfl
  rw [e]
  have HI := Lib.hid his
  clear h his e
  go_enter Tryz.func154, Tryz.ntmps154
  go_wp2_with fail
  refine H1.out.mono ?_
  rintro e W1 ⟨rfl, h1, hg1⟩
  have ht := aD (⟨#[115, 101, 114, 118, 101, 114, 115]⟩ : ByteArray) W1 h1
  rw [HI.out] at ht
  have HT := Lib.hid ht
  clear ht
  go_wp2_with fail
  refine HT.out.mono ?_
  rintro e W2 ⟨rfl, h2, hg2⟩
  go_wp2_with fail
  refine (eB (⟨#[41]⟩ : ByteArray) W2 h2).mono ?_
  rintro e W4 ⟨rfl, h4, hg4⟩
  go_wp2
  go_ret
  exact ⟨rfl, h4, aj (aj hg1 hg2) hg4⟩
end Go.Proofs.YtbmglebipepdmaaGreatDoor
namespace Go.Proofs.YtbmglebipepdmaaGreatDoor
open Go.RowKit

def RNPost (b : Nat) (A : Option Addr) (n c : Nat) (L : aW) (w : World) (l : List ByteArray) (s : St) (e : Ending) (w' : World) : Prop :=
 ∃ v, e = .returned v ∧ w'.ownsRow w.heap.size 9 1 v l.length (aC l) ∧ RSt b A n c L s w' ∧ w.grownBy w' (some b)
def mU (b : Nat) (A : Option Addr) (n c : Nat) (L : aW) (w : World) (r : Tm × St) (e : Ending) (w' : World) : Prop :=
 ∃ op nm nd wA wn wc kA kn kc, e = .returned (.agg #[.int .i64 op, .string nm, .int .i64 nd, .slice wA wn wc, .slice kA kn kc]) ∧ eG w' (w.heap.size ≤ ·) r.1 (.agg #[.int .i64 op, .string nm, .int .i64 nd, .slice wA wn wc, .slice kA kn kc]) ∧ RSt b A n c L r.2 w' ∧ w.grownBy w' (some b)

set_option maxRecDepth 100000 in
set_option maxHeartbeats 2000000 in
theorem DC {b : Nat} {A : Option Addr} {n c : Nat} {L : aW} {s : St} (w : World) (h : RSt b A n c L s w) :
  Calls Tryz.prog 85 #[.pointer (some ⟨b, 0, none⟩)] w (RNPost b A n c L w (kS L s).1 (kS L s).2) := by
 have hbs := h.lt
 have oo := h.few
 have HH := Lib.hid h
 clear h
 go_enter Tryz.func85, Tryz.ntmps85
 go_wp2_with fail
 refine (ja w HH.out).mono ?_
 rintro e W ⟨rfl, h1, hg⟩
 have hsW := hg.size
 go_wp2
 go_loopg [3] L.length (fun f v wr => ∃ acc s', Hid (kT L f acc s' = kS L s) ∧ L.length ≤ f + s'.pos ∧ acc.length + f ≤ L.length + 1 ∧ RSt b A n c L s' wr ∧ w.grownBy wr (some b) ∧ wr.ownsRow w.heap.size 9 1 v acc.length (aC acc))
 case atStart =>
  refine ⟨[(bD L s).1], (bD L s).2, rfl, by omega, by simp; omega, h1.below ((Below.refl _ _).alloc (Nat.le_refl _) _), uJ hg _, ?_⟩
  exact World.ownsRow_lit (base := w.heap.size) (e := 9) (size := 1) W #[.string (bD L s).1] 1 hsW (by decide) rfl
 case round =>
  obtain ⟨acc, s', hgo, hfu, hal, hP, hgr, hown⟩ := hrel
  have hsr := hgr.size
  cases his : isW L (⟨#[44]⟩ : ByteArray) s'
  ·have ht := aD (⟨#[44]⟩ : ByteArray) wr hP
   rw [his, aB his] at ht
   have HT := Lib.hid ht
   have HI := Lib.hid his
   clear ht his hP
   go_wp2_with fail
   refine HT.out.mono ?_
   rintro e W2 ⟨rfl, h2, hg2⟩
   go_wp2
   go_ret
   rw [FE HI.out] at hgo
   refine ⟨_, rfl, ?_, ?_, aj hgr hg2⟩
   ·rw [← hgo.out]; exact gu hown hg2 hbs
   ·rw [← hgo.out]; exact h2
  ·have ht := aD (⟨#[44]⟩ : ByteArray) wr hP
   have hpos := qD his
   have hlt := (dW his).2
   rw [his] at ht
   have HT := Lib.hid ht
   have HI := Lib.hid his
   have HP := Lib.hid hpos
   clear ht his hP hpos
   obtain ⟨f, rfl⟩ : ∃ f, gk = f + 1 := ⟨gk - 1, by omega⟩
   go_wp2_with fail
   refine HT.out.mono ?_
   rintro e W2 ⟨rfl, h2, hg2⟩
   go_wp2_with fail
   refine (ja W2 h2).mono ?_
   rintro e W3 ⟨rfl, h3, hg3⟩
   have hown3 := gu (gu hown hg2 hbs) hg3 hbs
   have hgr3 := aj (aj hgr hg2) hg3
   have hs3 := hgr3.size
   go_wp2_with (at_builtin; refine eX W3 rfl (.tmp 9) (.tmp 12) rfl w.heap.size _ _ _ hown3 rfl (bD L (taken L (⟨#[44]⟩ : ByteArray) s')).1 rfl (by omega) hs3 ?_; intro v' W4 ic hg4 _)
   have hb4 := aM hown3 hg4 hs3
   go_roundg f
   case measure => omega
   case rel =>
    have ha := (dF (L := L) h2.pos).le
    rw [HP.out] at ha
    refine ⟨acc ++ [(bD L (taken L (⟨#[44]⟩ : ByteArray) s')).1], _, ?_, ?_, ?_, h3.other hb4 hbs, aR hgr3 hb4 (Nat.le_refl _), ?_⟩
    rotate_left 3
    ·rw [List.length_append, jB]; exact ic
    ·rw [FH HI.out] at hgo; exact hgo
    ·omega
    ·rw [List.length_append]; simp; omega

set_option maxRecDepth 100000 in
set_option maxHeartbeats 2000000 in
theorem su {b : Nat} {A : Option Addr} {n c : Nat} {L : aW} {s : St} (w : World) (h : RSt b A n c L s w) :
  Calls Tryz.prog 81 #[.pointer (some ⟨b, 0, none⟩)] w (RNPost b A n c L w (bS L s).1 (bS L s).2) := by
 have hbs := h.lt
 have HH := Lib.hid h
 clear h
 go_enter Tryz.func81, Tryz.ntmps81
 go_wp2_with fail
 refine (eB (⟨#[123]⟩ : ByteArray) w HH.out).mono ?_
 rintro e W1 ⟨rfl, h1, hg1⟩
 go_wp2_with fail
 refine (DC W1 h1).mono ?_
 rintro e W2 ⟨v, rfl, hown, h2, hg2⟩
 have hs1 := hg1.size
 go_wp2_with fail
 refine (eB (⟨#[125]⟩ : ByteArray) W2 h2).mono ?_
 rintro e W3 ⟨rfl, h3, hg3⟩
 go_wp2
 go_ret
 exact ⟨_, rfl, gu (qI hown hs1) hg3 hbs, h3, aj (aj hg1 hg2) hg3⟩
end Go.Proofs.YtbmglebipepdmaaGreatDoor
namespace Go.Proofs.YtbmglebipepdmaaGreatDoor
open Go.RowKit

structure EM (w : World) (b R T base : Nat) (n : Int) (kids : List Tm) (ws : List Int) (wV kV : Value) (wr : World) : Prop where
  hR : wr.heap[R]? = some (.cells #[.int .i64 0, .string ⟨#[]⟩, .int .i64 0, .slice none 0 0, .slice none 0 0] 39 (0, 0))
  hT : wr.heap[T]? = some (.cells #[.int .i64 2, .string ⟨#[]⟩, .int .i64 n, .slice none 0 0, kV] 39 (0, 0))
  hk : fE eG wr (fun g => base ≤ g ∧ some g ≠ wV.ownBlock) base 39 5 kV kids
  hw : wr.ownsRow base 3 1 wV ws.length (nO ws)
  hd : wV.ownBlock = none ∨ wV.ownBlock ≠ kV.ownBlock
  bR : b < R
  RT : R < T
  Tb : T < base
  sz : base ≤ wr.heap.size
  wR : w.heap.size = R
  fr : w.grownBy wr (some b)

section
variable {w : World} {b R T base : Nat} {n : Int} {kids : List Tm} {ws : List Int} {wV kV : Value} {wr wr' : World}
theorem EM.call (h : EM w b R T base n kids ws wV kV wr) (hg : wr.grownBy wr' (some b)) : EM w b R T base n kids ws wV kV wr' where
  hR := ah hg h.hR (by have := h.bR; omega)
  hT := ah hg h.hT (by have := h.bR; have := h.RT; omega)
  hk := h.hk.grown dM hg (by have := h.bR; have := h.RT; have := h.Tb; omega) (fun g hg => by have := h.bR; have := h.RT; have := h.Tb; omega)
  hw := gu h.hw hg (by have := h.bR; have := h.RT; have := h.Tb; omega)
  hd := h.hd
  bR := h.bR
  RT := h.RT
  Tb := h.Tb
  sz := Nat.le_trans h.sz hg.size
  wR := h.wR
  fr := aj h.fr hg
structure KidR (w : World) (b R T base : Nat) (n : Int) (kids : List Tm) (ws : List Int) (wV kV kV' : Value) (wr : World) : Prop where
  hR : wr.heap[R]? = some (.cells #[.int .i64 0, .string ⟨#[]⟩, .int .i64 0, .slice none 0 0, .slice none 0 0] 39 (0, 0))
  hT : wr.heap[T]? = some (.cells #[.int .i64 2, .string ⟨#[]⟩, .int .i64 n, .slice none 0 0, kV] 39 (0, 0))
  hk : fE eG wr (fun g => base ≤ g ∧ some g ≠ wV.ownBlock) base 39 5 kV' kids
  hw : wr.ownsRow base 3 1 wV ws.length (nO ws)
  hd : wV.ownBlock = none ∨ wV.ownBlock ≠ kV'.ownBlock
  bR : b < R
  RT : R < T
  Tb : T < base
  sz : base ≤ wr.heap.size
  wR : w.heap.size = R
  fr : w.grownBy wr (some b)
theorem EM.drew (h : EM w b R T base n kids ws wV kV wr) : EM w b R T base n kids ws wV kV wr.drew := h.call (aH (Below.refl _ _).drew)
theorem EM.push {W4 W5 : World} {o : Obj} {v' u : Value} {t : Tm} {vs news : List Value} {S : Nat → Prop} (h : EM w b R T base n kids ws wV kV W4) (l : vs.length = kids.length) (hn : cellsOf u = news)
    (hall : ∀ (i : Nat) (x : Tm) (u : Value), kids[i]? = some x → vs[i]? = some u → eG W4 (fun g => (base ≤ g ∧ some g ≠ wV.ownBlock) ∧ some g ≠ kV.ownBlock) x u)
    (ht : eG W4 S t u) (hnew : ∀ g, S g → base ≤ g ∧ some g ≠ wV.ownBlock ∧ some g ≠ kV.ownBlock)
    (hown : W5.ownsRow base 39 5 v' (kids.length + 1) (vs.flatMap cellsOf ++ news)) (hg : (W4.alloc o).grownBy W5 kV.ownBlock) (hv : v'.ownBlock = kV.ownBlock ∨ v'.ownBlock = some (W4.alloc o).heap.size) :
    KidR w b R T base n (kids ++ [t]) ws wV kV v' W5 := by
  have hga : W4.grownBy W5 kV.ownBlock := aj (aH ((Below.refl _ _).alloc (Nat.le_refl _) o)) hg
  obtain ⟨vs0, l0, hown0, _⟩ := h.hk
  refine ⟨jL hga hown0 (by have := h.RT; have := h.Tb; omega) h.hR, jL hga hown0 h.Tb h.hT, ?_, ?_, ?_, h.bR, h.RT, h.Tb, Nat.le_trans h.sz hga.size, h.wR, ?_⟩
  · exact fE.push l hall dM hn (ht.mono (fun g hg _ => ⟨⟨(hnew g hg).1, (hnew g hg).2.1⟩, (hnew g hg).2.2⟩)) hown hga (by simpa using hv)
  · refine yI h.hw (fun g e => hga.block g (h.hw.lt g e).2 (fun e2 => ?_))
    rcases h.hd with hd | hd
    · rw [hd] at e; simp at e
    · exact hd (by rw [e, e2])
  · rcases h.hd with hd | hd
    · exact Or.inl hd
    · right
      intro e
      rcases hv with hv | hv
      · exact hd (by rw [e, hv])
      · rw [hv] at e
        have := (h.hw.lt _ e).2
        simp at this
        omega
  · refine ⟨hga.os.trans h.fr.os, hga.tape.trans h.fr.tape, hga.output.trans h.fr.output, Nat.le_trans h.fr.size hga.size, fun g hg1 hne => ?_⟩
    rw [hga.block g (Nat.lt_of_lt_of_le hg1 h.fr.size) (fun e => by have := (hown0.lt g e.symm).1; have := h.wR; have := h.RT; have := h.Tb; omega)]
    exact h.fr.block g hg1 hne
theorem KidR.store {kV' : Value} (h : KidR w b R T base n kids ws wV kV kV' wr) : EM w b R T base n kids ws wV kV' (wr.setCell ⟨T, 4, none⟩ kV') := by
  have hg : wr.grownBy (wr.setCell ⟨T, 4, none⟩ kV') (some T) := aF (aJ _ _) _ _
  refine ⟨ah hg h.hR (by have := h.RT; omega), aQ h.hT _, h.hk.grown dM hg h.Tb (fun g hg => by have := h.Tb; omega), gu h.hw hg h.Tb, h.hd, h.bR, h.RT, h.Tb, ?_, h.wR, ?_⟩
  · exact Nat.le_trans h.sz hg.size
  · exact aR h.fr (below_grown hg (Nat.le_refl _) (by have := h.Tb; have := h.sz; omega)) (by have := h.wR; have := h.RT; omega)
theorem EM.weigh {W7 W8 : World} {wV' : Value} {x : Int} (h : EM w b R T base n kids ws wV kV W7) (hown : W8.ownsRow base 3 1 wV' (ws.length + 1) (nO ws ++ [.int .i64 x])) (hg : W7.grownBy W8 wV.ownBlock) (hv : wV'.ownBlock = wV.ownBlock ∨ wV'.ownBlock = some (W7.heap.size + 1)) :
    EM w b R T base n kids (ws ++ [x]) wV' kV W8 := by
  have hT8 := jL hg h.hw h.Tb h.hT
  have hR8 := jL hg h.hw (by have := h.RT; have := h.Tb; omega) h.hR
  have hk8 : fE eG W8 (fun g => base ≤ g ∧ some g ≠ wV'.ownBlock) base 39 5 kV kids := by
    have h1 : fE eG W7 (fun g => (base ≤ g ∧ some g ≠ wV'.ownBlock) ∧ some g ≠ wV.ownBlock) base 39 5 kV kids := h.hk.mono dM (fun g hg1 hg2 => ⟨⟨hg1.1, fun e => by
      rcases hv with hv | hv
      · exact hg1.2 (by rw [e, hv])
      · rw [hv] at e; injection e; omega⟩, hg1.2⟩)
    refine (h1.keep dM (fun g hg1 hg2 => hg.block g hg2 hg1.2) (fun g e => hg.block g (h.hk.lt g e).2 (fun e2 => ?_))).mono dM (fun g hg1 _ => hg1.1)
    rcases h.hd with hd | hd
    · rw [hd] at e2; simp at e2
    · exact hd (by rw [e, e2])
  refine ⟨hR8, hT8, hk8, ?_, ?_, h.bR, h.RT, h.Tb, Nat.le_trans h.sz hg.size, h.wR, ?_⟩
  · rw [xY, List.length_append]; exact hown
  · by_cases e : wV'.ownBlock = kV.ownBlock
    · rcases hv with hv | hv
      · rcases h.hd with hd | hd
        · exact Or.inl (by rw [hv, hd])
        · exact absurd (by rw [← hv, e]) hd
      · have := (h.hk.lt (W7.heap.size + 1) (by rw [← e, hv])).2
        omega
    · exact Or.inr e
  · refine ⟨hg.os.trans h.fr.os, hg.tape.trans h.fr.tape, hg.output.trans h.fr.output, Nat.le_trans h.fr.size hg.size, fun g hg1 hne => ?_⟩
    rw [hg.block g (Nat.lt_of_lt_of_le hg1 h.fr.size) (fun e => by have := (h.hw.lt g e.symm).1; have := h.wR; have := h.RT; have := h.Tb; omega)]
    exact h.fr.block g hg1 hne
theorem EM.tm (h : EM w b R T base n kids ws wV kV wr) (heavy : Bool) (_hl : ws.length = kids.length) : ∃ wA wn wc kA kc, (bif heavy then wV else .slice none 0 0) = .slice wA wn wc ∧ kV = .slice kA kids.length kc ∧
    eG wr (base ≤ ·) (.mk 2 (bs []) n (if heavy then ws else []) kids) (.agg #[.int .i64 2, .string (bs []), .int .i64 n, .slice wA wn wc, .slice kA kids.length kc]) := by
  obtain ⟨kA, kc, rfl, hkc, vs, h1, h2, h3⟩ := h.hk.list dM
  obtain ⟨wA, wc, hwV, hwc⟩ := aS h.hw
  cases heavy
  · exact ⟨none, 0, 0, kA, kc, rfl, rfl, .mk 2 (bs []) n [] kids none kA 0 kc vs (.empty _ _ _ _) (Nat.le_refl _) h2 hkc h1 (fun i t v ht hv => (h3 i t v ht hv).mono (fun g hg _ => hg.1))⟩
  · refine ⟨wA, ws.length, wc, kA, kc, hwV, rfl, .mk 2 (bs []) n ws kids wA kA wc kc vs (aL.own (e := 3) (c := wc) ?_) hwc h2 hkc h1 (fun i t v ht hv => (h3 i t v ht hv).mono (fun g hg _ => hg.1))⟩
    have := h.hw
    rw [hwV] at this
    exact this
end
theorem EU (w : World) (X Y : Array Value) (t : TypeId) : ((w.alloc (.cells X t)).alloc (.cells Y t)).heap[w.heap.size]? = some (.cells X t (0, 0)) ∧ ((w.alloc (.cells X t)).alloc (.cells Y t)).heap[w.heap.size + 1]? = some (.cells Y t (0, 0)) := by
  have e : (w.alloc (.cells X t)).heap.size = w.heap.size + 1 := by simp
  refine ⟨?_, ?_⟩
  · exact (((Below.refl (w.heap.size + 1) (w.alloc (.cells X t))).alloc (by omega) (.cells Y t)).block _ (by omega)).trans (heap_alloc_new w _)
  · have h := heap_alloc_new (w.alloc (.cells X t)) (.cells Y t)
    rw [e] at h; exact h

set_option maxRecDepth 100000 in
set_option maxHeartbeats 8000000 in
theorem thr_rd {b : Nat} {A : Option Addr} {n c : Nat} {L : aW} (pt : St → Tm × St) (K : St → Prop) (hK : ∀ s t, K s → Ahead L s t → K t) (hgood : Good L pt)
    (hpart : ∀ (w : World) (s : St), RSt b A n c L s w → K s → Calls Tryz.prog 84 #[.pointer (some ⟨b, 0, none⟩)] w (mU b A n c L w (pt s)))
    {s : St} (w : World) (h : RSt b A n c L (jS L s).2 w) (hs : K (jS L s).2) :
    Calls Tryz.prog 153 #[.pointer (some ⟨b, 0, none⟩), .int .i64 (jS L s).1] w (mU b A n c L w (pThr L pt s)) := by
  have hbs := h.lt
  have oo := h.few
  have HH := Lib.hid h
  have HP := Lib.hid hpart
  have HK := Lib.hid hK
  have HS := Lib.hid hs
  clear h hpart hK hs
  obtain ⟨W2, hW2⟩ : ∃ W2 : World, W2 = (w.alloc (.cells #[.int .i64 0, .string ⟨#[]⟩, .int .i64 0, .slice none 0 0, .slice none 0 0] 39)).alloc (.cells #[.int .i64 2, .string ⟨#[]⟩, .int .i64 (jS L s).1, .slice none 0 0, .slice none 0 0] 39) := ⟨_, rfl⟩
  have hb2 : Below w.heap.size w W2 := by rw [hW2]; exact ((Below.refl _ _).alloc (Nat.le_refl _) _).alloc (by simp) _
  have hs2 : W2.heap.size = w.heap.size + 1 + 1 := by rw [hW2]; simp
  have hr2 := EU w #[.int .i64 0, .string ⟨#[]⟩, .int .i64 0, .slice none 0 0, .slice none 0 0] #[.int .i64 2, .string ⟨#[]⟩, .int .i64 (jS L s).1, .slice none 0 0, .slice none 0 0] 39
  rw [← hW2] at hr2
  have HR2 := Lib.hid hr2
  have HS2 := Lib.hid hs2
  clear hr2 hs2
  go_enter Tryz.func153, Tryz.ntmps153
  go_wp2_with fail
  rw [← hW2]
  clear hW2
  refine (eB (⟨#[40]⟩ : ByteArray) _ (HH.out.below hb2)).mono ?_
  rintro e W3 ⟨rfl, h3, hg3⟩
  have hs3 := hg3.size
  have hgw3 : w.grownBy W3 (some b) := aj (aH hb2) hg3
  have hm3 : EM w b w.heap.size (w.heap.size + 1) W3.heap.size (jS L s).1 [] [] (.slice none 0 0) (.slice none 0 0) W3 :=
    { hR := ah hg3 HR2.out.1 (by omega)
      hT := ah hg3 HR2.out.2 (by omega)
      hk := fE.nil _ _ _ _ _
      hw := World.ownsRow_nil _ _ _ _
      hd := Or.inl rfl
      bR := hbs
      RT := by omega
      Tb := by have := HS2.out; omega
      sz := Nat.le_refl _
      wR := rfl
      fr := hgw3 }
  have hk3 := HK.out _ _ HS.out (dz (⟨#[40]⟩ : ByteArray) HH.out.pos)
  go_wp2
  go_loopg [6, 7] (L.length + 1) (fun f wV hv wr => ∃ (r : Thr) (s' : St) (kV : Value), hv = .bool r.heavy ∧ Hid (oV L pt f r s' = oV L pt (L.length + 1) ⟨[], [], false⟩ (need L (⟨#[40]⟩ : ByteArray) (jS L s).2)) ∧ (s'.err = 0 → L.length + 1 ≤ f + s'.pos) ∧ r.kids.length + f ≤ L.length + 1 ∧ r.ws.length = r.kids.length ∧ Hid (K s') ∧ RSt b A n c L s' wr ∧ EM w b w.heap.size (w.heap.size + 1) W3.heap.size (jS L s).1 r.kids r.ws wV kV wr)
  case atStart => exact ⟨⟨[], [], false⟩, _, _, rfl, rfl, fun _ => by omega, by simp, rfl, hk3, h3, hm3⟩
  case round =>
    obtain ⟨r, s', kV, rfl, hgo, hfu, hal, hlw, hks, hPs, hm⟩ := hrel
    obtain ⟨c0, c1, c2, -⟩ := sI hPs.blk
    by_cases he : s'.err = 0
    · have q0 : (((s'.err : Nat) : Int) == 0) = true := lq he
      obtain ⟨t0, t1, t2, t3, t4, tf⟩ := jF hm.hT
      have tf4 := tf 4
      have hsz := hm.sz
      have hTs := hm.Tb
      have HE := Lib.hid he
      have HLW := Lib.hid hlw
      have hfu1 := hfu he
      have hwl : r.ws.length ≤ 100001 := by omega
      have hps := hPs.pos
      obtain ⟨f, rfl⟩ : ∃ f, gk = f + 1 := ⟨gk - 1, by omega⟩
      have HGO : Hid (oV L pt (f + 1) r s' = oV L pt (L.length + 1) ⟨[], [], false⟩ (need L (⟨#[40]⟩ : ByteArray) (jS L s).2)) := hgo
      clear tf he hlw hfu hgo
      obtain ⟨vs3, l3, hown3, LX⟩ := id hm.hk
      have hnew : ∀ g, wr.heap.size ≤ g → W3.heap.size ≤ g ∧ some g ≠ u6.ownBlock ∧ some g ≠ kV.ownBlock := fun g hg => ⟨by omega, fun e => by have := (hm.hw.lt g e.symm).2; omega, fun e => by have := (hown3.lt g e.symm).2; omega⟩
      have HALL := Lib.hid (show ∀ (i : Nat) (x : Tm) (u : Value), r.kids[i]? = some x → vs3[i]? = some u → eG wr.drew (fun g => (W3.heap.size ≤ g ∧ some g ≠ u6.ownBlock) ∧ some g ≠ kV.ownBlock) x u from fun i x u hx hu => (LX i x u hx hu).keep (aP (Below.refl _ _).drew))
      have yB := Lib.hid hnew
      clear LX hnew
      go_wp2
      go_region_law (first | ((refine step_term _ rfl (.tmp 18) (.tmp 21) rfl W3.heap.size _ _ _ (World.ownsRow.alloc (gu hown3.drew hgx (by omega)) _) rfl _ 1 _ _ _ _ _ _ _ _ _ (heap_alloc_new _ _) rfl (by omega) (by simp <;> omega) ?_); intro v' W5 hown5 hg5 hv5; obtain ⟨Av5, cv5, rfl, hcv5⟩ := aS hown5; have hm5 := hm4.push l3 rfl LW ht4 hnew4 hown5 hg5 hv5; obtain ⟨-, -, -, -, u5, uf⟩ := jF hm5.hT; have uf5 := uf 4; clear uf) | (go_simp; go_at_call 84; refine (HP.out _ s' (hPs.below (Below.refl _ _).drew) hks.out).mono ?_; rintro e W4 ⟨op4, nm4, nd4, wA4, wn4, wc4, kA4, kn4, kc4, rfl, ht4, h4, hgx⟩; have hsx : wr.heap.size ≤ W4.heap.size := hgx.size; have hT4 : w.heap.size + 1 < W4.heap.size := (by omega); have hm4 := hm.drew.call hgx; obtain ⟨-, -, -, -, u4, uf⟩ := jF hm4.hT; clear uf; have LW := fun i x u hx hu => eG.keep (HALL.out i x u hx hu) ((ax hgx).mono fun g hg => by omega); have hnew4 : ∀ g, wr.drew.heap.size ≤ g → W3.heap.size ≤ g ∧ some g ≠ u6.ownBlock ∧ some g ≠ kV.ownBlock := fun g hg => yB.out g hg))
      all_goals
        have hm6 := hm5.store
        have h6 : RSt b A n c L (pt s').2 (W5.setCell ⟨w.heap.size + 1, 4, none⟩ (.slice Av5 (r.kids.length + 1) cv5)) :=
          ((h4.below ((Below.refl _ _).alloc (Nat.le_refl _) _)).other (aM (World.ownsRow.alloc (gu hown3.drew hgx (by omega)) _) hg5 (by simp <;> omega)) (by omega)).other (below_grown (aF (aJ _ _) _ _) (Nat.le_refl _) (by have := hm5.sz; omega)) (by omega)
        clear hown5 hg5 hv5 u4 u5 uf5 hm4 hm5 LW hnew4 ht4 h4 hcv5 hT4 hgx hsx c0 c1 c2 t0 t1 t2 t3 t4 tf4
        obtain ⟨W6, hW6⟩ : ∃ W6 : World, W6 = W5.setCell ⟨w.heap.size + 1, 4, none⟩ (.slice Av5 (r.kids.length + 1) cv5) := ⟨_, rfl⟩
        rw [← hW6] at hm6 h6 ⊢
        clear hW6
        go_wp2_with fail
        cases hst : isW L (⟨#[42]⟩ : ByteArray) (pt s').2
        · have ht := aD (⟨#[42]⟩ : ByteArray) W6 h6
          rw [hst, aB hst] at ht
          refine ht.mono ?_
          rintro e W8 ⟨rfl, h8, hg8⟩
          have hm8 := hm6.call hg8
          have HKn := Lib.hid (HK.out _ _ hks.out (hgood s' hPs.pos))
          have HAh := Lib.hid (hgood s' hPs.pos).le
          have HST := Lib.hid hst
          clear ht hst hm6 h6
          have hs8 := hm8.sz
          go_wp2_with (at_builtin; refine JV W8 rfl (.tmp 31) (.tmp 32) rfl W3.heap.size _ _ _ hm8.hw rfl (1) rfl (by omega) hs8 ?_; intro wV' W9 DX hg9 hv9)
          have hm9 := hm8.weigh DX hg9 hv9
          have h10 : RSt b A n c L (pt s').2 W9 := h8.other (aM hm8.hw hg9 hs8) (by omega)
          have hbody := Dg (r := r) HST.out
          clear DX hg9 hv9
          cases hco : isW L (⟨#[44]⟩ : ByteArray) ((pt s').2)
          · have ht := aD (⟨#[44]⟩ : ByteArray) _ h10
            rw [hco, aB hco] at ht
            have hgoE : Hid ((⟨r.kids ++ [(pt s').1], r.ws ++ [1], r.heavy⟩, (pt s').2) = oV L pt (L.length + 1) ⟨[], [], false⟩ (need L (⟨#[40]⟩ : ByteArray) (jS L s).2)) := by
              have xD := HGO.out
              rw [E8 HE.out (by rw [hbody]; exact hco), hbody] at xD
              exact xD
            refine ht.mono ?_
            rintro e W11 ⟨rfl, h11, hg11⟩
            have hm11 := hm9.call hg11
            clear ht hco hbody HGO hm9 h10
            obtain ⟨rq, hrq⟩ : ∃ rq : Thr, rq = ⟨r.kids ++ [(pt s').1], r.ws ++ [1], r.heavy⟩ := ⟨_, rfl⟩
            rw [← hrq] at hgoE
            have hl2 : rq.ws.length = rq.kids.length := by rw [hrq]; simp [HLW.out]
            have hm12 : EM w b w.heap.size (w.heap.size + 1) W3.heap.size (jS L s).1 rq.kids rq.ws wV' (.slice Av5 (r.kids.length + 1) cv5) W11 := by rw [hrq]; exact hm11
            have HVY := Lib.hid (show rq.heavy = r.heavy by rw [hrq])
            clear hrq hm11
            have HC4 := Lib.hid (eB (⟨#[41]⟩ : ByteArray) W11 h11)
            have hm4 := hm12
            have HLW2 := Lib.hid hl2
            go_wp2_with fail
            refine HC4.out.mono ?_
            rintro e W5 ⟨rfl, h5, hg5⟩
            have hm5 := hm4.call hg5
            have hs5 := hm5.sz
            have hTb5 := hm5.Tb
            have hRT5 := hm5.RT
            obtain ⟨wA, wn, wc, kA, kc, hwV, hkV, htm⟩ := hm5.tm rq.heavy HLW2.out
            have hT5 := hm5.hT
            rw [hkV] at hT5
            have hR5 := hm5.hR
            have e1 : pThr L pt s = (.mk 2 (bs []) (jS L s).1 (if rq.heavy then rq.ws else []) rq.kids, need L (⟨#[41]⟩ : ByteArray) (pt s').2) := by
              unfold pThr
              simp only []
              rw [← hgoE.out]
            have E1 := Lib.hid e1
            have hfr5 := hm5.fr
            have hbR := hm5.bR
            clear hm4 hm5 hkV e1 HC4
            cases hh : r.heavy
            · have hvy : rq.heavy = false := HVY.out.trans hh
              clear hh
              rw [hvy] at hwV
              simp only [cond_false] at hwV
              obtain ⟨rfl, rfl, rfl⟩ : none = wA ∧ 0 = wn ∧ 0 = wc := by injection hwV with a b c; exact ⟨a, b, c⟩
              clear hwV hvy
              obtain ⟨t0, t1, t2, t3, t4, tf⟩ := jF hT5
              obtain ⟨r0, r1, r2, r3, r4, rf⟩ := jF hR5
              have rf0 := rf 0
              have rf1 := rf 1
              have rf2 := rf 2
              have rf3 := rf 3
              have rf4 := rf 4
              clear tf rf
              go_wp2
              obtain ⟨hb7, hg7⟩ := BJ hR5 (.int .i64 2) (.string (bs [])) (.int .i64 (jS L s).1) (.slice none 0 0) (.slice kA rq.kids.length kc)
              refine gL rfl rfl rfl hb7 ?_
              rw [E1.out]
              exact ⟨_, _, _, _, _, _, _, _, _, rfl, (htm.keep ((ax hg7).mono fun g hg => by omega)).mono (fun g hg _ => by omega), h5.other (below_grown hg7 (Nat.le_refl _) (by omega)) (by omega),
                aR hfr5 (below_grown hg7 (Nat.le_refl _) (by omega)) (by omega)⟩
            · have hvy : rq.heavy = true := HVY.out.trans hh
              clear hh
              rw [hvy] at hwV
              simp only [cond_true] at hwV
              rw [hwV]
              clear hwV hvy
              obtain ⟨t0, t1, t2, t3, t4, tf⟩ := jF hT5
              obtain ⟨r0, r1, r2, r3, r4, rf⟩ := jF hR5
              have rf0 := rf 0
              have rf1 := rf 1
              have rf2 := rf 2
              have rf3 := rf 3
              have rf4 := rf 4
              have tf3 := tf 3
              clear tf rf
              go_wp2
              have hg6 : W5.grownBy (W5.setCell ⟨w.heap.size + 1, 3, none⟩ (.slice wA wn wc)) (some (w.heap.size + 1)) := aF (aJ _ _) _ _
              obtain ⟨hb7, hg7⟩ := BJ (ah hg6 hR5 (by omega)) (.int .i64 2) (.string (bs [])) (.int .i64 (jS L s).1) (.slice wA wn wc) (.slice kA rq.kids.length kc)
              refine gL rfl rfl rfl hb7 ?_
              rw [E1.out]
              exact ⟨_, _, _, _, _, _, _, _, _, rfl, ((htm.keep ((ax hg6).mono fun g hg => by omega)).keep ((ax hg7).mono fun g hg => by omega)).mono (fun g hg _ => by omega), (h5.other (below_grown hg6 (Nat.le_refl _) (by omega)) (by omega)).other (below_grown hg7 (Nat.le_refl _) (by have := hg6.size; omega)) (by omega),
                aR (aR hfr5 (below_grown hg6 (Nat.le_refl _) (by omega)) (by omega)) (below_grown hg7 (Nat.le_refl _) (by have := hg6.size; omega)) (by omega)⟩
          · have ht := aD (⟨#[44]⟩ : ByteArray) _ h10
            have hpo := qD hco
            rw [hco] at ht
            refine ht.mono ?_
            rintro e W11 ⟨rfl, h11, hg11⟩
            go_wp2
            go_roundg f
            case measure => omega
            case rel =>
              refine ⟨⟨r.kids ++ [(pt s').1], r.ws ++ [1], r.heavy⟩, _, _, rfl, ?_, fun _ => ?_, ?_, by simp [HLW.out], ?_, h11, hm9.call hg11⟩
              · have xD := HGO.out
                rw [BB HE.out (by rw [hbody]; exact hco), hbody] at xD
                exact xD
              · rw [hpo]; have := HAh.out; omega
              · simp; omega
              · exact HK.out _ _ HKn.out (uT h8.pos)
        · have ht := aD (⟨#[42]⟩ : ByteArray) W6 h6
          have hah := (hgood s' hPs.pos).trans (uT (x := (⟨#[42]⟩ : ByteArray)) (hgood s' hPs.pos).fit)
          have hah2 := hah.trans (qm hah.fit)
          rw [hst] at ht
          refine ht.mono ?_
          rintro e W7 ⟨rfl, h7, hg7⟩
          have HKn := Lib.hid (HK.out _ _ hks.out hah2)
          have HAh := Lib.hid hah2.le
          have HST := Lib.hid hst
          clear ht hst h6 hah hah2
          go_wp2_with fail
          refine (vK W7 h7).mono ?_
          rintro e W8 ⟨rfl, h8, hg8⟩
          have hm8 := (hm6.call hg7).call hg8
          clear hm6
          have hs8 := hm8.sz
          go_wp2_with (at_builtin; refine JV W8 rfl (.tmp 26) (.tmp 29) rfl W3.heap.size _ _ _ hm8.hw rfl ((jS L (taken L (⟨#[42]⟩ : ByteArray) (pt s').2)).1) rfl (by omega) hs8 ?_; intro wV' W9 DX hg9 hv9)
          have hm9 := hm8.weigh DX hg9 hv9
          have h10 : RSt b A n c L (jS L (taken L (⟨#[42]⟩ : ByteArray) (pt s').2)).2 W9 := h8.other (aM hm8.hw hg9 hs8) (by omega)
          have hbody := E9 (r := r) HST.out
          clear DX hg9 hv9
          cases hco : isW L (⟨#[44]⟩ : ByteArray) ((jS L (taken L (⟨#[42]⟩ : ByteArray) (pt s').2)).2)
          · have ht := aD (⟨#[44]⟩ : ByteArray) _ h10
            rw [hco, aB hco] at ht
            have hgoE : Hid ((⟨r.kids ++ [(pt s').1], r.ws ++ [(jS L (taken L (⟨#[42]⟩ : ByteArray) (pt s').2)).1], true⟩, (jS L (taken L (⟨#[42]⟩ : ByteArray) (pt s').2)).2) = oV L pt (L.length + 1) ⟨[], [], false⟩ (need L (⟨#[40]⟩ : ByteArray) (jS L s).2)) := by
              have xD := HGO.out
              rw [E8 HE.out (by rw [hbody]; exact hco), hbody] at xD
              exact xD
            refine ht.mono ?_
            rintro e W11 ⟨rfl, h11, hg11⟩
            have hm11 := hm9.call hg11
            clear ht hco hbody HGO hm9 h10
            obtain ⟨rq, hrq⟩ : ∃ rq : Thr, rq = ⟨r.kids ++ [(pt s').1], r.ws ++ [(jS L (taken L (⟨#[42]⟩ : ByteArray) (pt s').2)).1], true⟩ := ⟨_, rfl⟩
            rw [← hrq] at hgoE
            have hl2 : rq.ws.length = rq.kids.length := by rw [hrq]; simp [HLW.out]
            have hm12 : EM w b w.heap.size (w.heap.size + 1) W3.heap.size (jS L s).1 rq.kids rq.ws wV' (.slice Av5 (r.kids.length + 1) cv5) W11 := by rw [hrq]; exact hm11
            have HVY := Lib.hid (show rq.heavy = true by rw [hrq])
            clear hrq hm11
            have HC4 := Lib.hid (eB (⟨#[41]⟩ : ByteArray) W11 h11)
            have hm4 := hm12
            have HLW2 := Lib.hid hl2
            go_wp2_with fail
            refine HC4.out.mono ?_
            rintro e W5 ⟨rfl, h5, hg5⟩
            have hm5 := hm4.call hg5
            have hs5 := hm5.sz
            have hTb5 := hm5.Tb
            have hRT5 := hm5.RT
            obtain ⟨wA, wn, wc, kA, kc, hwV, hkV, htm⟩ := hm5.tm rq.heavy HLW2.out
            have hT5 := hm5.hT
            rw [hkV] at hT5
            have hR5 := hm5.hR
            have e1 : pThr L pt s = (.mk 2 (bs []) (jS L s).1 (if rq.heavy then rq.ws else []) rq.kids, need L (⟨#[41]⟩ : ByteArray) (jS L (taken L (⟨#[42]⟩ : ByteArray) (pt s').2)).2) := by
              unfold pThr
              simp only []
              rw [← hgoE.out]
            have E1 := Lib.hid e1
            have hfr5 := hm5.fr
            have hbR := hm5.bR
            clear hm4 hm5 hkV e1 HC4
            have hvy := HVY.out
            rw [hvy] at hwV
            simp only [cond_true] at hwV
            rw [hwV]
            clear hwV hvy
            obtain ⟨t0, t1, t2, t3, t4, tf⟩ := jF hT5
            obtain ⟨r0, r1, r2, r3, r4, rf⟩ := jF hR5
            have rf0 := rf 0
            have rf1 := rf 1
            have rf2 := rf 2
            have rf3 := rf 3
            have rf4 := rf 4
            have tf3 := tf 3
            clear tf rf
            go_wp2
            have hg6 : W5.grownBy (W5.setCell ⟨w.heap.size + 1, 3, none⟩ (.slice wA wn wc)) (some (w.heap.size + 1)) := aF (aJ _ _) _ _
            obtain ⟨hb7, hg7⟩ := BJ (ah hg6 hR5 (by omega)) (.int .i64 2) (.string (bs [])) (.int .i64 (jS L s).1) (.slice wA wn wc) (.slice kA rq.kids.length kc)
            refine gL rfl rfl rfl hb7 ?_
            rw [E1.out]
            exact ⟨_, _, _, _, _, _, _, _, _, rfl, ((htm.keep ((ax hg6).mono fun g hg => by omega)).keep ((ax hg7).mono fun g hg => by omega)).mono (fun g hg _ => by omega), (h5.other (below_grown hg6 (Nat.le_refl _) (by omega)) (by omega)).other (below_grown hg7 (Nat.le_refl _) (by have := hg6.size; omega)) (by omega),
              aR (aR hfr5 (below_grown hg6 (Nat.le_refl _) (by omega)) (by omega)) (below_grown hg7 (Nat.le_refl _) (by have := hg6.size; omega)) (by omega)⟩
          · have ht := aD (⟨#[44]⟩ : ByteArray) _ h10
            have hpo := qD hco
            rw [hco] at ht
            refine ht.mono ?_
            rintro e W11 ⟨rfl, h11, hg11⟩
            go_wp2
            go_roundg f
            case measure => omega
            case rel =>
              refine ⟨⟨r.kids ++ [(pt s').1], r.ws ++ [(jS L (taken L (⟨#[42]⟩ : ByteArray) (pt s').2)).1], true⟩, _, _, rfl, ?_, fun _ => ?_, ?_, by simp [HLW.out], ?_, h11, hm9.call hg11⟩
              · have xD := HGO.out
                rw [BB HE.out (by rw [hbody]; exact hco), hbody] at xD
                exact xD
              · rw [hpo]; have := HAh.out; omega
              · simp; omega
              · exact HK.out _ _ HKn.out (uT h8.pos)
    · have q0 : (((s'.err : Nat) : Int) == 0) = false := eP he
      have hgoE : Hid ((r, s') = oV L pt (L.length + 1) ⟨[], [], false⟩ (need L (⟨#[40]⟩ : ByteArray) (jS L s).2)) := by
        have := hgo.out
        rw [thrGo_err he] at this
        exact this
      clear hgo he
      have HC4 := Lib.hid (eB (⟨#[41]⟩ : ByteArray) wr hPs)
      have hm4 := hm
      have HLW2 := Lib.hid hlw
      go_wp2_with fail
      refine HC4.out.mono ?_
      rintro e W5 ⟨rfl, h5, hg5⟩
      have hm5 := hm4.call hg5
      have hs5 := hm5.sz
      have hTb5 := hm5.Tb
      have hRT5 := hm5.RT
      obtain ⟨wA, wn, wc, kA, kc, hwV, hkV, htm⟩ := hm5.tm r.heavy HLW2.out
      have hT5 := hm5.hT
      rw [hkV] at hT5
      have hR5 := hm5.hR
      have e1 : pThr L pt s = (.mk 2 (bs []) (jS L s).1 (if r.heavy then r.ws else []) r.kids, need L (⟨#[41]⟩ : ByteArray) s') := by
        unfold pThr
        simp only []
        rw [← hgoE.out]
      have E1 := Lib.hid e1
      have hfr5 := hm5.fr
      have hbR := hm5.bR
      clear hm4 hm5 hkV e1 HC4
      cases hh : r.heavy
      · have hvy : r.heavy = false := hh
        clear hh
        rw [hvy] at hwV
        simp only [cond_false] at hwV
        obtain ⟨rfl, rfl, rfl⟩ : none = wA ∧ 0 = wn ∧ 0 = wc := by injection hwV with a b c; exact ⟨a, b, c⟩
        clear hwV hvy
        obtain ⟨t0, t1, t2, t3, t4, tf⟩ := jF hT5
        obtain ⟨r0, r1, r2, r3, r4, rf⟩ := jF hR5
        have rf0 := rf 0
        have rf1 := rf 1
        have rf2 := rf 2
        have rf3 := rf 3
        have rf4 := rf 4
        clear tf rf
        go_wp2
        obtain ⟨hb7, hg7⟩ := BJ hR5 (.int .i64 2) (.string (bs [])) (.int .i64 (jS L s).1) (.slice none 0 0) (.slice kA r.kids.length kc)
        refine gL rfl rfl rfl hb7 ?_
        rw [E1.out]
        exact ⟨_, _, _, _, _, _, _, _, _, rfl, (htm.keep ((ax hg7).mono fun g hg => by omega)).mono (fun g hg _ => by omega), h5.other (below_grown hg7 (Nat.le_refl _) (by omega)) (by omega),
          aR hfr5 (below_grown hg7 (Nat.le_refl _) (by omega)) (by omega)⟩
      · have hvy : r.heavy = true := hh
        clear hh
        rw [hvy] at hwV
        simp only [cond_true] at hwV
        rw [hwV]
        clear hwV hvy
        obtain ⟨t0, t1, t2, t3, t4, tf⟩ := jF hT5
        obtain ⟨r0, r1, r2, r3, r4, rf⟩ := jF hR5
        have rf0 := rf 0
        have rf1 := rf 1
        have rf2 := rf 2
        have rf3 := rf 3
        have rf4 := rf 4
        have tf3 := tf 3
        clear tf rf
        go_wp2
        have hg6 : W5.grownBy (W5.setCell ⟨w.heap.size + 1, 3, none⟩ (.slice wA wn wc)) (some (w.heap.size + 1)) := aF (aJ _ _) _ _
        obtain ⟨hb7, hg7⟩ := BJ (ah hg6 hR5 (by omega)) (.int .i64 2) (.string (bs [])) (.int .i64 (jS L s).1) (.slice wA wn wc) (.slice kA r.kids.length kc)
        refine gL rfl rfl rfl hb7 ?_
        rw [E1.out]
        exact ⟨_, _, _, _, _, _, _, _, _, rfl, ((htm.keep ((ax hg6).mono fun g hg => by omega)).keep ((ax hg7).mono fun g hg => by omega)).mono (fun g hg _ => by omega), (h5.other (below_grown hg6 (Nat.le_refl _) (by omega)) (by omega)).other (below_grown hg7 (Nat.le_refl _) (by have := hg6.size; omega)) (by omega),
          aR (aR hfr5 (below_grown hg6 (Nat.le_refl _) (by omega)) (by omega)) (below_grown hg7 (Nat.le_refl _) (by have := hg6.size; omega)) (by omega)⟩
end Go.Proofs.YtbmglebipepdmaaGreatDoor
