/- The contract of the parser's method fault. Blocks of a declaration's 22 cells; the contract of the parser's method configuration. The contract of the parser's method declaration, all but the declaration of faults. -/
import Derived.Test.YtipicaoinnblpaaGreatDoorPkPara
import Derived.Deep.DeepCutAuto
import Derived.Deep.WholeRow
namespace Go.Proofs.YtipicaoinnblpaaGreatDoor
open Go.RowKit

theorem row6 {w : World} {b : Nat} {v0 v1 v2 v3 v4 v5 : Value} {t : TypeId} (h : w.heap[b]? = some (.cells #[v0, v1, v2, v3, v4, v5] t (0, 0))) :
    w.cell? ⟨b, 0, none⟩ = some v0 ∧ w.cell? ⟨b, 1, none⟩ = some v1 ∧ w.cell? ⟨b, 2, none⟩ = some v2 ∧ w.cell? ⟨b, 3, none⟩ = some v3 ∧ w.cell? ⟨b, 4, none⟩ = some v4 ∧ w.cell? ⟨b, 5, none⟩ = some v5 ∧ ∀ i, w.frozen? ⟨b, i, none⟩ = false :=
  ⟨(cell_of_row _ _ _ _ _ _ h).trans rfl, (cell_of_row _ _ _ _ _ _ h).trans rfl, (cell_of_row _ _ _ _ _ _ h).trans rfl, (cell_of_row _ _ _ _ _ _ h).trans rfl, (cell_of_row _ _ _ _ _ _ h).trans rfl, (cell_of_row _ _ _ _ _ _ h).trans rfl, fun i => frozen_of_row _ _ i _ _ h⟩
/-- Six cells stored in a block of six. -/
theorem set6 {w : World} {r : Nat} {o0 o1 o2 o3 o4 o5 : Value} {t : TypeId} (h : w.heap[r]? = some (.cells #[o0, o1, o2, o3, o4, o5] t (0, 0))) (v0 v1 v2 v3 v4 v5 : Value) :
    ((((((w.setCell ⟨r, 0, none⟩ v0).setCell ⟨r, 1, none⟩ v1).setCell ⟨r, 2, none⟩ v2).setCell ⟨r, 3, none⟩ v3).setCell ⟨r, 4, none⟩ v4).setCell ⟨r, 5, none⟩ v5).heap[r]? = some (.cells #[v0, v1, v2, v3, v4, v5] t (0, 0)) ∧
      w.grownBy ((((((w.setCell ⟨r, 0, none⟩ v0).setCell ⟨r, 1, none⟩ v1).setCell ⟨r, 2, none⟩ v2).setCell ⟨r, 3, none⟩ v3).setCell ⟨r, 4, none⟩ v4).setCell ⟨r, 5, none⟩ v5) (some r) :=
  ⟨row_set (row_set (row_set (row_set (row_set (row_set h _) _) _) _) _) _, grown_set (grown_set (grown_set (grown_set (grown_set (grown_set (grown_refl _ _) _ _) _ _) _ _) _ _) _ _) _ _⟩
/-- A fault as the result that lies in a block. -/
theorem ret_fault {fn : Func} {slot : Nat} {R : Ending → World → Prop} {a : Act} {W : World} {r : Nat} {op : Int} {nm : ByteArray} {by_ cr : Int} {bA : Option Addr} {bn bc : Nat} {cA : Option Addr} {cn cc : Nat} (hres : fn.results = #[.cell slot 97]) (hp : a.tmps.getD slot undef = .pointer (some ⟨r, 0, none⟩)) (hd : a.defers = [])
    (hblk : W.heap[r]? = some (.cells #[.int .i64 op, .string nm, .int .i64 by_, .int .i64 cr, .slice bA bn bc, .slice cA cn cc] 97 (0, 0))) (hR : R (.returned (.agg #[.int .i64 op, .string nm, .int .i64 by_, .int .i64 cr, .slice bA bn bc, .slice cA cn cc])) W) : bodyPost Tryz.prog fn R .ret a W := by
  obtain ⟨c0, c1, c2, c3, c4, c5, -⟩ := row6 hblk
  refine bodyPost_ret (v := .agg #[.int .i64 op, .string nm, .int .i64 by_, .int .i64 cr, .slice bA bn bc, .slice cA cn cc]) ?_ hd hR
  have hp' : a.tmps[slot]?.getD undef = .pointer (some ⟨r, 0, none⟩) := by simpa using hp
  simp [results, hres, hp', go_sem, c0, c1, c2, c3, c4, c5]
/-- What fault leaves: it lies in new blocks. -/
def FPost (b : Nat) (A : Option Addr) (n c : Nat) (L : Toks) (ln : Nat → Nat) (w : World) (r : Ft × St) (e : Ending) (w' : World) : Prop :=
  ∃ op nm by_ cr bA bn bc cA cn cc, e = .returned (.agg #[.int .i64 op, .string nm, .int .i64 by_, .int .i64 cr, .slice bA bn bc, .slice cA cn cc]) ∧ FtAt w' (w.heap.size ≤ ·) r.1 (.agg #[.int .i64 op, .string nm, .int .i64 by_, .int .i64 cr, .slice bA bn bc, .slice cA cn cc]) ∧ PSt b A n c L ln r.2 w' ∧ w.grownBy w' (some b)
theorem fault_none {L : Toks} {x : Int} {s : St} (h1 : isW L (⟨#[110, 111, 110, 101]⟩ : ByteArray) s = true) : pFault L x s = (⟨1, bs [], 0, 0, [], []⟩, taken L (⟨#[110, 111, 110, 101]⟩ : ByteArray) s) := by unfold pFault taken; rw [if_pos h1, if_pos h1]
theorem fault_thr {L : Toks} {x : Int} {s : St} (h1 : isW L (⟨#[110, 111, 110, 101]⟩ : ByteArray) s = false) (h2 : isW L (⟨#[116, 104, 114, 101, 115, 104, 111, 108, 100]⟩ : ByteArray) s = true) : pFault L x s = (⟨2, bs [], (pNum L (taken L (⟨#[116, 104, 114, 101, 115, 104, 111, 108, 100]⟩ : ByteArray) s)).1, (pNum L (pNum L (taken L (⟨#[116, 104, 114, 101, 115, 104, 111, 108, 100]⟩ : ByteArray) s)).2).1, [], []⟩, (pNum L (pNum L (taken L (⟨#[116, 104, 114, 101, 115, 104, 111, 108, 100]⟩ : ByteArray) s)).2).2) := by
  unfold pFault taken; rw [h1, if_neg (by simp), if_pos h2, if_pos h2]
theorem fault_byz2 {L : Toks} {x : Int} {s : St} (h1 : isW L (⟨#[110, 111, 110, 101]⟩ : ByteArray) s = false) (h2 : isW L (⟨#[116, 104, 114, 101, 115, 104, 111, 108, 100]⟩ : ByteArray) s = false) (h3 : isW L (⟨#[98, 121, 122]⟩ : ByteArray) s = true) (h4 : isW L (⟨#[99, 114, 97, 115, 104]⟩ : ByteArray) (pBraces L (taken L (⟨#[98, 121, 122]⟩ : ByteArray) s)).2 = true) :
    pFault L x s = (⟨3, bs [], 0, 0, (pBraces L (taken L (⟨#[98, 121, 122]⟩ : ByteArray) s)).1, (pBraces L (taken L (⟨#[99, 114, 97, 115, 104]⟩ : ByteArray) (pBraces L (taken L (⟨#[98, 121, 122]⟩ : ByteArray) s)).2)).1⟩, (pBraces L (taken L (⟨#[99, 114, 97, 115, 104]⟩ : ByteArray) (pBraces L (taken L (⟨#[98, 121, 122]⟩ : ByteArray) s)).2)).2) := by
  have e : taken L (⟨#[98, 121, 122]⟩ : ByteArray) s = adv s := by unfold taken; rw [if_pos h3]
  rw [e] at h4 ⊢
  have e2 : taken L (⟨#[99, 114, 97, 115, 104]⟩ : ByteArray) (pBraces L (adv s)).2 = adv (pBraces L (adv s)).2 := by unfold taken; rw [if_pos h4]
  rw [e2]
  unfold pFault; rw [h1, if_neg (by simp), h2, if_neg (by simp), if_pos h3, if_pos h4]
theorem fault_byz1 {L : Toks} {x : Int} {s : St} (h1 : isW L (⟨#[110, 111, 110, 101]⟩ : ByteArray) s = false) (h2 : isW L (⟨#[116, 104, 114, 101, 115, 104, 111, 108, 100]⟩ : ByteArray) s = false) (h3 : isW L (⟨#[98, 121, 122]⟩ : ByteArray) s = true) (h4 : isW L (⟨#[99, 114, 97, 115, 104]⟩ : ByteArray) (pBraces L (taken L (⟨#[98, 121, 122]⟩ : ByteArray) s)).2 = false) :
    pFault L x s = (⟨3, bs [], 0, 0, (pBraces L (taken L (⟨#[98, 121, 122]⟩ : ByteArray) s)).1, []⟩, (pBraces L (taken L (⟨#[98, 121, 122]⟩ : ByteArray) s)).2) := by
  have e : taken L (⟨#[98, 121, 122]⟩ : ByteArray) s = adv s := by unfold taken; rw [if_pos h3]
  rw [e] at h4 ⊢
  unfold pFault; rw [h1, if_neg (by simp), h2, if_neg (by simp), if_pos h3, h4, if_neg (by simp)]
theorem fault_crash {L : Toks} {x : Int} {s : St} (h1 : isW L (⟨#[110, 111, 110, 101]⟩ : ByteArray) s = false) (h2 : isW L (⟨#[116, 104, 114, 101, 115, 104, 111, 108, 100]⟩ : ByteArray) s = false) (h3 : isW L (⟨#[98, 121, 122]⟩ : ByteArray) s = false) (h4 : isW L (⟨#[99, 114, 97, 115, 104]⟩ : ByteArray) s = true) :
    pFault L x s = (⟨3, bs [], 0, 0, [], (pBraces L (taken L (⟨#[99, 114, 97, 115, 104]⟩ : ByteArray) s)).1⟩, (pBraces L (taken L (⟨#[99, 114, 97, 115, 104]⟩ : ByteArray) s)).2) := by
  unfold pFault taken; rw [h1, if_neg (by simp), h2, if_neg (by simp), h3, if_neg (by simp), if_pos h4, if_pos h4]
theorem fault_site1 {L : Toks} {x : Int} {s : St} (h1 : isW L (⟨#[110, 111, 110, 101]⟩ : ByteArray) s = false) (h2 : isW L (⟨#[116, 104, 114, 101, 115, 104, 111, 108, 100]⟩ : ByteArray) s = false) (h3 : isW L (⟨#[98, 121, 122]⟩ : ByteArray) s = false) (h4 : isW L (⟨#[99, 114, 97, 115, 104]⟩ : ByteArray) s = false) (h5 : isW L (⟨#[115, 105, 116, 101]⟩ : ByteArray) s = true) (h6 : isW L (⟨#[99, 114, 97, 115, 104]⟩ : ByteArray) (pName L (taken L (⟨#[115, 105, 116, 101]⟩ : ByteArray) s)).2 = true) :
    pFault L x s = (⟨5, (pName L (taken L (⟨#[115, 105, 116, 101]⟩ : ByteArray) s)).1, 0, 0, [], []⟩, taken L (⟨#[99, 114, 97, 115, 104]⟩ : ByteArray) (pName L (taken L (⟨#[115, 105, 116, 101]⟩ : ByteArray) s)).2) := by
  have e : taken L (⟨#[115, 105, 116, 101]⟩ : ByteArray) s = adv s := by unfold taken; rw [if_pos h5]
  rw [e] at h6 ⊢
  unfold pFault taken; rw [h1, if_neg (by simp), h2, if_neg (by simp), h3, if_neg (by simp), h4, if_neg (by simp), if_pos h5, if_pos h6, if_pos h6]
theorem fault_site2 {L : Toks} {s : St} (h1 : isW L (⟨#[110, 111, 110, 101]⟩ : ByteArray) s = false) (h2 : isW L (⟨#[116, 104, 114, 101, 115, 104, 111, 108, 100]⟩ : ByteArray) s = false) (h3 : isW L (⟨#[98, 121, 122]⟩ : ByteArray) s = false) (h4 : isW L (⟨#[99, 114, 97, 115, 104]⟩ : ByteArray) s = false) (h5 : isW L (⟨#[115, 105, 116, 101]⟩ : ByteArray) s = true) (h6 : isW L (⟨#[99, 114, 97, 115, 104]⟩ : ByteArray) (pName L (taken L (⟨#[115, 105, 116, 101]⟩ : ByteArray) s)).2 = false) :
    pFault L 4 s = (⟨4, (pName L (taken L (⟨#[115, 105, 116, 101]⟩ : ByteArray) s)).1, 0, 0, [], []⟩, need L (⟨#[98, 121, 122]⟩ : ByteArray) (pName L (taken L (⟨#[115, 105, 116, 101]⟩ : ByteArray) s)).2) := by
  have e : taken L (⟨#[115, 105, 116, 101]⟩ : ByteArray) s = adv s := by unfold taken; rw [if_pos h5]
  rw [e] at h6 ⊢
  unfold pFault need; rw [h1, if_neg (by simp), h2, if_neg (by simp), h3, if_neg (by simp), h4, if_neg (by simp), if_pos h5, h6, if_neg (by simp)]
  split <;> rfl
theorem fault_name {L : Toks} {x : Int} {s : St} (h1 : isW L (⟨#[110, 111, 110, 101]⟩ : ByteArray) s = false) (h2 : isW L (⟨#[116, 104, 114, 101, 115, 104, 111, 108, 100]⟩ : ByteArray) s = false) (h3 : isW L (⟨#[98, 121, 122]⟩ : ByteArray) s = false) (h4 : isW L (⟨#[99, 114, 97, 115, 104]⟩ : ByteArray) s = false) (h5 : isW L (⟨#[115, 105, 116, 101]⟩ : ByteArray) s = false) :
    pFault L x s = (⟨6, (pName L s).1, 0, 0, [], []⟩, (pName L s).2) := by
  unfold pFault; rw [h1, if_neg (by simp), h2, if_neg (by simp), h3, if_neg (by simp), h4, if_neg (by simp), h5, if_neg (by simp)]
theorem ft_plain (w : World) (S : Nat → Prop) (op : Int) (nm : ByteArray) (x y : Int) : FtAt w S ⟨op, nm, x, y, [], []⟩ (.agg #[.int .i64 op, .string nm, .int .i64 x, .int .i64 y, .slice none 0 0, .slice none 0 0]) :=
  ⟨none, 0, none, 0, rfl, .empty _ _ _ _, Nat.le_refl _, .empty _ _ _ _, Nat.le_refl _⟩

set_option maxRecDepth 100000 in
set_option maxHeartbeats 4000000 in
theorem fault_a {b : Nat} {A : Option Addr} {n c : Nat} {L : Toks} {ln : Nat → Nat} {s : St} (w : World) (h : PSt b A n c L ln s w) (h1 : isW L (⟨#[110, 111, 110, 101]⟩ : ByteArray) s = true) :
    Calls Tryz.prog 68 #[.pointer (some ⟨b, 0, none⟩)] w (FPost b A n c L ln w (pFault L 4 s)) := by
  rw [fault_none h1]
  have hbs := h.lt
  have HH := Lib.hid h
  have Hh1 := Lib.hid h1
  clear h h1
  go_enter Tryz.func68, Tryz.ntmps68
  go_wp2_with fail
  obtain ⟨W0, hW0⟩ : ∃ W0 : World, W0 = w.alloc (.cells #[.int .i64 0, .string ⟨#[]⟩, .int .i64 0, .int .i64 0, .slice none 0 0, .slice none 0 0] 97) := ⟨_, rfl⟩
  have hb0 : Below w.heap.size w W0 := by rw [hW0]; exact (Below.refl _ _).alloc (Nat.le_refl _) _
  have hs0 : w.heap.size < W0.heap.size := by rw [hW0]; simp
  have hr0 : W0.heap[w.heap.size]? = some (.cells #[.int .i64 0, .string ⟨#[]⟩, .int .i64 0, .int .i64 0, .slice none 0 0, .slice none 0 0] 97 (0, 0)) := by rw [hW0]; exact heap_alloc_new w _
  rw [← hW0]
  have HR0 := Lib.hid hr0
  clear hW0 hr0
  have q0 := HH.out.below hb0
  have gW0 := grown_refl W0 (some b)
  have z0 := gW0.size
  have ht := take_any (⟨#[110, 111, 110, 101]⟩ : ByteArray) W0 q0
  rw [Hh1.out] at ht
  refine ht.mono ?_
  rintro e W1 ⟨rfl, q1, g1⟩
  have gW1 := grown_trans gW0 g1
  have z1 := gW1.size
  clear ht
  have hrW := grown_block gW1 HR0.out (by omega)
  have HFT := Lib.hid (ft_plain W1 (W0.heap.size ≤ ·) 1 (bs []) 0 0)
  obtain ⟨r0, r1, r2, r3, r4, r5, rf⟩ := row6 hrW
  have rf0 := rf 0
  have rf1 := rf 1
  have rf2 := rf 2
  have rf3 := rf 3
  have rf4 := rf 4
  have rf5 := rf 5
  have HRW := Lib.hid hrW
  clear rf hrW
  go_wp2
  obtain ⟨hbR, hgR⟩ := set6 HRW.out (.int .i64 1) (.string (bs [])) (.int .i64 0) (.int .i64 0) (.slice none 0 0) (.slice none 0 0)
  refine ret_fault rfl rfl rfl hbR ?_
  exact ⟨_, _, _, _, _, _, _, _, _, _, rfl, (HFT.out.keep ((kept_grown hgR).mono fun g hg => by omega)).mono (fun g hg _ => by omega), q1.other (below_grown hgR (Nat.le_refl _) (by omega)) hbs, grown_from (grown_trans (grown_below hb0) gW1) (below_grown hgR (Nat.le_refl _) (by omega)) (Nat.le_refl _)⟩

set_option maxRecDepth 100000 in
set_option maxHeartbeats 4000000 in
theorem fault_b {b : Nat} {A : Option Addr} {n c : Nat} {L : Toks} {ln : Nat → Nat} {s : St} (w : World) (h : PSt b A n c L ln s w) (h1 : isW L (⟨#[110, 111, 110, 101]⟩ : ByteArray) s = false) (h2 : isW L (⟨#[116, 104, 114, 101, 115, 104, 111, 108, 100]⟩ : ByteArray) s = true) :
    Calls Tryz.prog 68 #[.pointer (some ⟨b, 0, none⟩)] w (FPost b A n c L ln w (pFault L 4 s)) := by
  have hbs := h.lt
  have HH := Lib.hid h
  have Hh1 := Lib.hid h1
  have Hh2 := Lib.hid h2
  clear h h1 h2
  go_enter Tryz.func68, Tryz.ntmps68
  go_wp2_with fail
  obtain ⟨W0, hW0⟩ : ∃ W0 : World, W0 = w.alloc (.cells #[.int .i64 0, .string ⟨#[]⟩, .int .i64 0, .int .i64 0, .slice none 0 0, .slice none 0 0] 97) := ⟨_, rfl⟩
  have hb0 : Below w.heap.size w W0 := by rw [hW0]; exact (Below.refl _ _).alloc (Nat.le_refl _) _
  have hs0 : w.heap.size < W0.heap.size := by rw [hW0]; simp
  have hr0 : W0.heap[w.heap.size]? = some (.cells #[.int .i64 0, .string ⟨#[]⟩, .int .i64 0, .int .i64 0, .slice none 0 0, .slice none 0 0] 97 (0, 0)) := by rw [hW0]; exact heap_alloc_new w _
  rw [← hW0]
  have HR0 := Lib.hid hr0
  clear hW0 hr0
  have q0 := HH.out.below hb0
  have gW0 := grown_refl W0 (some b)
  have z0 := gW0.size
  have ht := take_any (⟨#[110, 111, 110, 101]⟩ : ByteArray) W0 q0
  rw [Hh1.out, taken_not Hh1.out] at ht
  refine ht.mono ?_
  rintro e W1 ⟨rfl, q1, g1⟩
  have gW1 := grown_trans gW0 g1
  have z1 := gW1.size
  clear ht
  go_wp2_with fail
  have ht := take_any (⟨#[116, 104, 114, 101, 115, 104, 111, 108, 100]⟩ : ByteArray) W1 q1
  rw [Hh2.out] at ht
  refine ht.mono ?_
  rintro e W2 ⟨rfl, q2, g2⟩
  have gW2 := grown_trans gW1 g2
  have z2 := gW2.size
  clear ht
  go_wp2_with fail
  refine (number_any W2 q2).mono ?_
  rintro e W3 ⟨rfl, q3, g3⟩
  have gW3 := grown_trans gW2 g3
  have z3 := gW3.size
  go_wp2_with fail
  generalize hn1 : (pNum L (taken L (⟨#[116, 104, 114, 101, 115, 104, 111, 108, 100]⟩ : ByteArray) s)).1 = n1
  have HN1 := Lib.hid hn1
  clear hn1
  obtain ⟨Wb, hWb⟩ : ∃ Wb : World, Wb = W3.alloc (.cells #[.int .i64 2, .string ⟨#[]⟩, .int .i64 n1, .int .i64 0, .slice none 0 0, .slice none 0 0] 97) := ⟨_, rfl⟩
  have hbb : Below W3.heap.size W3 Wb := by rw [hWb]; exact (Below.refl _ _).alloc (Nat.le_refl _) _
  have hTb : Wb.heap[W3.heap.size]? = some (.cells #[.int .i64 2, .string ⟨#[]⟩, .int .i64 n1, .int .i64 0, .slice none 0 0, .slice none 0 0] 97 (0, 0)) := by rw [hWb]; exact heap_alloc_new W3 _
  have hsb : W3.heap.size < Wb.heap.size := by rw [hWb]; simp
  rw [← hWb]
  have HTb := Lib.hid hTb
  clear hWb hTb
  have qb := q3.below hbb
  have gWb := grown_trans gW3 (grown_below hbb)
  refine (number_any Wb qb).mono ?_
  rintro e W9 ⟨rfl, q9, g9⟩
  have gW9 := grown_trans gWb g9
  have z9 := g9.size
  have hT9 := grown_block g9 HTb.out (by omega)
  generalize hn2 : (pNum L (pNum L (taken L (⟨#[116, 104, 114, 101, 115, 104, 111, 108, 100]⟩ : ByteArray) s)).2).1 = n2
  have HN2 := Lib.hid hn2
  clear hn2
  obtain ⟨t0, t1, t2, t3, t4, t5, tf⟩ := row6 hT9
  have tf3 := tf 3
  clear tf
  have hgx : W9.grownBy (W9.setCell ⟨W3.heap.size, 3, none⟩ (.int .i64 n2)) (some W3.heap.size) := grown_set (grown_refl _ _) _ _
  have hTx := row_set (i := 3) hT9 (.int .i64 n2)
  have hRx := grown_block gW9 HR0.out (by omega)
  obtain ⟨r0, r1, r2, r3, r4, r5, rf⟩ := row6 hRx
  have rf0 := rf 0
  have rf1 := rf 1
  have rf2 := rf 2
  have rf3 := rf 3
  have rf4 := rf 4
  have rf5 := rf 5
  have HTx := Lib.hid hTx
  have HRx := Lib.hid hRx
  have hTs := lt_of_block hT9
  clear rf hTx hRx hT9
  have HE := Lib.hid (fault_thr (x := 4) Hh1.out Hh2.out)
  rw [HN1.out, HN2.out] at HE
  go_wp2
  obtain ⟨hbR, hgR⟩ := set6 (grown_block hgx HRx.out (by omega)) (.int .i64 2) (.string (bs [])) (.int .i64 n1) (.int .i64 n2) (.slice none 0 0) (.slice none 0 0)
  refine ret_fault rfl rfl rfl hbR ?_
  rw [HE.out]
  have hsx := hgx.size
  exact ⟨_, _, _, _, _, _, _, _, _, _, rfl, ft_plain _ _ _ _ _ _, (q9.other (below_grown hgx (Nat.le_refl _) (by omega)) (by omega)).other (below_grown hgR (Nat.le_refl _) (by omega)) hbs, grown_from (grown_from (grown_trans (grown_below hb0) gW9) (below_grown hgx (Nat.le_refl _) (by omega)) (by omega)) (below_grown hgR (Nat.le_refl _) (by omega)) (Nat.le_refl _)⟩

set_option maxRecDepth 100000 in
set_option maxHeartbeats 4000000 in
theorem fault_d {b : Nat} {A : Option Addr} {n c : Nat} {L : Toks} {ln : Nat → Nat} {s : St} (w : World) (h : PSt b A n c L ln s w) (h1 : isW L (⟨#[110, 111, 110, 101]⟩ : ByteArray) s = false) (h2 : isW L (⟨#[116, 104, 114, 101, 115, 104, 111, 108, 100]⟩ : ByteArray) s = false) (h3 : isW L (⟨#[98, 121, 122]⟩ : ByteArray) s = false) (h4 : isW L (⟨#[99, 114, 97, 115, 104]⟩ : ByteArray) s = true) :
    Calls Tryz.prog 68 #[.pointer (some ⟨b, 0, none⟩)] w (FPost b A n c L ln w (pFault L 4 s)) := by
  rw [fault_crash h1 h2 h3 h4]
  have hbs := h.lt
  have HH := Lib.hid h
  have Hh1 := Lib.hid h1
  have Hh2 := Lib.hid h2
  have Hh3 := Lib.hid h3
  have Hh4 := Lib.hid h4
  clear h h1 h2 h3 h4
  go_enter Tryz.func68, Tryz.ntmps68
  go_wp2_with fail
  obtain ⟨W0, hW0⟩ : ∃ W0 : World, W0 = w.alloc (.cells #[.int .i64 0, .string ⟨#[]⟩, .int .i64 0, .int .i64 0, .slice none 0 0, .slice none 0 0] 97) := ⟨_, rfl⟩
  have hb0 : Below w.heap.size w W0 := by rw [hW0]; exact (Below.refl _ _).alloc (Nat.le_refl _) _
  have hs0 : w.heap.size < W0.heap.size := by rw [hW0]; simp
  have hr0 : W0.heap[w.heap.size]? = some (.cells #[.int .i64 0, .string ⟨#[]⟩, .int .i64 0, .int .i64 0, .slice none 0 0, .slice none 0 0] 97 (0, 0)) := by rw [hW0]; exact heap_alloc_new w _
  rw [← hW0]
  have HR0 := Lib.hid hr0
  clear hW0 hr0
  have q0 := HH.out.below hb0
  have gW0 := grown_refl W0 (some b)
  have z0 := gW0.size
  have ht := take_any (⟨#[110, 111, 110, 101]⟩ : ByteArray) W0 q0
  rw [Hh1.out, taken_not Hh1.out] at ht
  refine ht.mono ?_
  rintro e W1 ⟨rfl, q1, g1⟩
  have gW1 := grown_trans gW0 g1
  have z1 := gW1.size
  clear ht
  go_wp2_with fail
  have ht := take_any (⟨#[116, 104, 114, 101, 115, 104, 111, 108, 100]⟩ : ByteArray) W1 q1
  rw [Hh2.out, taken_not Hh2.out] at ht
  refine ht.mono ?_
  rintro e W2 ⟨rfl, q2, g2⟩
  have gW2 := grown_trans gW1 g2
  have z2 := gW2.size
  clear ht
  go_wp2_with fail
  have ht := take_any (⟨#[98, 121, 122]⟩ : ByteArray) W2 q2
  rw [Hh3.out, taken_not Hh3.out] at ht
  refine ht.mono ?_
  rintro e W3 ⟨rfl, q3, g3⟩
  have gW3 := grown_trans gW2 g3
  have z3 := gW3.size
  clear ht
  go_wp2_with fail
  have ht := take_any (⟨#[99, 114, 97, 115, 104]⟩ : ByteArray) W3 q3
  rw [Hh4.out] at ht
  refine ht.mono ?_
  rintro e W4 ⟨rfl, q4, g4⟩
  have gW4 := grown_trans gW3 g4
  have z4 := gW4.size
  clear ht
  go_wp2_with fail
  refine (braces_any W4 q4).mono ?_
  rintro e W5 ⟨v, rfl, hown, q5, g5⟩
  have gW5 := grown_trans gW4 g5
  have z5 := gW5.size
  obtain ⟨cA, cc, rfl, hcc⟩ := own_slice hown
  have HFT : Hid (FtAt W5 (W4.heap.size ≤ ·) ⟨3, bs [], 0, 0, [], (pBraces L (taken L (⟨#[99, 114, 97, 115, 104]⟩ : ByteArray) s)).1⟩ (.agg #[.int .i64 3, .string (bs []), .int .i64 0, .int .i64 0, .slice none 0 0, .slice cA (pBraces L (taken L (⟨#[99, 114, 97, 115, 104]⟩ : ByteArray) s)).1.length cc])) := ⟨none, 0, cA, cc, rfl, .empty _ _ _ _, Nat.le_refl _, SeesIn.own hown, hcc⟩
  have hrW := grown_block gW5 HR0.out (by omega)
  clear hown hcc
  obtain ⟨r0, r1, r2, r3, r4, r5, rf⟩ := row6 hrW
  have rf0 := rf 0
  have rf1 := rf 1
  have rf2 := rf 2
  have rf3 := rf 3
  have rf4 := rf 4
  have rf5 := rf 5
  have HRW := Lib.hid hrW
  clear rf hrW
  go_wp2
  obtain ⟨hbR, hgR⟩ := set6 HRW.out (.int .i64 3) (.string (bs [])) (.int .i64 0) (.int .i64 0) (.slice none 0 0) (.slice cA (pBraces L (taken L (⟨#[99, 114, 97, 115, 104]⟩ : ByteArray) s)).1.length cc)
  refine ret_fault rfl rfl rfl hbR ?_
  exact ⟨_, _, _, _, _, _, _, _, _, _, rfl, (HFT.out.keep ((kept_grown hgR).mono fun g hg => by omega)).mono (fun g hg _ => by omega), q5.other (below_grown hgR (Nat.le_refl _) (by omega)) hbs, grown_from (grown_trans (grown_below hb0) gW5) (below_grown hgR (Nat.le_refl _) (by omega)) (Nat.le_refl _)⟩

set_option maxRecDepth 100000 in
set_option maxHeartbeats 4000000 in
theorem fault_f {b : Nat} {A : Option Addr} {n c : Nat} {L : Toks} {ln : Nat → Nat} {s : St} (w : World) (h : PSt b A n c L ln s w) (h1 : isW L (⟨#[110, 111, 110, 101]⟩ : ByteArray) s = false) (h2 : isW L (⟨#[116, 104, 114, 101, 115, 104, 111, 108, 100]⟩ : ByteArray) s = false) (h3 : isW L (⟨#[98, 121, 122]⟩ : ByteArray) s = false) (h4 : isW L (⟨#[99, 114, 97, 115, 104]⟩ : ByteArray) s = false) (h5 : isW L (⟨#[115, 105, 116, 101]⟩ : ByteArray) s = false) :
    Calls Tryz.prog 68 #[.pointer (some ⟨b, 0, none⟩)] w (FPost b A n c L ln w (pFault L 4 s)) := by
  rw [fault_name h1 h2 h3 h4 h5]
  have hbs := h.lt
  have HH := Lib.hid h
  have Hh1 := Lib.hid h1
  have Hh2 := Lib.hid h2
  have Hh3 := Lib.hid h3
  have Hh4 := Lib.hid h4
  have Hh5 := Lib.hid h5
  clear h h1 h2 h3 h4 h5
  go_enter Tryz.func68, Tryz.ntmps68
  go_wp2_with fail
  obtain ⟨W0, hW0⟩ : ∃ W0 : World, W0 = w.alloc (.cells #[.int .i64 0, .string ⟨#[]⟩, .int .i64 0, .int .i64 0, .slice none 0 0, .slice none 0 0] 97) := ⟨_, rfl⟩
  have hb0 : Below w.heap.size w W0 := by rw [hW0]; exact (Below.refl _ _).alloc (Nat.le_refl _) _
  have hs0 : w.heap.size < W0.heap.size := by rw [hW0]; simp
  have hr0 : W0.heap[w.heap.size]? = some (.cells #[.int .i64 0, .string ⟨#[]⟩, .int .i64 0, .int .i64 0, .slice none 0 0, .slice none 0 0] 97 (0, 0)) := by rw [hW0]; exact heap_alloc_new w _
  rw [← hW0]
  have HR0 := Lib.hid hr0
  clear hW0 hr0
  have q0 := HH.out.below hb0
  have gW0 := grown_refl W0 (some b)
  have z0 := gW0.size
  have ht := take_any (⟨#[110, 111, 110, 101]⟩ : ByteArray) W0 q0
  rw [Hh1.out, taken_not Hh1.out] at ht
  refine ht.mono ?_
  rintro e W1 ⟨rfl, q1, g1⟩
  have gW1 := grown_trans gW0 g1
  have z1 := gW1.size
  clear ht
  go_wp2_with fail
  have ht := take_any (⟨#[116, 104, 114, 101, 115, 104, 111, 108, 100]⟩ : ByteArray) W1 q1
  rw [Hh2.out, taken_not Hh2.out] at ht
  refine ht.mono ?_
  rintro e W2 ⟨rfl, q2, g2⟩
  have gW2 := grown_trans gW1 g2
  have z2 := gW2.size
  clear ht
  go_wp2_with fail
  have ht := take_any (⟨#[98, 121, 122]⟩ : ByteArray) W2 q2
  rw [Hh3.out, taken_not Hh3.out] at ht
  refine ht.mono ?_
  rintro e W3 ⟨rfl, q3, g3⟩
  have gW3 := grown_trans gW2 g3
  have z3 := gW3.size
  clear ht
  go_wp2_with fail
  have ht := take_any (⟨#[99, 114, 97, 115, 104]⟩ : ByteArray) W3 q3
  rw [Hh4.out, taken_not Hh4.out] at ht
  refine ht.mono ?_
  rintro e W4 ⟨rfl, q4, g4⟩
  have gW4 := grown_trans gW3 g4
  have z4 := gW4.size
  clear ht
  go_wp2_with fail
  have ht := take_any (⟨#[115, 105, 116, 101]⟩ : ByteArray) W4 q4
  rw [Hh5.out, taken_not Hh5.out] at ht
  refine ht.mono ?_
  rintro e W5 ⟨rfl, q5, g5⟩
  have gW5 := grown_trans gW4 g5
  have z5 := gW5.size
  clear ht
  go_wp2_with fail
  refine (name_any W5 q5).mono ?_
  rintro e W6 ⟨rfl, q6, g6⟩
  have gW6 := grown_trans gW5 g6
  have z6 := gW6.size
  have hrW := grown_block gW6 HR0.out (by omega)
  have HFT := Lib.hid (ft_plain W6 (W0.heap.size ≤ ·) 6 (pName L s).1 0 0)
  obtain ⟨r0, r1, r2, r3, r4, r5, rf⟩ := row6 hrW
  have rf0 := rf 0
  have rf1 := rf 1
  have rf2 := rf 2
  have rf3 := rf 3
  have rf4 := rf 4
  have rf5 := rf 5
  have HRW := Lib.hid hrW
  clear rf hrW
  go_wp2
  obtain ⟨hbR, hgR⟩ := set6 HRW.out (.int .i64 6) (.string (pName L s).1) (.int .i64 0) (.int .i64 0) (.slice none 0 0) (.slice none 0 0)
  refine ret_fault rfl rfl rfl hbR ?_
  exact ⟨_, _, _, _, _, _, _, _, _, _, rfl, (HFT.out.keep ((kept_grown hgR).mono fun g hg => by omega)).mono (fun g hg _ => by omega), q6.other (below_grown hgR (Nat.le_refl _) (by omega)) hbs, grown_from (grown_trans (grown_below hb0) gW6) (below_grown hgR (Nat.le_refl _) (by omega)) (Nat.le_refl _)⟩

set_option maxRecDepth 100000 in
set_option maxHeartbeats 4000000 in
theorem fault_e {b : Nat} {A : Option Addr} {n c : Nat} {L : Toks} {ln : Nat → Nat} {s : St} (w : World) (h : PSt b A n c L ln s w) (h1 : isW L (⟨#[110, 111, 110, 101]⟩ : ByteArray) s = false) (h2 : isW L (⟨#[116, 104, 114, 101, 115, 104, 111, 108, 100]⟩ : ByteArray) s = false) (h3 : isW L (⟨#[98, 121, 122]⟩ : ByteArray) s = false) (h4 : isW L (⟨#[99, 114, 97, 115, 104]⟩ : ByteArray) s = false) (h5 : isW L (⟨#[115, 105, 116, 101]⟩ : ByteArray) s = true) (h6 : isW L (⟨#[99, 114, 97, 115, 104]⟩ : ByteArray) (pName L (taken L (⟨#[115, 105, 116, 101]⟩ : ByteArray) s)).2 = true) :
    Calls Tryz.prog 68 #[.pointer (some ⟨b, 0, none⟩)] w (FPost b A n c L ln w (pFault L 4 s)) := by
  have hbs := h.lt
  have HH := Lib.hid h
  have Hh1 := Lib.hid h1
  have Hh2 := Lib.hid h2
  have Hh3 := Lib.hid h3
  have Hh4 := Lib.hid h4
  have Hh5 := Lib.hid h5
  have Hh6 := Lib.hid h6
  clear h h1 h2 h3 h4 h5 h6
  go_enter Tryz.func68, Tryz.ntmps68
  go_wp2_with fail
  obtain ⟨W0, hW0⟩ : ∃ W0 : World, W0 = w.alloc (.cells #[.int .i64 0, .string ⟨#[]⟩, .int .i64 0, .int .i64 0, .slice none 0 0, .slice none 0 0] 97) := ⟨_, rfl⟩
  have hb0 : Below w.heap.size w W0 := by rw [hW0]; exact (Below.refl _ _).alloc (Nat.le_refl _) _
  have hs0 : w.heap.size < W0.heap.size := by rw [hW0]; simp
  have hr0 : W0.heap[w.heap.size]? = some (.cells #[.int .i64 0, .string ⟨#[]⟩, .int .i64 0, .int .i64 0, .slice none 0 0, .slice none 0 0] 97 (0, 0)) := by rw [hW0]; exact heap_alloc_new w _
  rw [← hW0]
  have HR0 := Lib.hid hr0
  clear hW0 hr0
  have q0 := HH.out.below hb0
  have gW0 := grown_refl W0 (some b)
  have z0 := gW0.size
  have ht := take_any (⟨#[110, 111, 110, 101]⟩ : ByteArray) W0 q0
  rw [Hh1.out, taken_not Hh1.out] at ht
  refine ht.mono ?_
  rintro e W1 ⟨rfl, q1, g1⟩
  have gW1 := grown_trans gW0 g1
  have z1 := gW1.size
  clear ht
  go_wp2_with fail
  have ht := take_any (⟨#[116, 104, 114, 101, 115, 104, 111, 108, 100]⟩ : ByteArray) W1 q1
  rw [Hh2.out, taken_not Hh2.out] at ht
  refine ht.mono ?_
  rintro e W2 ⟨rfl, q2, g2⟩
  have gW2 := grown_trans gW1 g2
  have z2 := gW2.size
  clear ht
  go_wp2_with fail
  have ht := take_any (⟨#[98, 121, 122]⟩ : ByteArray) W2 q2
  rw [Hh3.out, taken_not Hh3.out] at ht
  refine ht.mono ?_
  rintro e W3 ⟨rfl, q3, g3⟩
  have gW3 := grown_trans gW2 g3
  have z3 := gW3.size
  clear ht
  go_wp2_with fail
  have ht := take_any (⟨#[99, 114, 97, 115, 104]⟩ : ByteArray) W3 q3
  rw [Hh4.out, taken_not Hh4.out] at ht
  refine ht.mono ?_
  rintro e W4 ⟨rfl, q4, g4⟩
  have gW4 := grown_trans gW3 g4
  have z4 := gW4.size
  clear ht
  go_wp2_with fail
  have ht := take_any (⟨#[115, 105, 116, 101]⟩ : ByteArray) W4 q4
  rw [Hh5.out] at ht
  refine ht.mono ?_
  rintro e W5 ⟨rfl, q5, g5⟩
  have gW5 := grown_trans gW4 g5
  have z5 := gW5.size
  clear ht
  go_wp2_with fail
  refine (name_any W5 q5).mono ?_
  rintro e W6 ⟨rfl, q6, g6⟩
  have gW6 := grown_trans gW5 g6
  have z6 := gW6.size
  go_wp2_with fail
  generalize hnm : (pName L (taken L (⟨#[115, 105, 116, 101]⟩ : ByteArray) s)).1 = nm at *
  have HNM := Lib.hid hnm
  clear hnm
  obtain ⟨Wb, hWb⟩ : ∃ Wb : World, Wb = W6.alloc (.cells #[.int .i64 4, .string nm, .int .i64 0, .int .i64 0, .slice none 0 0, .slice none 0 0] 97) := ⟨_, rfl⟩
  have hbb : Below W6.heap.size W6 Wb := by rw [hWb]; exact (Below.refl _ _).alloc (Nat.le_refl _) _
  have hTb : Wb.heap[W6.heap.size]? = some (.cells #[.int .i64 4, .string nm, .int .i64 0, .int .i64 0, .slice none 0 0, .slice none 0 0] 97 (0, 0)) := by rw [hWb]; exact heap_alloc_new W6 _
  have hsb : W6.heap.size < Wb.heap.size := by rw [hWb]; simp
  rw [← hWb]
  have HTb := Lib.hid hTb
  clear hWb hTb
  have qb := q6.below hbb
  have gWb := grown_trans gW6 (grown_below hbb)
  have ht := take_any (⟨#[99, 114, 97, 115, 104]⟩ : ByteArray) Wb qb
  rw [Hh6.out] at ht
  refine ht.mono ?_
  rintro e W9 ⟨rfl, q9, g9⟩
  clear ht
  have gW9 := grown_trans gWb g9
  have z9 := g9.size
  have hT9 := grown_block g9 HTb.out (by omega)
  obtain ⟨t0, t1, t2, t3, t4, t5, tf⟩ := row6 hT9
  have tf0 := tf 0
  clear tf
  have hgx : W9.grownBy (W9.setCell ⟨W6.heap.size, 0, none⟩ (.int .i64 5)) (some W6.heap.size) := grown_set (grown_refl _ _) _ _
  have hRx := grown_block gW9 HR0.out (by omega)
  obtain ⟨r0, r1, r2, r3, r4, r5, rf⟩ := row6 hRx
  have rf0 := rf 0
  have rf1 := rf 1
  have rf2 := rf 2
  have rf3 := rf 3
  have rf4 := rf 4
  have rf5 := rf 5
  have HRx := Lib.hid hRx
  have hTs := lt_of_block hT9
  clear rf hRx hT9
  have HE := Lib.hid (fault_site1 (x := 4) Hh1.out Hh2.out Hh3.out Hh4.out Hh5.out Hh6.out)
  rw [HNM.out] at HE
  go_wp2
  obtain ⟨hbR, hgR⟩ := set6 (grown_block hgx HRx.out (by omega)) (.int .i64 5) (.string nm) (.int .i64 0) (.int .i64 0) (.slice none 0 0) (.slice none 0 0)
  refine ret_fault rfl rfl rfl hbR ?_
  rw [HE.out]
  have hsx := hgx.size
  exact ⟨_, _, _, _, _, _, _, _, _, _, rfl, ft_plain _ _ _ _ _ _, (q9.other (below_grown hgx (Nat.le_refl _) (by omega)) (by omega)).other (below_grown hgR (Nat.le_refl _) (by omega)) hbs, grown_from (grown_from (grown_trans (grown_below hb0) gW9) (below_grown hgx (Nat.le_refl _) (by omega)) (by omega)) (below_grown hgR (Nat.le_refl _) (by omega)) (Nat.le_refl _)⟩

set_option maxRecDepth 100000 in
set_option maxHeartbeats 4000000 in
theorem fault_g {b : Nat} {A : Option Addr} {n c : Nat} {L : Toks} {ln : Nat → Nat} {s : St} (w : World) (h : PSt b A n c L ln s w) (h1 : isW L (⟨#[110, 111, 110, 101]⟩ : ByteArray) s = false) (h2 : isW L (⟨#[116, 104, 114, 101, 115, 104, 111, 108, 100]⟩ : ByteArray) s = false) (h3 : isW L (⟨#[98, 121, 122]⟩ : ByteArray) s = false) (h4 : isW L (⟨#[99, 114, 97, 115, 104]⟩ : ByteArray) s = false) (h5 : isW L (⟨#[115, 105, 116, 101]⟩ : ByteArray) s = true) (h6 : isW L (⟨#[99, 114, 97, 115, 104]⟩ : ByteArray) (pName L (taken L (⟨#[115, 105, 116, 101]⟩ : ByteArray) s)).2 = false) :
    Calls Tryz.prog 68 #[.pointer (some ⟨b, 0, none⟩)] w (FPost b A n c L ln w (pFault L 4 s)) := by
  have hbs := h.lt
  have HH := Lib.hid h
  have Hh1 := Lib.hid h1
  have Hh2 := Lib.hid h2
  have Hh3 := Lib.hid h3
  have Hh4 := Lib.hid h4
  have Hh5 := Lib.hid h5
  have Hh6 := Lib.hid h6
  clear h h1 h2 h3 h4 h5 h6
  go_enter Tryz.func68, Tryz.ntmps68
  go_wp2_with fail
  obtain ⟨W0, hW0⟩ : ∃ W0 : World, W0 = w.alloc (.cells #[.int .i64 0, .string ⟨#[]⟩, .int .i64 0, .int .i64 0, .slice none 0 0, .slice none 0 0] 97) := ⟨_, rfl⟩
  have hb0 : Below w.heap.size w W0 := by rw [hW0]; exact (Below.refl _ _).alloc (Nat.le_refl _) _
  have hs0 : w.heap.size < W0.heap.size := by rw [hW0]; simp
  have hr0 : W0.heap[w.heap.size]? = some (.cells #[.int .i64 0, .string ⟨#[]⟩, .int .i64 0, .int .i64 0, .slice none 0 0, .slice none 0 0] 97 (0, 0)) := by rw [hW0]; exact heap_alloc_new w _
  rw [← hW0]
  have HR0 := Lib.hid hr0
  clear hW0 hr0
  have q0 := HH.out.below hb0
  have gW0 := grown_refl W0 (some b)
  have z0 := gW0.size
  have ht := take_any (⟨#[110, 111, 110, 101]⟩ : ByteArray) W0 q0
  rw [Hh1.out, taken_not Hh1.out] at ht
  refine ht.mono ?_
  rintro e W1 ⟨rfl, q1, g1⟩
  have gW1 := grown_trans gW0 g1
  have z1 := gW1.size
  clear ht
  go_wp2_with fail
  have ht := take_any (⟨#[116, 104, 114, 101, 115, 104, 111, 108, 100]⟩ : ByteArray) W1 q1
  rw [Hh2.out, taken_not Hh2.out] at ht
  refine ht.mono ?_
  rintro e W2 ⟨rfl, q2, g2⟩
  have gW2 := grown_trans gW1 g2
  have z2 := gW2.size
  clear ht
  go_wp2_with fail
  have ht := take_any (⟨#[98, 121, 122]⟩ : ByteArray) W2 q2
  rw [Hh3.out, taken_not Hh3.out] at ht
  refine ht.mono ?_
  rintro e W3 ⟨rfl, q3, g3⟩
  have gW3 := grown_trans gW2 g3
  have z3 := gW3.size
  clear ht
  go_wp2_with fail
  have ht := take_any (⟨#[99, 114, 97, 115, 104]⟩ : ByteArray) W3 q3
  rw [Hh4.out, taken_not Hh4.out] at ht
  refine ht.mono ?_
  rintro e W4 ⟨rfl, q4, g4⟩
  have gW4 := grown_trans gW3 g4
  have z4 := gW4.size
  clear ht
  go_wp2_with fail
  have ht := take_any (⟨#[115, 105, 116, 101]⟩ : ByteArray) W4 q4
  rw [Hh5.out] at ht
  refine ht.mono ?_
  rintro e W5 ⟨rfl, q5, g5⟩
  have gW5 := grown_trans gW4 g5
  have z5 := gW5.size
  clear ht
  go_wp2_with fail
  refine (name_any W5 q5).mono ?_
  rintro e W6 ⟨rfl, q6, g6⟩
  have gW6 := grown_trans gW5 g6
  have z6 := gW6.size
  go_wp2_with fail
  generalize hnm : (pName L (taken L (⟨#[115, 105, 116, 101]⟩ : ByteArray) s)).1 = nm at *
  have HNM := Lib.hid hnm
  clear hnm
  obtain ⟨Wb, hWb⟩ : ∃ Wb : World, Wb = W6.alloc (.cells #[.int .i64 4, .string nm, .int .i64 0, .int .i64 0, .slice none 0 0, .slice none 0 0] 97) := ⟨_, rfl⟩
  have hbb : Below W6.heap.size W6 Wb := by rw [hWb]; exact (Below.refl _ _).alloc (Nat.le_refl _) _
  have hTb : Wb.heap[W6.heap.size]? = some (.cells #[.int .i64 4, .string nm, .int .i64 0, .int .i64 0, .slice none 0 0, .slice none 0 0] 97 (0, 0)) := by rw [hWb]; exact heap_alloc_new W6 _
  have hsb : W6.heap.size < Wb.heap.size := by rw [hWb]; simp
  rw [← hWb]
  have HTb := Lib.hid hTb
  clear hWb hTb
  have qb := q6.below hbb
  have gWb := grown_trans gW6 (grown_below hbb)
  have ht := take_any (⟨#[99, 114, 97, 115, 104]⟩ : ByteArray) Wb qb
  rw [Hh6.out, taken_not Hh6.out] at ht
  refine ht.mono ?_
  rintro e W9 ⟨rfl, q9, g9⟩
  clear ht
  have gW9 := grown_trans gWb g9
  have z9 := g9.size
  have hT9 := grown_block g9 HTb.out (by omega)
  have HE := Lib.hid (fault_site2 Hh1.out Hh2.out Hh3.out Hh4.out Hh5.out Hh6.out)
  rw [HNM.out] at HE
  go_wp2_with fail
  refine (need_any (⟨#[98, 121, 122]⟩ : ByteArray) _ (q9.below ((Below.refl _ _).alloc (Nat.le_refl _) _)) (heap_alloc_new W9 _) (by omega)).mono ?_
  rintro e Wc ⟨rfl, qc, gc⟩
  have gc' := grown_trans (grown_alloc (grown_refl W9 (some b)) _) gc
  have gWc := grown_trans gW9 gc'
  have zc := gc'.size
  have hrW := grown_block gWc HR0.out (by omega)
  have HFT := Lib.hid (ft_plain Wc (W0.heap.size ≤ ·) 4 nm 0 0)
  obtain ⟨t0, t1, t2, t3, t4, t5, tf⟩ := row6 (grown_block gc' hT9 (by omega))
  clear tf
  obtain ⟨r0, r1, r2, r3, r4, r5, rf⟩ := row6 hrW
  have rf0 := rf 0
  have rf1 := rf 1
  have rf2 := rf 2
  have rf3 := rf 3
  have rf4 := rf 4
  have rf5 := rf 5
  have HRW := Lib.hid hrW
  clear rf hrW
  go_wp2
  obtain ⟨hbR, hgR⟩ := set6 HRW.out (.int .i64 4) (.string nm) (.int .i64 0) (.int .i64 0) (.slice none 0 0) (.slice none 0 0)
  refine ret_fault rfl rfl rfl hbR ?_
  rw [HE.out]
  exact ⟨_, _, _, _, _, _, _, _, _, _, rfl, (HFT.out.keep ((kept_grown hgR).mono fun g hg => by omega)).mono (fun g hg _ => by omega), qc.other (below_grown hgR (Nat.le_refl _) (by omega)) hbs, grown_from (grown_trans (grown_below hb0) gWc) (below_grown hgR (Nat.le_refl _) (by omega)) (Nat.le_refl _)⟩

set_option maxRecDepth 100000 in
set_option maxHeartbeats 4000000 in
theorem fault_c {b : Nat} {A : Option Addr} {n c : Nat} {L : Toks} {ln : Nat → Nat} {s : St} (w : World) (h : PSt b A n c L ln s w) (h1 : isW L (⟨#[110, 111, 110, 101]⟩ : ByteArray) s = false) (h2 : isW L (⟨#[116, 104, 114, 101, 115, 104, 111, 108, 100]⟩ : ByteArray) s = false) (h3 : isW L (⟨#[98, 121, 122]⟩ : ByteArray) s = true) (h4 : isW L (⟨#[99, 114, 97, 115, 104]⟩ : ByteArray) (pBraces L (taken L (⟨#[98, 121, 122]⟩ : ByteArray) s)).2 = true) :
    Calls Tryz.prog 68 #[.pointer (some ⟨b, 0, none⟩)] w (FPost b A n c L ln w (pFault L 4 s)) := by
  have hbs := h.lt
  have HH := Lib.hid h
  have Hh1 := Lib.hid h1
  have Hh2 := Lib.hid h2
  have Hh3 := Lib.hid h3
  have Hh4 := Lib.hid h4
  clear h h1 h2 h3 h4
  go_enter Tryz.func68, Tryz.ntmps68
  go_wp2_with fail
  obtain ⟨W0, hW0⟩ : ∃ W0 : World, W0 = w.alloc (.cells #[.int .i64 0, .string ⟨#[]⟩, .int .i64 0, .int .i64 0, .slice none 0 0, .slice none 0 0] 97) := ⟨_, rfl⟩
  have hb0 : Below w.heap.size w W0 := by rw [hW0]; exact (Below.refl _ _).alloc (Nat.le_refl _) _
  have hs0 : w.heap.size < W0.heap.size := by rw [hW0]; simp
  have hr0 : W0.heap[w.heap.size]? = some (.cells #[.int .i64 0, .string ⟨#[]⟩, .int .i64 0, .int .i64 0, .slice none 0 0, .slice none 0 0] 97 (0, 0)) := by rw [hW0]; exact heap_alloc_new w _
  rw [← hW0]
  have HR0 := Lib.hid hr0
  clear hW0 hr0
  have q0 := HH.out.below hb0
  have gW0 := grown_refl W0 (some b)
  have z0 := gW0.size
  have ht := take_any (⟨#[110, 111, 110, 101]⟩ : ByteArray) W0 q0
  rw [Hh1.out, taken_not Hh1.out] at ht
  refine ht.mono ?_
  rintro e W1 ⟨rfl, q1, g1⟩
  have gW1 := grown_trans gW0 g1
  have z1 := gW1.size
  clear ht
  go_wp2_with fail
  have ht := take_any (⟨#[116, 104, 114, 101, 115, 104, 111, 108, 100]⟩ : ByteArray) W1 q1
  rw [Hh2.out, taken_not Hh2.out] at ht
  refine ht.mono ?_
  rintro e W2 ⟨rfl, q2, g2⟩
  have gW2 := grown_trans gW1 g2
  have z2 := gW2.size
  clear ht
  go_wp2_with fail
  have ht := take_any (⟨#[98, 121, 122]⟩ : ByteArray) W2 q2
  rw [Hh3.out] at ht
  refine ht.mono ?_
  rintro e W3 ⟨rfl, q3, g3⟩
  have gW3 := grown_trans gW2 g3
  have z3 := gW3.size
  clear ht
  go_wp2_with fail
  refine (braces_any W3 q3).mono ?_
  rintro e W4 ⟨v, rfl, hown, q4, g4⟩
  have gW4 := grown_trans gW3 g4
  have z4 := gW4.size
  obtain ⟨bA, bc, rfl, hbc⟩ := own_slice hown
  have hsee := (SeesIn.own hown).mono (S' := fun g => W3.heap.size ≤ g ∧ g < W4.heap.size) (fun g h1 h2 => ⟨h1, h2⟩) (by decide)
  clear hown
  go_wp2_with fail
  obtain ⟨Wb, hWb⟩ : ∃ Wb : World, Wb = W4.alloc (.cells #[.int .i64 3, .string ⟨#[]⟩, .int .i64 0, .int .i64 0, .slice bA (pBraces L (taken L (⟨#[98, 121, 122]⟩ : ByteArray) s)).1.length bc, .slice none 0 0] 97) := ⟨_, rfl⟩
  have hbb : Below W4.heap.size W4 Wb := by rw [hWb]; exact (Below.refl _ _).alloc (Nat.le_refl _) _
  have hTb : Wb.heap[W4.heap.size]? = some (.cells #[.int .i64 3, .string ⟨#[]⟩, .int .i64 0, .int .i64 0, .slice bA (pBraces L (taken L (⟨#[98, 121, 122]⟩ : ByteArray) s)).1.length bc, .slice none 0 0] 97 (0, 0)) := by rw [hWb]; exact heap_alloc_new W4 _
  have hsb : W4.heap.size < Wb.heap.size := by rw [hWb]; simp
  rw [← hWb]
  have HTb := Lib.hid hTb
  clear hWb hTb
  have qb := q4.below hbb
  have gWb := grown_trans gW4 (grown_below hbb)
  have ht := take_any (⟨#[99, 114, 97, 115, 104]⟩ : ByteArray) Wb qb
  rw [Hh4.out] at ht
  refine ht.mono ?_
  rintro e W9 ⟨rfl, q9, g9⟩
  clear ht
  have gW9 := grown_trans gWb g9
  have z9 := g9.size
  have hT9 := grown_block g9 HTb.out (by omega)
  have hsee9 : SeesIn W9 (fun g => W3.heap.size ≤ g ∧ g < W4.heap.size) 1 bA (pBraces L (taken L (⟨#[98, 121, 122]⟩ : ByteArray) s)).1.length (((pBraces L (taken L (⟨#[98, 121, 122]⟩ : ByteArray) s)).1).map Value.string) := (SeesIn.keep hsee (kept_all hbb)).keep ((kept_grown g9).mono fun g hg => by omega)
  clear hsee
  have HE := Lib.hid (fault_byz2 (x := 4) Hh1.out Hh2.out Hh3.out Hh4.out)
  go_wp2_with fail
  refine (braces_any W9 q9).mono ?_
  rintro e Wc ⟨v, rfl, hown, qc, gc⟩
  obtain ⟨cA, cc, rfl, hcc⟩ := own_slice hown
  have gWc := grown_trans gW9 gc
  have zc := gc.size
  have hTc := grown_block gc hT9 (by omega)
  have hseeb := hsee9.keep ((kept_grown gc).mono fun g hg => by omega)
  have hseec := SeesIn.own hown
  generalize hcn : (pBraces L (taken L (⟨#[99, 114, 97, 115, 104]⟩ : ByteArray) (pBraces L (taken L (⟨#[98, 121, 122]⟩ : ByteArray) s)).2)).1 = cn at *
  generalize hbn : (pBraces L (taken L (⟨#[98, 121, 122]⟩ : ByteArray) s)).1 = bn at *
  have HCN := Lib.hid hcn
  have HBN := Lib.hid hbn
  clear hcn hbn hown hsee9
  obtain ⟨t0, t1, t2, t3, t4, t5, tf⟩ := row6 hTc
  have tf5 := tf 5
  clear tf
  have hgx : Wc.grownBy (Wc.setCell ⟨W4.heap.size, 5, none⟩ (.slice cA cn.length cc)) (some W4.heap.size) := grown_set (grown_refl _ _) _ _
  have hRx := grown_block gWc HR0.out (by omega)
  obtain ⟨r0, r1, r2, r3, r4, r5, rf⟩ := row6 hRx
  have rf0 := rf 0
  have rf1 := rf 1
  have rf2 := rf 2
  have rf3 := rf 3
  have rf4 := rf 4
  have rf5 := rf 5
  have HRx := Lib.hid hRx
  have hTs := lt_of_block hTc
  clear rf hRx hTc
  go_wp2
  obtain ⟨hbR, hgR⟩ := set6 (grown_block hgx HRx.out (by omega)) (.int .i64 3) (.string (bs [])) (.int .i64 0) (.int .i64 0) (.slice bA bn.length bc) (.slice cA cn.length cc)
  refine ret_fault rfl rfl rfl hbR ?_
  rw [HE.out]
  have hsx := hgx.size
  refine ⟨_, _, _, _, _, _, _, _, _, _, rfl, ⟨bA, bc, cA, cc, rfl, ?_, hbc, ?_, hcc⟩, (qc.other (below_grown hgx (Nat.le_refl _) (by omega)) (by omega)).other (below_grown hgR (Nat.le_refl _) (by omega)) hbs, grown_from (grown_from (grown_trans (grown_below hb0) gWc) (below_grown hgx (Nat.le_refl _) (by omega)) (by omega)) (below_grown hgR (Nat.le_refl _) (by omega)) (Nat.le_refl _)⟩
  · exact ((hseeb.keep ((kept_grown hgx).mono fun g hg => by omega)).keep ((kept_grown hgR).mono fun g hg => by omega)).mono (fun g hg _ => by omega) (by decide)
  · exact ((SeesIn.keep hseec ((kept_grown hgx).mono fun g hg => by omega)).keep ((kept_grown hgR).mono fun g hg => by omega)).mono (fun g hg _ => by omega) (by decide)

set_option maxRecDepth 100000 in
set_option maxHeartbeats 4000000 in
theorem fault_h {b : Nat} {A : Option Addr} {n c : Nat} {L : Toks} {ln : Nat → Nat} {s : St} (w : World) (h : PSt b A n c L ln s w) (h1 : isW L (⟨#[110, 111, 110, 101]⟩ : ByteArray) s = false) (h2 : isW L (⟨#[116, 104, 114, 101, 115, 104, 111, 108, 100]⟩ : ByteArray) s = false) (h3 : isW L (⟨#[98, 121, 122]⟩ : ByteArray) s = true) (h4 : isW L (⟨#[99, 114, 97, 115, 104]⟩ : ByteArray) (pBraces L (taken L (⟨#[98, 121, 122]⟩ : ByteArray) s)).2 = false) :
    Calls Tryz.prog 68 #[.pointer (some ⟨b, 0, none⟩)] w (FPost b A n c L ln w (pFault L 4 s)) := by
  have hbs := h.lt
  have HH := Lib.hid h
  have Hh1 := Lib.hid h1
  have Hh2 := Lib.hid h2
  have Hh3 := Lib.hid h3
  have Hh4 := Lib.hid h4
  clear h h1 h2 h3 h4
  go_enter Tryz.func68, Tryz.ntmps68
  go_wp2_with fail
  obtain ⟨W0, hW0⟩ : ∃ W0 : World, W0 = w.alloc (.cells #[.int .i64 0, .string ⟨#[]⟩, .int .i64 0, .int .i64 0, .slice none 0 0, .slice none 0 0] 97) := ⟨_, rfl⟩
  have hb0 : Below w.heap.size w W0 := by rw [hW0]; exact (Below.refl _ _).alloc (Nat.le_refl _) _
  have hs0 : w.heap.size < W0.heap.size := by rw [hW0]; simp
  have hr0 : W0.heap[w.heap.size]? = some (.cells #[.int .i64 0, .string ⟨#[]⟩, .int .i64 0, .int .i64 0, .slice none 0 0, .slice none 0 0] 97 (0, 0)) := by rw [hW0]; exact heap_alloc_new w _
  rw [← hW0]
  have HR0 := Lib.hid hr0
  clear hW0 hr0
  have q0 := HH.out.below hb0
  have gW0 := grown_refl W0 (some b)
  have z0 := gW0.size
  have ht := take_any (⟨#[110, 111, 110, 101]⟩ : ByteArray) W0 q0
  rw [Hh1.out, taken_not Hh1.out] at ht
  refine ht.mono ?_
  rintro e W1 ⟨rfl, q1, g1⟩
  have gW1 := grown_trans gW0 g1
  have z1 := gW1.size
  clear ht
  go_wp2_with fail
  have ht := take_any (⟨#[116, 104, 114, 101, 115, 104, 111, 108, 100]⟩ : ByteArray) W1 q1
  rw [Hh2.out, taken_not Hh2.out] at ht
  refine ht.mono ?_
  rintro e W2 ⟨rfl, q2, g2⟩
  have gW2 := grown_trans gW1 g2
  have z2 := gW2.size
  clear ht
  go_wp2_with fail
  have ht := take_any (⟨#[98, 121, 122]⟩ : ByteArray) W2 q2
  rw [Hh3.out] at ht
  refine ht.mono ?_
  rintro e W3 ⟨rfl, q3, g3⟩
  have gW3 := grown_trans gW2 g3
  have z3 := gW3.size
  clear ht
  go_wp2_with fail
  refine (braces_any W3 q3).mono ?_
  rintro e W4 ⟨v, rfl, hown, q4, g4⟩
  have gW4 := grown_trans gW3 g4
  have z4 := gW4.size
  obtain ⟨bA, bc, rfl, hbc⟩ := own_slice hown
  have hsee := (SeesIn.own hown).mono (S' := fun g => W3.heap.size ≤ g ∧ g < W4.heap.size) (fun g h1 h2 => ⟨h1, h2⟩) (by decide)
  clear hown
  go_wp2_with fail
  obtain ⟨Wb, hWb⟩ : ∃ Wb : World, Wb = W4.alloc (.cells #[.int .i64 3, .string ⟨#[]⟩, .int .i64 0, .int .i64 0, .slice bA (pBraces L (taken L (⟨#[98, 121, 122]⟩ : ByteArray) s)).1.length bc, .slice none 0 0] 97) := ⟨_, rfl⟩
  have hbb : Below W4.heap.size W4 Wb := by rw [hWb]; exact (Below.refl _ _).alloc (Nat.le_refl _) _
  have hTb : Wb.heap[W4.heap.size]? = some (.cells #[.int .i64 3, .string ⟨#[]⟩, .int .i64 0, .int .i64 0, .slice bA (pBraces L (taken L (⟨#[98, 121, 122]⟩ : ByteArray) s)).1.length bc, .slice none 0 0] 97 (0, 0)) := by rw [hWb]; exact heap_alloc_new W4 _
  have hsb : W4.heap.size < Wb.heap.size := by rw [hWb]; simp
  rw [← hWb]
  have HTb := Lib.hid hTb
  clear hWb hTb
  have qb := q4.below hbb
  have gWb := grown_trans gW4 (grown_below hbb)
  have ht := take_any (⟨#[99, 114, 97, 115, 104]⟩ : ByteArray) Wb qb
  rw [Hh4.out, taken_not Hh4.out] at ht
  refine ht.mono ?_
  rintro e W9 ⟨rfl, q9, g9⟩
  clear ht
  have gW9 := grown_trans gWb g9
  have z9 := g9.size
  have hT9 := grown_block g9 HTb.out (by omega)
  have hsee9 : SeesIn W9 (fun g => W3.heap.size ≤ g ∧ g < W4.heap.size) 1 bA (pBraces L (taken L (⟨#[98, 121, 122]⟩ : ByteArray) s)).1.length (((pBraces L (taken L (⟨#[98, 121, 122]⟩ : ByteArray) s)).1).map Value.string) := (SeesIn.keep hsee (kept_all hbb)).keep ((kept_grown g9).mono fun g hg => by omega)
  clear hsee
  have HE := Lib.hid (fault_byz1 (x := 4) Hh1.out Hh2.out Hh3.out Hh4.out)
  have hrW := grown_block gW9 HR0.out (by omega)
  have HFT : Hid (FtAt W9 (W3.heap.size ≤ ·) ⟨3, bs [], 0, 0, (pBraces L (taken L (⟨#[98, 121, 122]⟩ : ByteArray) s)).1, []⟩ (.agg #[.int .i64 3, .string (bs []), .int .i64 0, .int .i64 0, .slice bA (pBraces L (taken L (⟨#[98, 121, 122]⟩ : ByteArray) s)).1.length bc, .slice none 0 0])) := ⟨bA, bc, none, 0, rfl, hsee9.mono (fun g hg _ => hg.1) (by decide), hbc, .empty _ _ _ _, Nat.le_refl _⟩
  clear hsee9 hbc
  obtain ⟨t0, t1, t2, t3, t4, t5, tf⟩ := row6 hT9
  clear tf
  obtain ⟨r0, r1, r2, r3, r4, r5, rf⟩ := row6 hrW
  have rf0 := rf 0
  have rf1 := rf 1
  have rf2 := rf 2
  have rf3 := rf 3
  have rf4 := rf 4
  have rf5 := rf 5
  have HRW := Lib.hid hrW
  clear rf hrW
  go_wp2
  obtain ⟨hbR, hgR⟩ := set6 HRW.out (.int .i64 3) (.string (bs [])) (.int .i64 0) (.int .i64 0) (.slice bA (pBraces L (taken L (⟨#[98, 121, 122]⟩ : ByteArray) s)).1.length bc) (.slice none 0 0)
  refine ret_fault rfl rfl rfl hbR ?_
  rw [HE.out]
  exact ⟨_, _, _, _, _, _, _, _, _, _, rfl, (HFT.out.keep ((kept_grown hgR).mono fun g hg => by omega)).mono (fun g hg _ => by omega), q9.other (below_grown hgR (Nat.le_refl _) (by omega)) hbs, grown_from (grown_trans (grown_below hb0) gW9) (below_grown hgR (Nat.le_refl _) (by omega)) (Nat.le_refl _)⟩

theorem fault_any {b : Nat} {A : Option Addr} {n c : Nat} {L : Toks} {ln : Nat → Nat} {s : St} (w : World) (h : PSt b A n c L ln s w) :
    Calls Tryz.prog 68 #[.pointer (some ⟨b, 0, none⟩)] w (FPost b A n c L ln w (pFault L 4 s)) := by
  cases h1 : isW L (⟨#[110, 111, 110, 101]⟩ : ByteArray) s
  · cases h2 : isW L (⟨#[116, 104, 114, 101, 115, 104, 111, 108, 100]⟩ : ByteArray) s
    · cases h3 : isW L (⟨#[98, 121, 122]⟩ : ByteArray) s
      · cases h4 : isW L (⟨#[99, 114, 97, 115, 104]⟩ : ByteArray) s
        · cases h5 : isW L (⟨#[115, 105, 116, 101]⟩ : ByteArray) s
          · exact fault_f w h h1 h2 h3 h4 h5
          · cases h6 : isW L (⟨#[99, 114, 97, 115, 104]⟩ : ByteArray) (pName L (taken L (⟨#[115, 105, 116, 101]⟩ : ByteArray) s)).2
            · exact fault_g w h h1 h2 h3 h4 h5 h6
            · exact fault_e w h h1 h2 h3 h4 h5 h6
        · exact fault_d w h h1 h2 h3 h4
      · cases h4 : isW L (⟨#[99, 114, 97, 115, 104]⟩ : ByteArray) (pBraces L (taken L (⟨#[98, 121, 122]⟩ : ByteArray) s)).2
        · exact fault_h w h h1 h2 h3 h4
        · exact fault_c w h h1 h2 h3 h4
    · exact fault_b w h h1 h2
  · exact fault_a w h h1
end Go.Proofs.YtipicaoinnblpaaGreatDoor
namespace Go.Proofs.YtipicaoinnblpaaGreatDoor
open Go.RowKit

theorem row22 {w : World} {b : Nat} {v0 v1 v2 v3 v4 v5 v6 v7 v8 v9 v10 v11 v12 v13 v14 v15 v16 v17 v18 v19 v20 v21 : Value} {t : TypeId} (h : w.heap[b]? = some (.cells #[v0, v1, v2, v3, v4, v5, v6, v7, v8, v9, v10, v11, v12, v13, v14, v15, v16, v17, v18, v19, v20, v21] t (0, 0))) :
    w.cell? ⟨b, 0, none⟩ = some v0 ∧ w.cell? ⟨b, 1, none⟩ = some v1 ∧ w.cell? ⟨b, 2, none⟩ = some v2 ∧ w.cell? ⟨b, 3, none⟩ = some v3 ∧ w.cell? ⟨b, 4, none⟩ = some v4 ∧ w.cell? ⟨b, 5, none⟩ = some v5 ∧ w.cell? ⟨b, 6, none⟩ = some v6 ∧ w.cell? ⟨b, 7, none⟩ = some v7 ∧ w.cell? ⟨b, 8, none⟩ = some v8 ∧ w.cell? ⟨b, 9, none⟩ = some v9 ∧ w.cell? ⟨b, 10, none⟩ = some v10 ∧ w.cell? ⟨b, 11, none⟩ = some v11 ∧ w.cell? ⟨b, 12, none⟩ = some v12 ∧ w.cell? ⟨b, 13, none⟩ = some v13 ∧ w.cell? ⟨b, 14, none⟩ = some v14 ∧ w.cell? ⟨b, 15, none⟩ = some v15 ∧ w.cell? ⟨b, 16, none⟩ = some v16 ∧ w.cell? ⟨b, 17, none⟩ = some v17 ∧ w.cell? ⟨b, 18, none⟩ = some v18 ∧ w.cell? ⟨b, 19, none⟩ = some v19 ∧ w.cell? ⟨b, 20, none⟩ = some v20 ∧ w.cell? ⟨b, 21, none⟩ = some v21 ∧ ∀ i, w.frozen? ⟨b, i, none⟩ = false :=
  ⟨(cell_of_row _ _ _ _ _ _ h).trans rfl, (cell_of_row _ _ _ _ _ _ h).trans rfl, (cell_of_row _ _ _ _ _ _ h).trans rfl, (cell_of_row _ _ _ _ _ _ h).trans rfl, (cell_of_row _ _ _ _ _ _ h).trans rfl, (cell_of_row _ _ _ _ _ _ h).trans rfl, (cell_of_row _ _ _ _ _ _ h).trans rfl, (cell_of_row _ _ _ _ _ _ h).trans rfl, (cell_of_row _ _ _ _ _ _ h).trans rfl, (cell_of_row _ _ _ _ _ _ h).trans rfl, (cell_of_row _ _ _ _ _ _ h).trans rfl, (cell_of_row _ _ _ _ _ _ h).trans rfl, (cell_of_row _ _ _ _ _ _ h).trans rfl, (cell_of_row _ _ _ _ _ _ h).trans rfl, (cell_of_row _ _ _ _ _ _ h).trans rfl, (cell_of_row _ _ _ _ _ _ h).trans rfl, (cell_of_row _ _ _ _ _ _ h).trans rfl, (cell_of_row _ _ _ _ _ _ h).trans rfl, (cell_of_row _ _ _ _ _ _ h).trans rfl, (cell_of_row _ _ _ _ _ _ h).trans rfl, (cell_of_row _ _ _ _ _ _ h).trans rfl, (cell_of_row _ _ _ _ _ _ h).trans rfl, fun i => frozen_of_row _ _ i _ _ h⟩
/-- Only the blocks b and d, and new ones, have turned. -/
structure Grown2 (b d : Nat) (w w' : World) : Prop where
  os : w'.os = w.os
  tape : w'.tape = w.tape
  output : w'.output = w.output
  size : w.heap.size ≤ w'.heap.size
  block : ∀ k, k < w.heap.size → k ≠ b → k ≠ d → w'.heap[k]? = w.heap[k]?
theorem Grown2.refl (b d : Nat) (w : World) : Grown2 b d w w := ⟨rfl, rfl, rfl, Nat.le_refl _, fun _ _ _ _ => rfl⟩
theorem Grown2.call {b d : Nat} {w W W' : World} (h : Grown2 b d w W) (hg : W.grownBy W' (some b)) : Grown2 b d w W' :=
  ⟨hg.os.trans h.os, hg.tape.trans h.tape, hg.output.trans h.output, Nat.le_trans h.size hg.size, fun k hk h1 h2 => (hg.block k (Nat.lt_of_lt_of_le hk h.size) (fun e => h1 (by injection e))).trans (h.block k hk h1 h2)⟩
theorem Grown2.set {b d : Nat} {w W W' : World} (h : Grown2 b d w W) (hg : W.grownBy W' (some d)) : Grown2 b d w W' :=
  ⟨hg.os.trans h.os, hg.tape.trans h.tape, hg.output.trans h.output, Nat.le_trans h.size hg.size, fun k hk h1 h2 => (hg.block k (Nat.lt_of_lt_of_le hk h.size) (fun e => h2 (by injection e))).trans (h.block k hk h1 h2)⟩

theorem cfg_crash {L : Toks} {d : Dc} {s : St} (h : isW L (⟨#[99, 114, 97, 115, 104]⟩ : ByteArray) s = true) :
    pCfg L d s = ({ d with proto := (⟨#[99, 114, 97, 115, 104]⟩ : ByteArray), read := (pTerm L (need L (⟨#[114, 101, 97, 100]⟩ : ByteArray) (taken L (⟨#[99, 114, 97, 115, 104]⟩ : ByteArray) s))).1, write := (pTerm L (need L (⟨#[119, 114, 105, 116, 101]⟩ : ByteArray) (pTerm L (need L (⟨#[114, 101, 97, 100]⟩ : ByteArray) (taken L (⟨#[99, 114, 97, 115, 104]⟩ : ByteArray) s))).2)).1, use := (pName L (need L (⟨#[102, 97, 117, 108, 116, 115]⟩ : ByteArray) (pTerm L (need L (⟨#[119, 114, 105, 116, 101]⟩ : ByteArray) (pTerm L (need L (⟨#[114, 101, 97, 100]⟩ : ByteArray) (taken L (⟨#[99, 114, 97, 115, 104]⟩ : ByteArray) s))).2)).2)).1 }, (pName L (need L (⟨#[102, 97, 117, 108, 116, 115]⟩ : ByteArray) (pTerm L (need L (⟨#[119, 114, 105, 116, 101]⟩ : ByteArray) (pTerm L (need L (⟨#[114, 101, 97, 100]⟩ : ByteArray) (taken L (⟨#[99, 114, 97, 115, 104]⟩ : ByteArray) s))).2)).2)).2) := by
  have e : taken L (⟨#[99, 114, 97, 115, 104]⟩ : ByteArray) s = adv s := by unfold taken; rw [if_pos h]
  rw [e]
  unfold pCfg
  simp only [h, if_true]
theorem cfg_byz {L : Toks} {d : Dc} {s : St} (h : isW L (⟨#[99, 114, 97, 115, 104]⟩ : ByteArray) s = false) :
    pCfg L d s = ({ d with proto := (⟨#[98, 121, 122, 97, 110, 116, 105, 110, 101]⟩ : ByteArray), read := (pTerm L (need L (⟨#[114, 101, 97, 100]⟩ : ByteArray) (need L (⟨#[98, 121, 122, 97, 110, 116, 105, 110, 101]⟩ : ByteArray) s))).1, write := (pTerm L (need L (⟨#[119, 114, 105, 116, 101]⟩ : ByteArray) (pTerm L (need L (⟨#[114, 101, 97, 100]⟩ : ByteArray) (need L (⟨#[98, 121, 122, 97, 110, 116, 105, 110, 101]⟩ : ByteArray) s))).2)).1, use := (pName L (need L (⟨#[102, 97, 117, 108, 116, 115]⟩ : ByteArray) (pTerm L (need L (⟨#[119, 114, 105, 116, 101]⟩ : ByteArray) (pTerm L (need L (⟨#[114, 101, 97, 100]⟩ : ByteArray) (need L (⟨#[98, 121, 122, 97, 110, 116, 105, 110, 101]⟩ : ByteArray) s))).2)).2)).1 }, (pName L (need L (⟨#[102, 97, 117, 108, 116, 115]⟩ : ByteArray) (pTerm L (need L (⟨#[119, 114, 105, 116, 101]⟩ : ByteArray) (pTerm L (need L (⟨#[114, 101, 97, 100]⟩ : ByteArray) (need L (⟨#[98, 121, 122, 97, 110, 116, 105, 110, 101]⟩ : ByteArray) s))).2)).2)).2) := by
  unfold pCfg
  simp only [h, Bool.false_eq_true, if_false]

/-- What configuration leaves: the declaration's block is filled. -/
def CfgPost (b d : Nat) (A : Option Addr) (n c : Nat) (L : Toks) (ln : Nat → Nat) (w : World) (kd li : Int) (nm : ByteArray) (r : Dc × St) (e : Ending) (w' : World) : Prop :=
  ∃ o2 m2 d2 wA2 wn2 wc2 kA2 kn2 kc2 o3 m3 d3 wA3 wn3 wc3 kA3 kn3 kc3, e = .returned (.tuple #[]) ∧ w'.heap[d]? = some (.cells #[.int .i64 kd, .int .i64 li, .string nm, .slice none 0 0, .slice none 0 0, .int .i64 0, .string ⟨#[]⟩, .int .i64 0, .slice none 0 0, .slice none 0 0, .string r.1.proto, .int .i64 o2, .string m2, .int .i64 d2, .slice wA2 wn2 wc2, .slice kA2 kn2 kc2, .int .i64 o3, .string m3, .int .i64 d3, .slice wA3 wn3 wc3, .slice kA3 kn3 kc3, .string r.1.use] 54 (0, 0)) ∧
    TmAt w' (w.heap.size ≤ ·) r.1.read (.agg #[.int .i64 o2, .string m2, .int .i64 d2, .slice wA2 wn2 wc2, .slice kA2 kn2 kc2]) ∧ TmAt w' (w.heap.size ≤ ·) r.1.write (.agg #[.int .i64 o3, .string m3, .int .i64 d3, .slice wA3 wn3 wc3, .slice kA3 kn3 kc3]) ∧ PSt b A n c L ln r.2 w' ∧ Grown2 b d w w'

set_option maxRecDepth 100000 in
set_option maxHeartbeats 4000000 in
theorem cfg_a {b d : Nat} {A : Option Addr} {n c : Nat} {L : Toks} {ln : Nat → Nat} {s : St} (w : World) (h : PSt b A n c L ln s w) (kd li : Int) (nm : ByteArray) (hD : w.heap[d]? = some (.cells #[.int .i64 kd, .int .i64 li, .string nm, .slice none 0 0, .slice none 0 0, .int .i64 0, .string ⟨#[]⟩, .int .i64 0, .slice none 0 0, .slice none 0 0, .string ⟨#[]⟩, .int .i64 0, .string ⟨#[]⟩, .int .i64 0, .slice none 0 0, .slice none 0 0, .int .i64 0, .string ⟨#[]⟩, .int .i64 0, .slice none 0 0, .slice none 0 0, .string ⟨#[]⟩] 54 (0, 0))) (hbd : b < d) (d0 : Dc) (hc : isW L (⟨#[99, 114, 97, 115, 104]⟩ : ByteArray) s = true) :
    Calls Tryz.prog 69 #[.pointer (some ⟨b, 0, none⟩), .pointer (some ⟨d, 0, none⟩)] w (CfgPost b d A n c L ln w kd li nm (pCfg L d0 s)) := by
  have hbs := h.lt
  have hds := lt_of_block hD
  have HC := Lib.hid hc
  have HD0 := Lib.hid hD
  have q0 := h
  have f0 := Grown2.refl b d w
  clear hc hD h
  go_enter Tryz.func69, Tryz.ntmps69
  obtain ⟨-, -, -, -, -, -, -, -, -, -, a10, -, -, -, -, -, -, -, -, -, -, -, af⟩ := row22 HD0.out
  have af10 := af 10
  clear af
  go_wp2_with fail
  obtain ⟨W1, hW1⟩ : ∃ W1 : World, W1 = (w.setCell ⟨d, 10, none⟩ (.string (⟨#[98, 121, 122, 97, 110, 116, 105, 110, 101]⟩ : ByteArray))) := ⟨_, rfl⟩
  have g1 : w.grownBy W1 (some d) := by rw [hW1]; exact grown_set (grown_refl _ _) _ _
  have hD1 : W1.heap[d]? = some (.cells #[.int .i64 kd, .int .i64 li, .string nm, .slice none 0 0, .slice none 0 0, .int .i64 0, .string ⟨#[]⟩, .int .i64 0, .slice none 0 0, .slice none 0 0, .string (⟨#[98, 121, 122, 97, 110, 116, 105, 110, 101]⟩ : ByteArray), .int .i64 0, .string ⟨#[]⟩, .int .i64 0, .slice none 0 0, .slice none 0 0, .int .i64 0, .string ⟨#[]⟩, .int .i64 0, .slice none 0 0, .slice none 0 0, .string ⟨#[]⟩] 54 (0, 0)) := by rw [hW1]; exact row_set (HD0.out) _
  have hs1 : W1.heap.size = w.heap.size := by rw [hW1]; simp
  rw [← hW1]
  have z1 : w.heap.size ≤ W1.heap.size := by omega
  have HZ1 := Lib.hid hs1
  have HD1 := Lib.hid hD1
  have q1 := q0.other (below_grown g1 (Nat.le_refl _) (by omega)) (by omega)
  have f1 := f0.set g1
  clear hW1 hD1 hs1 a10 af10
  have ht := take_any (⟨#[99, 114, 97, 115, 104]⟩ : ByteArray) W1 q1
  rw [HC.out] at ht
  refine ht.mono ?_
  clear ht
  rintro e W2 ⟨rfl, q2, g2⟩
  have z2 := g2.size
  have HD2 := Lib.hid (grown_block g2 HD1.out (by omega))
  have f2 := f1.call g2
  obtain ⟨-, -, -, -, -, -, -, -, -, -, a10, -, -, -, -, -, -, -, -, -, -, -, af⟩ := row22 HD2.out
  have af10 := af 10
  clear af
  go_wp2_with fail
  obtain ⟨W3, hW3⟩ : ∃ W3 : World, W3 = (W2.setCell ⟨d, 10, none⟩ (.string (⟨#[99, 114, 97, 115, 104]⟩ : ByteArray))) := ⟨_, rfl⟩
  have g3 : W2.grownBy W3 (some d) := by rw [hW3]; exact grown_set (grown_refl _ _) _ _
  have hD3 : W3.heap[d]? = some (.cells #[.int .i64 kd, .int .i64 li, .string nm, .slice none 0 0, .slice none 0 0, .int .i64 0, .string ⟨#[]⟩, .int .i64 0, .slice none 0 0, .slice none 0 0, .string (⟨#[99, 114, 97, 115, 104]⟩ : ByteArray), .int .i64 0, .string ⟨#[]⟩, .int .i64 0, .slice none 0 0, .slice none 0 0, .int .i64 0, .string ⟨#[]⟩, .int .i64 0, .slice none 0 0, .slice none 0 0, .string ⟨#[]⟩] 54 (0, 0)) := by rw [hW3]; exact row_set (HD2.out) _
  have hs3 : W3.heap.size = W2.heap.size := by rw [hW3]; simp
  rw [← hW3]
  have z3 : W2.heap.size ≤ W3.heap.size := by omega
  have HZ3 := Lib.hid hs3
  have HD3 := Lib.hid hD3
  have q3 := q2.other (below_grown g3 (Nat.le_refl _) (by omega)) (by omega)
  have f3 := f2.set g3
  clear hW3 hD3 hs3 a10 af10
  refine (need_any (⟨#[114, 101, 97, 100]⟩ : ByteArray) _ (q3.below ((Below.refl _ _).alloc (Nat.le_refl _) _)) (by have := heap_alloc_new W3 (.cells #[.string (⟨#[114, 101, 97, 100]⟩ : ByteArray)] 9); rw [HZ3.out] at this; exact this) (by omega)).mono ?_
  rintro e W4 ⟨rfl, q4, g4x⟩
  have g4 := grown_trans (grown_alloc (grown_refl W3 (some b)) _) g4x
  clear g4x
  have z4 := g4.size
  have HD4 := Lib.hid (grown_block g4 HD3.out (by omega))
  have f4 := f3.call g4
  go_wp2_with fail
  refine (term_any W4 q4).mono ?_
  rintro e W5 ⟨o2, m2, d2, wA2, wn2, wc2, kA2, kn2, kc2, rfl, htm2, q5, g5⟩
  have z5 := g5.size
  have HD5 := Lib.hid (grown_block g5 HD4.out (by omega))
  have f5 := f4.call g5
  have htm2 := htm2.mono (S' := (w.heap.size ≤ ·)) (fun g hg _ => by omega)
  obtain ⟨-, -, -, -, -, -, -, -, -, -, -, a11, a12, a13, a14, a15, -, -, -, -, -, -, af⟩ := row22 HD5.out
  have af11 := af 11
  have af12 := af 12
  have af13 := af 13
  have af14 := af 14
  have af15 := af 15
  clear af
  go_wp2_with fail
  obtain ⟨W6, hW6⟩ : ∃ W6 : World, W6 = (((((W5.setCell ⟨d, 11, none⟩ (.int .i64 o2)).setCell ⟨d, 12, none⟩ (.string m2)).setCell ⟨d, 13, none⟩ (.int .i64 d2)).setCell ⟨d, 14, none⟩ (.slice wA2 wn2 wc2)).setCell ⟨d, 15, none⟩ (.slice kA2 kn2 kc2)) := ⟨_, rfl⟩
  have g6 : W5.grownBy W6 (some d) := by rw [hW6]; exact grown_set (grown_set (grown_set (grown_set (grown_set (grown_refl _ _) _ _) _ _) _ _) _ _) _ _
  have hD6 : W6.heap[d]? = some (.cells #[.int .i64 kd, .int .i64 li, .string nm, .slice none 0 0, .slice none 0 0, .int .i64 0, .string ⟨#[]⟩, .int .i64 0, .slice none 0 0, .slice none 0 0, .string (⟨#[99, 114, 97, 115, 104]⟩ : ByteArray), .int .i64 o2, .string m2, .int .i64 d2, .slice wA2 wn2 wc2, .slice kA2 kn2 kc2, .int .i64 0, .string ⟨#[]⟩, .int .i64 0, .slice none 0 0, .slice none 0 0, .string ⟨#[]⟩] 54 (0, 0)) := by rw [hW6]; exact row_set (row_set (row_set (row_set (row_set (HD5.out) _) _) _) _) _
  have hs6 : W6.heap.size = W5.heap.size := by rw [hW6]; simp
  rw [← hW6]
  have z6 : W5.heap.size ≤ W6.heap.size := by omega
  have HZ6 := Lib.hid hs6
  have HD6 := Lib.hid hD6
  have q6 := q5.other (below_grown g6 (Nat.le_refl _) (by omega)) (by omega)
  have f6 := f5.set g6
  have htm2 := htm2.keep ((kept_grown g6).mono fun g hg => by omega)
  clear hW6 hD6 hs6 a11 af11 a12 af12 a13 af13 a14 af14 a15 af15
  refine (need_any (⟨#[119, 114, 105, 116, 101]⟩ : ByteArray) _ (q6.below ((Below.refl _ _).alloc (Nat.le_refl _) _)) (by have := heap_alloc_new W6 (.cells #[.string (⟨#[119, 114, 105, 116, 101]⟩ : ByteArray)] 9); rw [HZ6.out] at this; exact this) (by omega)).mono ?_
  rintro e W7 ⟨rfl, q7, g7x⟩
  have g7 := grown_trans (grown_alloc (grown_refl W6 (some b)) _) g7x
  clear g7x
  have z7 := g7.size
  have HD7 := Lib.hid (grown_block g7 HD6.out (by omega))
  have f7 := f6.call g7
  have htm2 := htm2.keep ((kept_grown g7).mono fun g hg => by omega)
  go_wp2_with fail
  refine (term_any W7 q7).mono ?_
  rintro e W8 ⟨o3, m3, d3, wA3, wn3, wc3, kA3, kn3, kc3, rfl, htm3, q8, g8⟩
  have z8 := g8.size
  have HD8 := Lib.hid (grown_block g8 HD7.out (by omega))
  have f8 := f7.call g8
  have htm2 := htm2.keep ((kept_grown g8).mono fun g hg => by omega)
  have htm3 := htm3.mono (S' := (w.heap.size ≤ ·)) (fun g hg _ => by omega)
  obtain ⟨-, -, -, -, -, -, -, -, -, -, -, -, -, -, -, -, a16, a17, a18, a19, a20, -, af⟩ := row22 HD8.out
  have af16 := af 16
  have af17 := af 17
  have af18 := af 18
  have af19 := af 19
  have af20 := af 20
  clear af
  go_wp2_with fail
  obtain ⟨W9, hW9⟩ : ∃ W9 : World, W9 = (((((W8.setCell ⟨d, 16, none⟩ (.int .i64 o3)).setCell ⟨d, 17, none⟩ (.string m3)).setCell ⟨d, 18, none⟩ (.int .i64 d3)).setCell ⟨d, 19, none⟩ (.slice wA3 wn3 wc3)).setCell ⟨d, 20, none⟩ (.slice kA3 kn3 kc3)) := ⟨_, rfl⟩
  have g9 : W8.grownBy W9 (some d) := by rw [hW9]; exact grown_set (grown_set (grown_set (grown_set (grown_set (grown_refl _ _) _ _) _ _) _ _) _ _) _ _
  have hD9 : W9.heap[d]? = some (.cells #[.int .i64 kd, .int .i64 li, .string nm, .slice none 0 0, .slice none 0 0, .int .i64 0, .string ⟨#[]⟩, .int .i64 0, .slice none 0 0, .slice none 0 0, .string (⟨#[99, 114, 97, 115, 104]⟩ : ByteArray), .int .i64 o2, .string m2, .int .i64 d2, .slice wA2 wn2 wc2, .slice kA2 kn2 kc2, .int .i64 o3, .string m3, .int .i64 d3, .slice wA3 wn3 wc3, .slice kA3 kn3 kc3, .string ⟨#[]⟩] 54 (0, 0)) := by rw [hW9]; exact row_set (row_set (row_set (row_set (row_set (HD8.out) _) _) _) _) _
  have hs9 : W9.heap.size = W8.heap.size := by rw [hW9]; simp
  rw [← hW9]
  have z9 : W8.heap.size ≤ W9.heap.size := by omega
  have HZ9 := Lib.hid hs9
  have HD9 := Lib.hid hD9
  have q9 := q8.other (below_grown g9 (Nat.le_refl _) (by omega)) (by omega)
  have f9 := f8.set g9
  have htm2 := htm2.keep ((kept_grown g9).mono fun g hg => by omega)
  have htm3 := htm3.keep ((kept_grown g9).mono fun g hg => by omega)
  clear hW9 hD9 hs9 a16 af16 a17 af17 a18 af18 a19 af19 a20 af20
  refine (need_any (⟨#[102, 97, 117, 108, 116, 115]⟩ : ByteArray) _ (q9.below ((Below.refl _ _).alloc (Nat.le_refl _) _)) (by have := heap_alloc_new W9 (.cells #[.string (⟨#[102, 97, 117, 108, 116, 115]⟩ : ByteArray)] 9); rw [HZ9.out] at this; exact this) (by omega)).mono ?_
  rintro e W10 ⟨rfl, q10, g10x⟩
  have g10 := grown_trans (grown_alloc (grown_refl W9 (some b)) _) g10x
  clear g10x
  have z10 := g10.size
  have HD10 := Lib.hid (grown_block g10 HD9.out (by omega))
  have f10 := f9.call g10
  have htm2 := htm2.keep ((kept_grown g10).mono fun g hg => by omega)
  have htm3 := htm3.keep ((kept_grown g10).mono fun g hg => by omega)
  go_wp2_with fail
  refine (name_any W10 q10).mono ?_
  rintro e W11 ⟨rfl, q11, g11⟩
  have z11 := g11.size
  have HD11 := Lib.hid (grown_block g11 HD10.out (by omega))
  have f11 := f10.call g11
  have htm2 := htm2.keep ((kept_grown g11).mono fun g hg => by omega)
  have htm3 := htm3.keep ((kept_grown g11).mono fun g hg => by omega)
  generalize hN11 : (pName L (need L (⟨#[102, 97, 117, 108, 116, 115]⟩ : ByteArray) (pTerm L (need L (⟨#[119, 114, 105, 116, 101]⟩ : ByteArray) (pTerm L (need L (⟨#[114, 101, 97, 100]⟩ : ByteArray) (taken L (⟨#[99, 114, 97, 115, 104]⟩ : ByteArray) s))).2)).2)).1 = us at *
  have HN11 := Lib.hid hN11
  clear hN11
  obtain ⟨-, -, -, -, -, -, -, -, -, -, -, -, -, -, -, -, -, -, -, -, -, a21, af⟩ := row22 HD11.out
  have af21 := af 21
  clear af
  have HE := Lib.hid (cfg_crash (d := d0) HC.out)
  rw [HN11.out] at HE
  have g12 : W11.grownBy (W11.setCell ⟨d, 21, none⟩ (.string us)) (some d) := grown_set (grown_refl _ _) _ _
  go_wp2
  go_end0
  rw [HE.out]
  exact ⟨_, _, _, _, _, _, _, _, _, _, _, _, _, _, _, _, _, _, rfl, row_set HD11.out _, htm2.keep ((kept_grown g12).mono fun g hg => by omega), htm3.keep ((kept_grown g12).mono fun g hg => by omega), q11.other (below_grown g12 (Nat.le_refl _) (by omega)) (by omega), f11.set g12⟩

set_option maxRecDepth 100000 in
set_option maxHeartbeats 4000000 in
theorem cfg_b {b d : Nat} {A : Option Addr} {n c : Nat} {L : Toks} {ln : Nat → Nat} {s : St} (w : World) (h : PSt b A n c L ln s w) (kd li : Int) (nm : ByteArray) (hD : w.heap[d]? = some (.cells #[.int .i64 kd, .int .i64 li, .string nm, .slice none 0 0, .slice none 0 0, .int .i64 0, .string ⟨#[]⟩, .int .i64 0, .slice none 0 0, .slice none 0 0, .string ⟨#[]⟩, .int .i64 0, .string ⟨#[]⟩, .int .i64 0, .slice none 0 0, .slice none 0 0, .int .i64 0, .string ⟨#[]⟩, .int .i64 0, .slice none 0 0, .slice none 0 0, .string ⟨#[]⟩] 54 (0, 0))) (hbd : b < d) (d0 : Dc) (hc : isW L (⟨#[99, 114, 97, 115, 104]⟩ : ByteArray) s = false) :
    Calls Tryz.prog 69 #[.pointer (some ⟨b, 0, none⟩), .pointer (some ⟨d, 0, none⟩)] w (CfgPost b d A n c L ln w kd li nm (pCfg L d0 s)) := by
  have hbs := h.lt
  have hds := lt_of_block hD
  have HC := Lib.hid hc
  have HD0 := Lib.hid hD
  have q0 := h
  have f0 := Grown2.refl b d w
  clear hc hD h
  go_enter Tryz.func69, Tryz.ntmps69
  obtain ⟨-, -, -, -, -, -, -, -, -, -, a10, -, -, -, -, -, -, -, -, -, -, -, af⟩ := row22 HD0.out
  have af10 := af 10
  clear af
  go_wp2_with fail
  obtain ⟨W1, hW1⟩ : ∃ W1 : World, W1 = (w.setCell ⟨d, 10, none⟩ (.string (⟨#[98, 121, 122, 97, 110, 116, 105, 110, 101]⟩ : ByteArray))) := ⟨_, rfl⟩
  have g1 : w.grownBy W1 (some d) := by rw [hW1]; exact grown_set (grown_refl _ _) _ _
  have hD1 : W1.heap[d]? = some (.cells #[.int .i64 kd, .int .i64 li, .string nm, .slice none 0 0, .slice none 0 0, .int .i64 0, .string ⟨#[]⟩, .int .i64 0, .slice none 0 0, .slice none 0 0, .string (⟨#[98, 121, 122, 97, 110, 116, 105, 110, 101]⟩ : ByteArray), .int .i64 0, .string ⟨#[]⟩, .int .i64 0, .slice none 0 0, .slice none 0 0, .int .i64 0, .string ⟨#[]⟩, .int .i64 0, .slice none 0 0, .slice none 0 0, .string ⟨#[]⟩] 54 (0, 0)) := by rw [hW1]; exact row_set (HD0.out) _
  have hs1 : W1.heap.size = w.heap.size := by rw [hW1]; simp
  rw [← hW1]
  have z1 : w.heap.size ≤ W1.heap.size := by omega
  have HZ1 := Lib.hid hs1
  have HD1 := Lib.hid hD1
  have q1 := q0.other (below_grown g1 (Nat.le_refl _) (by omega)) (by omega)
  have f1 := f0.set g1
  clear hW1 hD1 hs1 a10 af10
  have ht := take_any (⟨#[99, 114, 97, 115, 104]⟩ : ByteArray) W1 q1
  rw [HC.out, taken_not HC.out] at ht
  refine ht.mono ?_
  clear ht
  rintro e W2 ⟨rfl, q2, g2⟩
  have z2 := g2.size
  have HD2 := Lib.hid (grown_block g2 HD1.out (by omega))
  have f2 := f1.call g2
  go_wp2_with fail
  refine (need_any (⟨#[98, 121, 122, 97, 110, 116, 105, 110, 101]⟩ : ByteArray) _ (q2.below ((Below.refl _ _).alloc (Nat.le_refl _) _)) (heap_alloc_new W2 _) (by omega)).mono ?_
  rintro e W3 ⟨rfl, q3, g3x⟩
  have g3 := grown_trans (grown_alloc (grown_refl W2 (some b)) _) g3x
  clear g3x
  have z3 := g3.size
  have HD3 := Lib.hid (grown_block g3 HD2.out (by omega))
  have f3 := f2.call g3
  go_wp2_with fail
  refine (need_any (⟨#[114, 101, 97, 100]⟩ : ByteArray) _ (q3.below ((Below.refl _ _).alloc (Nat.le_refl _) _)) (heap_alloc_new W3 _) (by omega)).mono ?_
  rintro e W4 ⟨rfl, q4, g4x⟩
  have g4 := grown_trans (grown_alloc (grown_refl W3 (some b)) _) g4x
  clear g4x
  have z4 := g4.size
  have HD4 := Lib.hid (grown_block g4 HD3.out (by omega))
  have f4 := f3.call g4
  go_wp2_with fail
  refine (term_any W4 q4).mono ?_
  rintro e W5 ⟨o2, m2, d2, wA2, wn2, wc2, kA2, kn2, kc2, rfl, htm2, q5, g5⟩
  have z5 := g5.size
  have HD5 := Lib.hid (grown_block g5 HD4.out (by omega))
  have f5 := f4.call g5
  have htm2 := htm2.mono (S' := (w.heap.size ≤ ·)) (fun g hg _ => by omega)
  obtain ⟨-, -, -, -, -, -, -, -, -, -, -, a11, a12, a13, a14, a15, -, -, -, -, -, -, af⟩ := row22 HD5.out
  have af11 := af 11
  have af12 := af 12
  have af13 := af 13
  have af14 := af 14
  have af15 := af 15
  clear af
  go_wp2_with fail
  obtain ⟨W6, hW6⟩ : ∃ W6 : World, W6 = (((((W5.setCell ⟨d, 11, none⟩ (.int .i64 o2)).setCell ⟨d, 12, none⟩ (.string m2)).setCell ⟨d, 13, none⟩ (.int .i64 d2)).setCell ⟨d, 14, none⟩ (.slice wA2 wn2 wc2)).setCell ⟨d, 15, none⟩ (.slice kA2 kn2 kc2)) := ⟨_, rfl⟩
  have g6 : W5.grownBy W6 (some d) := by rw [hW6]; exact grown_set (grown_set (grown_set (grown_set (grown_set (grown_refl _ _) _ _) _ _) _ _) _ _) _ _
  have hD6 : W6.heap[d]? = some (.cells #[.int .i64 kd, .int .i64 li, .string nm, .slice none 0 0, .slice none 0 0, .int .i64 0, .string ⟨#[]⟩, .int .i64 0, .slice none 0 0, .slice none 0 0, .string (⟨#[98, 121, 122, 97, 110, 116, 105, 110, 101]⟩ : ByteArray), .int .i64 o2, .string m2, .int .i64 d2, .slice wA2 wn2 wc2, .slice kA2 kn2 kc2, .int .i64 0, .string ⟨#[]⟩, .int .i64 0, .slice none 0 0, .slice none 0 0, .string ⟨#[]⟩] 54 (0, 0)) := by rw [hW6]; exact row_set (row_set (row_set (row_set (row_set (HD5.out) _) _) _) _) _
  have hs6 : W6.heap.size = W5.heap.size := by rw [hW6]; simp
  rw [← hW6]
  have z6 : W5.heap.size ≤ W6.heap.size := by omega
  have HZ6 := Lib.hid hs6
  have HD6 := Lib.hid hD6
  have q6 := q5.other (below_grown g6 (Nat.le_refl _) (by omega)) (by omega)
  have f6 := f5.set g6
  have htm2 := htm2.keep ((kept_grown g6).mono fun g hg => by omega)
  clear hW6 hD6 hs6 a11 af11 a12 af12 a13 af13 a14 af14 a15 af15
  refine (need_any (⟨#[119, 114, 105, 116, 101]⟩ : ByteArray) _ (q6.below ((Below.refl _ _).alloc (Nat.le_refl _) _)) (by have := heap_alloc_new W6 (.cells #[.string (⟨#[119, 114, 105, 116, 101]⟩ : ByteArray)] 9); rw [HZ6.out] at this; exact this) (by omega)).mono ?_
  rintro e W7 ⟨rfl, q7, g7x⟩
  have g7 := grown_trans (grown_alloc (grown_refl W6 (some b)) _) g7x
  clear g7x
  have z7 := g7.size
  have HD7 := Lib.hid (grown_block g7 HD6.out (by omega))
  have f7 := f6.call g7
  have htm2 := htm2.keep ((kept_grown g7).mono fun g hg => by omega)
  go_wp2_with fail
  refine (term_any W7 q7).mono ?_
  rintro e W8 ⟨o3, m3, d3, wA3, wn3, wc3, kA3, kn3, kc3, rfl, htm3, q8, g8⟩
  have z8 := g8.size
  have HD8 := Lib.hid (grown_block g8 HD7.out (by omega))
  have f8 := f7.call g8
  have htm2 := htm2.keep ((kept_grown g8).mono fun g hg => by omega)
  have htm3 := htm3.mono (S' := (w.heap.size ≤ ·)) (fun g hg _ => by omega)
  obtain ⟨-, -, -, -, -, -, -, -, -, -, -, -, -, -, -, -, a16, a17, a18, a19, a20, -, af⟩ := row22 HD8.out
  have af16 := af 16
  have af17 := af 17
  have af18 := af 18
  have af19 := af 19
  have af20 := af 20
  clear af
  go_wp2_with fail
  obtain ⟨W9, hW9⟩ : ∃ W9 : World, W9 = (((((W8.setCell ⟨d, 16, none⟩ (.int .i64 o3)).setCell ⟨d, 17, none⟩ (.string m3)).setCell ⟨d, 18, none⟩ (.int .i64 d3)).setCell ⟨d, 19, none⟩ (.slice wA3 wn3 wc3)).setCell ⟨d, 20, none⟩ (.slice kA3 kn3 kc3)) := ⟨_, rfl⟩
  have g9 : W8.grownBy W9 (some d) := by rw [hW9]; exact grown_set (grown_set (grown_set (grown_set (grown_set (grown_refl _ _) _ _) _ _) _ _) _ _) _ _
  have hD9 : W9.heap[d]? = some (.cells #[.int .i64 kd, .int .i64 li, .string nm, .slice none 0 0, .slice none 0 0, .int .i64 0, .string ⟨#[]⟩, .int .i64 0, .slice none 0 0, .slice none 0 0, .string (⟨#[98, 121, 122, 97, 110, 116, 105, 110, 101]⟩ : ByteArray), .int .i64 o2, .string m2, .int .i64 d2, .slice wA2 wn2 wc2, .slice kA2 kn2 kc2, .int .i64 o3, .string m3, .int .i64 d3, .slice wA3 wn3 wc3, .slice kA3 kn3 kc3, .string ⟨#[]⟩] 54 (0, 0)) := by rw [hW9]; exact row_set (row_set (row_set (row_set (row_set (HD8.out) _) _) _) _) _
  have hs9 : W9.heap.size = W8.heap.size := by rw [hW9]; simp
  rw [← hW9]
  have z9 : W8.heap.size ≤ W9.heap.size := by omega
  have HZ9 := Lib.hid hs9
  have HD9 := Lib.hid hD9
  have q9 := q8.other (below_grown g9 (Nat.le_refl _) (by omega)) (by omega)
  have f9 := f8.set g9
  have htm2 := htm2.keep ((kept_grown g9).mono fun g hg => by omega)
  have htm3 := htm3.keep ((kept_grown g9).mono fun g hg => by omega)
  clear hW9 hD9 hs9 a16 af16 a17 af17 a18 af18 a19 af19 a20 af20
  refine (need_any (⟨#[102, 97, 117, 108, 116, 115]⟩ : ByteArray) _ (q9.below ((Below.refl _ _).alloc (Nat.le_refl _) _)) (by have := heap_alloc_new W9 (.cells #[.string (⟨#[102, 97, 117, 108, 116, 115]⟩ : ByteArray)] 9); rw [HZ9.out] at this; exact this) (by omega)).mono ?_
  rintro e W10 ⟨rfl, q10, g10x⟩
  have g10 := grown_trans (grown_alloc (grown_refl W9 (some b)) _) g10x
  clear g10x
  have z10 := g10.size
  have HD10 := Lib.hid (grown_block g10 HD9.out (by omega))
  have f10 := f9.call g10
  have htm2 := htm2.keep ((kept_grown g10).mono fun g hg => by omega)
  have htm3 := htm3.keep ((kept_grown g10).mono fun g hg => by omega)
  go_wp2_with fail
  refine (name_any W10 q10).mono ?_
  rintro e W11 ⟨rfl, q11, g11⟩
  have z11 := g11.size
  have HD11 := Lib.hid (grown_block g11 HD10.out (by omega))
  have f11 := f10.call g11
  have htm2 := htm2.keep ((kept_grown g11).mono fun g hg => by omega)
  have htm3 := htm3.keep ((kept_grown g11).mono fun g hg => by omega)
  generalize hN11 : (pName L (need L (⟨#[102, 97, 117, 108, 116, 115]⟩ : ByteArray) (pTerm L (need L (⟨#[119, 114, 105, 116, 101]⟩ : ByteArray) (pTerm L (need L (⟨#[114, 101, 97, 100]⟩ : ByteArray) (need L (⟨#[98, 121, 122, 97, 110, 116, 105, 110, 101]⟩ : ByteArray) s))).2)).2)).1 = us at *
  have HN11 := Lib.hid hN11
  clear hN11
  obtain ⟨-, -, -, -, -, -, -, -, -, -, -, -, -, -, -, -, -, -, -, -, -, a21, af⟩ := row22 HD11.out
  have af21 := af 21
  clear af
  have HE := Lib.hid (cfg_byz (d := d0) HC.out)
  rw [HN11.out] at HE
  have g12 : W11.grownBy (W11.setCell ⟨d, 21, none⟩ (.string us)) (some d) := grown_set (grown_refl _ _) _ _
  go_wp2
  go_end0
  rw [HE.out]
  exact ⟨_, _, _, _, _, _, _, _, _, _, _, _, _, _, _, _, _, _, rfl, row_set HD11.out _, htm2.keep ((kept_grown g12).mono fun g hg => by omega), htm3.keep ((kept_grown g12).mono fun g hg => by omega), q11.other (below_grown g12 (Nat.le_refl _) (by omega)) (by omega), f11.set g12⟩

theorem cfg_any {b d : Nat} {A : Option Addr} {n c : Nat} {L : Toks} {ln : Nat → Nat} {s : St} (w : World) (h : PSt b A n c L ln s w) (kd li : Int) (nm : ByteArray) (hD : w.heap[d]? = some (.cells #[.int .i64 kd, .int .i64 li, .string nm, .slice none 0 0, .slice none 0 0, .int .i64 0, .string ⟨#[]⟩, .int .i64 0, .slice none 0 0, .slice none 0 0, .string ⟨#[]⟩, .int .i64 0, .string ⟨#[]⟩, .int .i64 0, .slice none 0 0, .slice none 0 0, .int .i64 0, .string ⟨#[]⟩, .int .i64 0, .slice none 0 0, .slice none 0 0, .string ⟨#[]⟩] 54 (0, 0))) (hbd : b < d) (d0 : Dc) :
    Calls Tryz.prog 69 #[.pointer (some ⟨b, 0, none⟩), .pointer (some ⟨d, 0, none⟩)] w (CfgPost b d A n c L ln w kd li nm (pCfg L d0 s)) := by
  cases hc : isW L (⟨#[99, 114, 97, 115, 104]⟩ : ByteArray) s
  · exact cfg_b w h kd li nm hD hbd d0 hc
  · exact cfg_a w h kd li nm hD hbd d0 hc
end Go.Proofs.YtipicaoinnblpaaGreatDoor
namespace Go.Proofs.YtipicaoinnblpaaGreatDoor
open Go.RowKit

theorem size_decl : (Tryz.prog.info? 54).map (·.size) = some 22 := by kernel_rfl
theorem setRow_grown (w : World) (g : Nat) (cs : Array Value) : w.grownBy (w.setRow g cs) (some g) :=
  ⟨rfl, rfl, rfl, Nat.le_of_eq (size_setRow w g cs).symm, fun k _ hne => setRow_other w g k cs (fun e => hne (by rw [e]))⟩
/-- A whole declaration's store, which the walk does not take apart. -/
def storeD (p v : Value) : Sem Unit := Instr.storeAt 54 p v
theorem exec_storeD (ρ : Operand → Value) (dst : Option Tmp) (x y : Operand) (ty : TypeId) (pos : String) (after : Array Edge) (guard : Option (Nat × Bool)) :
    execOp ρ { dst, op := .store 54 x y, type := ty, pos, after, guard } = (do storeD (ρ x) (ρ y); pure .skip) := rfl
theorem run_storeD (w : World) (c : Array Value) (hc : c.size = 22) (li : Int) :
    (storeD (.pointer (some ⟨w.heap.size, 0, none⟩)) (.agg #[.int .i64 0, .int .i64 li, .string ⟨#[]⟩, .slice none 0 0, .slice none 0 0, .int .i64 0, .string ⟨#[]⟩, .int .i64 0, .slice none 0 0, .slice none 0 0, .string ⟨#[]⟩, .int .i64 0, .string ⟨#[]⟩, .int .i64 0, .slice none 0 0, .slice none 0 0, .int .i64 0, .string ⟨#[]⟩, .int .i64 0, .slice none 0 0, .slice none 0 0, .string ⟨#[]⟩])).run Tryz.prog ((w.alloc (.cells c 54)).drew) = .ok () ((w.alloc (.cells #[.int .i64 0, .int .i64 li, .string ⟨#[]⟩, .slice none 0 0, .slice none 0 0, .int .i64 0, .string ⟨#[]⟩, .int .i64 0, .slice none 0 0, .slice none 0 0, .string ⟨#[]⟩, .int .i64 0, .string ⟨#[]⟩, .int .i64 0, .slice none 0 0, .slice none 0 0, .int .i64 0, .string ⟨#[]⟩, .int .i64 0, .slice none 0 0, .slice none 0 0, .string ⟨#[]⟩] 54)).drew) := by
  have h := run_storeVar_row (P := Tryz.prog) ((w.alloc (.cells c 54)).drew) w.heap.size 54 54 c #[.int .i64 0, .int .i64 li, .string ⟨#[]⟩, .slice none 0 0, .slice none 0 0, .int .i64 0, .string ⟨#[]⟩, .int .i64 0, .slice none 0 0, .slice none 0 0, .string ⟨#[]⟩, .int .i64 0, .string ⟨#[]⟩, .int .i64 0, .slice none 0 0, .slice none 0 0, .int .i64 0, .string ⟨#[]⟩, .int .i64 0, .slice none 0 0, .slice none 0 0, .string ⟨#[]⟩] (heap_alloc_new w _) size_decl (by rw [hc]; rfl) (by simp [Value.oneCell'])
  have e : ((w.alloc (.cells c 54)).drew).setRow w.heap.size #[.int .i64 0, .int .i64 li, .string ⟨#[]⟩, .slice none 0 0, .slice none 0 0, .int .i64 0, .string ⟨#[]⟩, .int .i64 0, .slice none 0 0, .slice none 0 0, .string ⟨#[]⟩, .int .i64 0, .string ⟨#[]⟩, .int .i64 0, .slice none 0 0, .slice none 0 0, .int .i64 0, .string ⟨#[]⟩, .int .i64 0, .slice none 0 0, .slice none 0 0, .string ⟨#[]⟩] = (w.alloc (.cells #[.int .i64 0, .int .i64 li, .string ⟨#[]⟩, .slice none 0 0, .slice none 0 0, .int .i64 0, .string ⟨#[]⟩, .int .i64 0, .slice none 0 0, .slice none 0 0, .string ⟨#[]⟩, .int .i64 0, .string ⟨#[]⟩, .int .i64 0, .slice none 0 0, .slice none 0 0, .int .i64 0, .string ⟨#[]⟩, .int .i64 0, .slice none 0 0, .slice none 0 0, .string ⟨#[]⟩] 54)).drew := congrArg World.drew (World.setRow_alloc_new w c #[.int .i64 0, .int .i64 li, .string ⟨#[]⟩, .slice none 0 0, .slice none 0 0, .int .i64 0, .string ⟨#[]⟩, .int .i64 0, .slice none 0 0, .slice none 0 0, .string ⟨#[]⟩, .int .i64 0, .string ⟨#[]⟩, .int .i64 0, .slice none 0 0, .slice none 0 0, .int .i64 0, .string ⟨#[]⟩, .int .i64 0, .slice none 0 0, .slice none 0 0, .string ⟨#[]⟩] 54)
  rw [e] at h
  unfold storeD
  simp only [Instr.storeAt, Instr.sureAddr, Sem.run_bind, Sem.run_pure, Result.andThen]
  exact h
/-- A whole declaration stored. -/
theorem list_decl (w : World) {ops : Array Oper} {rest : List Oper} {o : Oper} {a : Act} {Q : Exit → Act → World → Prop} (hgd : o.guard = none) (hdst : o.dst = none) (x y : Operand) (ho : o.op = .store 54 x y)
    (g : Nat) (cells : Array Value) (hx : a.eval x = .pointer (some ⟨g, 0, none⟩)) (hy : a.eval y = .agg cells) (old : Array Value) (hg : w.heap[g]? = some (.cells old 54 (0, 0)))
    (hold : old.size = 22) (hc : cells.size = 22) (h1 : cells.all (·.oneCell') = true) (h : ∀ w', w'.heap[g]? = some (.cells cells 54 (0, 0)) → w.grownBy w' (some g) → wpList Tryz.prog ops Q rest a w') : wpList Tryz.prog ops Q (o :: rest) a w := by
  refine wpList_store_row hgd 54 x y ho g cells hx hy 54 old hg (by rw [hc]; exact size_decl) (by rw [hold, hc]) h1 ?_
  rw [hdst]
  exact h _ (setRow_heap w g old cells _ _ hg) (setRow_grown w g cells)
/-- A whole declaration loaded. -/
theorem load_decl (w : World) {ops : Array Oper} {rest : List Oper} {o : Oper} {a : Act} {Q : Exit → Act → World → Prop} (hgd : o.guard = none) (x : Operand) (ho : o.op = .load 54 x)
    (g : Nat) (hx : a.eval x = .pointer (some ⟨g, 0, none⟩)) (cells : Array Value) (hg : w.heap[g]? = some (.cells cells 54 (0, 0))) (hc : cells.size = 22) (h : wpList Tryz.prog ops Q rest (a.put o.dst (.agg cells)) w) : wpList Tryz.prog ops Q (o :: rest) a w :=
  wpList_load_row hgd 54 x ho g hx 54 cells (0, 0) _ hg Tryz.underlying54 rfl (by rw [hc]; exact size_decl) h
/-- A declaration as the result that lies in a block. -/
theorem ret_decl {fn : Func} {slot : Nat} {R : Ending → World → Prop} {a : Act} {W : World} {r : Nat} {cells : Array Value} (hres : fn.results = #[.cell slot 54]) (hp : a.tmps.getD slot undef = .pointer (some ⟨r, 0, none⟩)) (hd : a.defers = [])
    (hblk : W.heap[r]? = some (.cells cells 54 (0, 0))) (hc : cells.size = 22) (hR : R (.returned (.agg cells)) W) : bodyPost Tryz.prog fn R .ret a W :=
  bodyPost_ret (results_cell_row hres a.tmps W r 54 cells (0, 0) _ hp hblk Tryz.underlying54 rfl (by rw [hc]; exact size_decl)) hd hR
/-- What declaration leaves: it lies in new blocks. -/
def DPost (b : Nat) (A : Option Addr) (n c : Nat) (L : Toks) (ln : Nat → Nat) (w : World) (r : Dc × St) (e : Ending) (w' : World) : Prop :=
  ∃ v, e = .returned v ∧ DcAt w' (w.heap.size ≤ ·) r.1 v ∧ PSt b A n c L ln r.2 w' ∧ w.grownBy w' (some b)
theorem tm_zero (w : World) (S : Nat → Prop) : TmAt w S .zero (.agg #[.int .i64 0, .string ⟨#[]⟩, .int .i64 0, .slice none 0 0, .slice none 0 0]) := TmAt.named w S 0 (bs [])
theorem dc_mk {w : World} {S : Nat → Prop} {d : Dc} {nA fA : Option Addr} {nc fc : Nat} {t0 t1 t2 t3 t4 r0 r1 r2 r3 r4 w0 w1 w2 w3 w4 : Value}
    (h1 : SeesIn w S 1 nA d.names.length (d.names.map Value.string)) (h2 : d.names.length ≤ nc) (h3 : ListAt (FtAt w S) w S 6 fA d.faults) (h4 : d.faults.length ≤ fc) (h5 : TmAt w S d.term (.agg #[t0, t1, t2, t3, t4])) (h6 : TmAt w S d.read (.agg #[r0, r1, r2, r3, r4])) (h7 : TmAt w S d.write (.agg #[w0, w1, w2, w3, w4])) :
    DcAt w S d (.agg #[.int .i64 d.kind, .int .i64 d.line, .string d.name, .slice nA d.names.length nc, .slice fA d.faults.length fc, t0, t1, t2, t3, t4, .string d.proto, r0, r1, r2, r3, r4, w0, w1, w2, w3, w4, .string d.use]) :=
  ⟨nA, nc, fA, fc, _, _, _, by simp [Value.cells], h1, h2, h3, h4, h5, h6, h7⟩

theorem body_site {L : Toks} {x : Int} {d : Dc} {s : St} (h1 : isW L (⟨#[115, 105, 116, 101]⟩ : ByteArray) s = true) : pBody L x d s = pSite L d (taken L (⟨#[115, 105, 116, 101]⟩ : ByteArray) s) := by
  have e : taken L (⟨#[115, 105, 116, 101]⟩ : ByteArray) s = adv s := by unfold taken; rw [if_pos h1]
  rw [e]
  unfold pBody
  rw [if_pos h1]
theorem body_faults {L : Toks} {x : Int} {d : Dc} {s : St} (h1 : isW L (⟨#[115, 105, 116, 101]⟩ : ByteArray) s = false) (h2 : isW L (⟨#[102, 97, 117, 108, 116, 115]⟩ : ByteArray) s = true) : pBody L x d s = pFaultsD L x d (taken L (⟨#[102, 97, 117, 108, 116, 115]⟩ : ByteArray) s) := by
  have e : taken L (⟨#[102, 97, 117, 108, 116, 115]⟩ : ByteArray) s = adv s := by unfold taken; rw [if_pos h2]
  rw [e]
  unfold pBody
  rw [h1, if_neg (by simp), if_pos h2]
theorem body_quorum {L : Toks} {x : Int} {d : Dc} {s : St} (h1 : isW L (⟨#[115, 105, 116, 101]⟩ : ByteArray) s = false) (h2 : isW L (⟨#[102, 97, 117, 108, 116, 115]⟩ : ByteArray) s = false) (h3 : isW L (⟨#[113, 117, 111, 114, 117, 109]⟩ : ByteArray) s = true) : pBody L x d s = pQuorum L d (taken L (⟨#[113, 117, 111, 114, 117, 109]⟩ : ByteArray) s) := by
  have e : taken L (⟨#[113, 117, 111, 114, 117, 109]⟩ : ByteArray) s = adv s := by unfold taken; rw [if_pos h3]
  rw [e]
  unfold pBody
  rw [h1, if_neg (by simp), h2, if_neg (by simp), if_pos h3]
theorem body_config {L : Toks} {x : Int} {d : Dc} {s : St} (h1 : isW L (⟨#[115, 105, 116, 101]⟩ : ByteArray) s = false) (h2 : isW L (⟨#[102, 97, 117, 108, 116, 115]⟩ : ByteArray) s = false) (h3 : isW L (⟨#[113, 117, 111, 114, 117, 109]⟩ : ByteArray) s = false) (h4 : isW L (⟨#[99, 111, 110, 102, 105, 103]⟩ : ByteArray) s = true) : pBody L x d s = pConfig L d (taken L (⟨#[99, 111, 110, 102, 105, 103]⟩ : ByteArray) s) := by
  have e : taken L (⟨#[99, 111, 110, 102, 105, 103]⟩ : ByteArray) s = adv s := by unfold taken; rw [if_pos h4]
  rw [e]
  unfold pBody
  rw [h1, if_neg (by simp), h2, if_neg (by simp), h3, if_neg (by simp), if_pos h4]
theorem body_witness {L : Toks} {x : Int} {d : Dc} {s : St} (h1 : isW L (⟨#[115, 105, 116, 101]⟩ : ByteArray) s = false) (h2 : isW L (⟨#[102, 97, 117, 108, 116, 115]⟩ : ByteArray) s = false) (h3 : isW L (⟨#[113, 117, 111, 114, 117, 109]⟩ : ByteArray) s = false) (h4 : isW L (⟨#[99, 111, 110, 102, 105, 103]⟩ : ByteArray) s = false) (h5 : isW L (⟨#[119, 105, 116, 110, 101, 115, 115]⟩ : ByteArray) s = true) : pBody L x d s = ({ d with kind := 5, names := (pNames L (taken L (⟨#[119, 105, 116, 110, 101, 115, 115]⟩ : ByteArray) s)).1 }, (pNames L (taken L (⟨#[119, 105, 116, 110, 101, 115, 115]⟩ : ByteArray) s)).2) := by
  have e : taken L (⟨#[119, 105, 116, 110, 101, 115, 115]⟩ : ByteArray) s = adv s := by unfold taken; rw [if_pos h5]
  rw [e]
  unfold pBody
  rw [h1, if_neg (by simp), h2, if_neg (by simp), h3, if_neg (by simp), h4, if_neg (by simp), if_pos h5]
theorem body_client {L : Toks} {x : Int} {d : Dc} {s : St} (h1 : isW L (⟨#[115, 105, 116, 101]⟩ : ByteArray) s = false) (h2 : isW L (⟨#[102, 97, 117, 108, 116, 115]⟩ : ByteArray) s = false) (h3 : isW L (⟨#[113, 117, 111, 114, 117, 109]⟩ : ByteArray) s = false) (h4 : isW L (⟨#[99, 111, 110, 102, 105, 103]⟩ : ByteArray) s = false) (h5 : isW L (⟨#[119, 105, 116, 110, 101, 115, 115]⟩ : ByteArray) s = false) (h6 : isW L (⟨#[99, 108, 105, 101, 110, 116]⟩ : ByteArray) s = true) : pBody L x d s = pClient L d (taken L (⟨#[99, 108, 105, 101, 110, 116]⟩ : ByteArray) s) := by
  have e : taken L (⟨#[99, 108, 105, 101, 110, 116]⟩ : ByteArray) s = adv s := by unfold taken; rw [if_pos h6]
  rw [e]
  unfold pBody
  rw [h1, if_neg (by simp), h2, if_neg (by simp), h3, if_neg (by simp), h4, if_neg (by simp), h5, if_neg (by simp), if_pos h6]
theorem body_chain {L : Toks} {x : Int} {d : Dc} {s : St} (h1 : isW L (⟨#[115, 105, 116, 101]⟩ : ByteArray) s = false) (h2 : isW L (⟨#[102, 97, 117, 108, 116, 115]⟩ : ByteArray) s = false) (h3 : isW L (⟨#[113, 117, 111, 114, 117, 109]⟩ : ByteArray) s = false) (h4 : isW L (⟨#[99, 111, 110, 102, 105, 103]⟩ : ByteArray) s = false) (h5 : isW L (⟨#[119, 105, 116, 110, 101, 115, 115]⟩ : ByteArray) s = false) (h6 : isW L (⟨#[99, 108, 105, 101, 110, 116]⟩ : ByteArray) s = false) (h7 : isW L (⟨#[99, 104, 97, 105, 110]⟩ : ByteArray) s = true) : pBody L x d s = ({ d with kind := 7, names := (pNames L (taken L (⟨#[99, 104, 97, 105, 110]⟩ : ByteArray) s)).1 }, (pNames L (taken L (⟨#[99, 104, 97, 105, 110]⟩ : ByteArray) s)).2) := by
  have e : taken L (⟨#[99, 104, 97, 105, 110]⟩ : ByteArray) s = adv s := by unfold taken; rw [if_pos h7]
  rw [e]
  unfold pBody
  rw [h1, if_neg (by simp), h2, if_neg (by simp), h3, if_neg (by simp), h4, if_neg (by simp), h5, if_neg (by simp), h6, if_neg (by simp), if_pos h7]
theorem body_none {L : Toks} {x : Int} {d : Dc} {s : St} (h1 : isW L (⟨#[115, 105, 116, 101]⟩ : ByteArray) s = false) (h2 : isW L (⟨#[102, 97, 117, 108, 116, 115]⟩ : ByteArray) s = false) (h3 : isW L (⟨#[113, 117, 111, 114, 117, 109]⟩ : ByteArray) s = false) (h4 : isW L (⟨#[99, 111, 110, 102, 105, 103]⟩ : ByteArray) s = false) (h5 : isW L (⟨#[119, 105, 116, 110, 101, 115, 115]⟩ : ByteArray) s = false) (h6 : isW L (⟨#[99, 108, 105, 101, 110, 116]⟩ : ByteArray) s = false) (h7 : isW L (⟨#[99, 104, 97, 105, 110]⟩ : ByteArray) s = false) : pBody L x d s = (d, fails 2 s) := by
  unfold pBody
  rw [h1, if_neg (by simp), h2, if_neg (by simp), h3, if_neg (by simp), h4, if_neg (by simp), h5, if_neg (by simp), h6, if_neg (by simp), h7, if_neg (by simp)]
theorem decl_eq {L : Toks} {x : Int} {s : St} {li : Int} {r : Dc × St} (hl : (lineOf L s.pos : Int) = li) (h : pBody L x (.zero li) s = r) : pDecl L x s = (r.1, need L (⟨#[59]⟩ : ByteArray) r.2) := by
  unfold pDecl; rw [hl, h]

end Go.Proofs.YtipicaoinnblpaaGreatDoor
