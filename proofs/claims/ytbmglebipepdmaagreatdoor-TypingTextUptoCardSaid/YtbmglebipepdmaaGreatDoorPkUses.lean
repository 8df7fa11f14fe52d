/- The contract of used: the names that a declaration uses. fP by gen_tyused.py. The contracts of Uses and in: what uses a name. Declarations of a size up to a bound. -/
import Derived.Test.YtbmglebipepdmaaGreatDoorPkTya
import Derived.Test.YtbmglebipepdmaaGreatDoorPkValc
import Derived.Test.YtbmglebipepdmaaGreatDoorPkHead
import Derived.Test.YtbmglebipepdmaaGreatDoorPkOpen
namespace Go.Proofs.YtbmglebipepdmaaGreatDoor
open Go.RowKit

def dR (f : Ft) : List ByteArray := f.aC ++ f.ak ++ [f.name]
theorem six_cells {w : World} {b : Nat} {v0 v1 v2 v3 v4 v5 : Value} {t : TypeId} (h : w.heap[b]? = some (.cells #[v0, v1, v2, v3, v4, v5] t (0, 0))) : w.cell? ⟨b, 0, none⟩ = some v0 ∧ w.cell? ⟨b, 1, none⟩ = some v1 ∧ w.cell? ⟨b, 2, none⟩ = some v2 ∧ w.cell? ⟨b, 3, none⟩ = some v3 ∧ w.cell? ⟨b, 4, none⟩ = some v4 ∧ w.cell? ⟨b, 5, none⟩ = some v5 :=
 ⟨(cell_of_row _ _ _ _ _ _ h).trans rfl, (cell_of_row _ _ _ _ _ _ h).trans rfl, (cell_of_row _ _ _ _ _ _ h).trans rfl, (cell_of_row _ _ _ _ _ _ h).trans rfl, (cell_of_row _ _ _ _ _ _ h).trans rfl, (cell_of_row _ _ _ _ _ _ h).trans rfl⟩
set_option maxRecDepth 100000 in
set_option maxHeartbeats 4000000 in
theorem used_any (d : Dc) (v : Value) (w : World) (S : Nat → Prop) (hd : fC w S d v) (hS : ∀ g, S g → g < w.heap.size) (hlim : av d.term ≤ 100000000 ∧ av d.read ≤ 100000000 ∧ av d.write ≤ 100000000) (hfl : (d.faults.flatMap dR).length ≤ 100000000) (hnl : d.names.length ≤ 100000000) (hff : d.faults.length ≤ 100000000) :
  Calls Tryz.prog 46 #[v] w fun e w' => ∃ v', e = .returned v' ∧ w'.ownsRow w.heap.size 9 1 v' (iA d).length (aB (iA d)) ∧ Below w.heap.size w w' := by
 obtain ⟨nA, nc', fA, fc, vt, vr, vw, hv, hnA, hnc, hfA, hfc, h5, h6, h7⟩ := hd
 have HT5 := Lib.hid h5
 have HT6 := Lib.hid h6
 have HT7 := Lib.hid h7
 obtain ⟨o1, m1, d1, wA1, wn1, wc1, kA1, kn1, kc1, rfl⟩ := h5.form
 obtain ⟨o2, m2, d2, wA2, wn2, wc2, kA2, kn2, kc2, rfl⟩ := h6.form
 obtain ⟨o3, m3, d3, wA3, wn3, wc3, kA3, kn3, kc3, rfl⟩ := h7.form
 clear h5 h6 h7
 simp only [Value.cells, List.append_toArray, List.cons_append, List.nil_append] at hv
 rw [hv]
 have n1 := iK d.term
 have n2 := iK d.read
 have n3 := iK d.write
 obtain ⟨l1, l2, l3⟩ := hlim
 obtain ⟨w0, hw0⟩ : ∃ w0 : World, w0 = w.alloc (.cells #[.int .i64 d.kind, .int .i64 d.line, .string d.name, .slice nA d.names.length nc', .slice fA d.faults.length fc, .int .i64 o1, .string m1, .int .i64 d1, .slice wA1 wn1 wc1, .slice kA1 kn1 kc1, .string d.proto, .int .i64 o2, .string m2, .int .i64 d2, .slice wA2 wn2 wc2, .slice kA2 kn2 kc2, .int .i64 o3, .string m3, .int .i64 d3, .slice wA3 wn3 wc3, .slice kA3 kn3 kc3, .string d.use] 41 (0, 0)) := ⟨_, rfl⟩
 have hb0 : Below w.heap.size w w0 := by rw [hw0]; exact (Below.refl _ _).alloc (Nat.le_refl _) _
 have hz0 : w0.heap.size = w.heap.size + 1 := by rw [hw0]; simp
 have hr0 : w0.heap[w.heap.size]? = some (.cells #[.int .i64 d.kind, .int .i64 d.line, .string d.name, .slice nA d.names.length nc', .slice fA d.faults.length fc, .int .i64 o1, .string m1, .int .i64 d1, .slice wA1 wn1 wc1, .slice kA1 kn1 kc1, .string d.proto, .int .i64 o2, .string m2, .int .i64 d2, .slice wA2 wn2 wc2, .slice kA2 kn2 kc2, .int .i64 o3, .string m3, .int .i64 d3, .slice wA3 wn3 wc3, .slice kA3 kn3 kc3, .string d.use] 41 (0, 0)) := by rw [hw0]; exact heap_alloc_new w _
 have HB := Lib.hid (show ∀ W', Below w0.heap.size w0 W' → W'.heap[w.heap.size]? = some (.cells #[.int .i64 d.kind, .int .i64 d.line, .string d.name, .slice nA d.names.length nc', .slice fA d.faults.length fc, .int .i64 o1, .string m1, .int .i64 d1, .slice wA1 wn1 wc1, .slice kA1 kn1 kc1, .string d.proto, .int .i64 o2, .string m2, .int .i64 d2, .slice wA2 wn2 wc2, .slice kA2 kn2 kc2, .int .i64 o3, .string m3, .int .i64 d3, .slice wA3 wn3 wc3, .slice kA3 kn3 kc3, .string d.use] 41 (0, 0)) from fun W' hW => (hW.block _ (by omega)).trans hr0)
 have hS2 : ∀ W', Below w0.heap.size w0 W' → ∀ g, S g → g < W'.heap.size := fun W' hW g hg => by have := hS g hg; have := hW.size; omega
 have hk2 : ∀ W', Below w0.heap.size w0 W' → Kept S w W' := fun W' hW => aA (hb0.trans (hW.mono hb0.size)) hS
 have HN1 := Lib.hid (fun (W : World) (hW : Below w0.heap.size w0 W) => BN d.term _ W S (HT5.out.keep (hk2 W hW)) (hS2 W hW) (by omega))
 have HN2 := Lib.hid (fun (W : World) (hW : Below w0.heap.size w0 W) => BN d.read _ W S (HT6.out.keep (hk2 W hW)) (hS2 W hW) (by omega))
 have HN3 := Lib.hid (fun (W : World) (hW : Below w0.heap.size w0 W) => BN d.write _ W S (HT7.out.keep (hk2 W hW)) (hS2 W hW) (by omega))
 have HW0 := Lib.hid hw0
 have HNA := Lib.hid hnA
 have HFA := Lib.hid hfA
 have HB0 := Lib.hid hb0
 obtain ⟨base, hbase⟩ : ∃ base, base = aI d.term ++ aI d.read ++ aI d.write ++ [d.use] := ⟨_, rfl⟩
 have hbl : base.length ≤ 300000001 := by rw [hbase]; simp only [List.length_append, List.length_cons, List.length_nil]; omega
 have HUS := Lib.hid (show iA d = base ++ d.faults.flatMap dR ++ (if d.kind = 5 ∨ d.kind = 7 then d.names else []) by rw [hbase]; rfl)
 obtain ⟨us, hus⟩ : ∃ us, us = iA d := ⟨_, rfl⟩
 rw [← hus] at HUS ⊢
 have HBS := Lib.hid hbase
 clear hw0 hr0 hnA hfA hv hus hbase
 go_enter Tryz.func46, Tryz.ntmps46
 go_upto_region 1 with fail
 rw [← HW0.out]
 clear HW0
 go_cut [3] (fun s3 wx => wx.ownsRow w0.heap.size 9 1 s3 base.length (aB base) ∧ Below w0.heap.size w0 wx)
 case first =>
  have HPU := Lib.hid (show ∀ (w8 : World) (v8 : Value), w8.ownsRow w0.heap.size 9 1 v8 (aI d.term ++ (aI d.read ++ (aI d.write ++ [d.use]))).length (aB (aI d.term ++ (aI d.read ++ (aI d.write ++ [d.use])))) → w8.ownsRow w0.heap.size 9 1 v8 base.length (aB base) from fun w8 v8 h => by rw [HBS.out]; simpa using h)
  obtain ⟨X0, hX0⟩ : ∃ X0 : World, X0 = w0.drew := ⟨_, rfl⟩
  have x0 : Below w0.heap.size w0 X0 := by rw [hX0]; exact (Below.refl _ _).drew
  refine wp_region_held_drew (S := fun w' => Below w0.heap.size w0 w') (by kernel_rfl) (by exact (Below.refl _ _).drew) (fun hHeld => ?_)
  rw [← hX0]
  rw [← hX0] at hHeld
  clear hX0
  (refine wpAnyH_take (i := 0) (oi := _) (v := ?_) rfl (by kernel_rfl) (by kernel_rfl) (by kernel_rfl) (fun _ _ _ h => h) (Or.inl ⟨by kernel_rfl, ?_⟩) hHeld ?_; rotate_left; focus (intro w9 hS9; (try dsimp only at hS9); have r9 := HB.out w9 hS9; have z5 := ah r9 5 _ rfl; have z6 := ah r9 6 _ rfl; have z7 := ah r9 7 _ rfl; have z8 := ah r9 8 _ rfl; have z9 := ah r9 9 _ rfl; have z11 := ah r9 11 _ rfl; have z12 := ah r9 12 _ rfl; have z13 := ah r9 13 _ rfl; have z14 := ah r9 14 _ rfl; have z15 := ah r9 15 _ rfl; have z16 := ah r9 16 _ rfl; have z17 := ah r9 17 _ rfl; have z18 := ah r9 18 _ rfl; have z19 := ah r9 19 _ rfl; have z20 := ah r9 20 _ rfl; have z21 := ah r9 21 _ rfl; clear r9; go_simp; (try with_reducible rfl); done))
  (try simp only [Act.put, List.getElem_toArray, List.getElem_cons_zero, List.setIfInBounds_toArray, List.set_cons_zero, List.set_cons_succ])
  (refine wpAnyH_take (i := 1) (oi := _) (v := ?_) rfl (by kernel_rfl) (by kernel_rfl) (by kernel_rfl) (fun _ _ _ h => h) (Or.inl ⟨by kernel_rfl, ?_⟩) hHeld ?_; rotate_left; focus (intro w9 hS9; (try dsimp only at hS9); have r9 := HB.out w9 hS9; have z5 := ah r9 5 _ rfl; have z6 := ah r9 6 _ rfl; have z7 := ah r9 7 _ rfl; have z8 := ah r9 8 _ rfl; have z9 := ah r9 9 _ rfl; have z11 := ah r9 11 _ rfl; have z12 := ah r9 12 _ rfl; have z13 := ah r9 13 _ rfl; have z14 := ah r9 14 _ rfl; have z15 := ah r9 15 _ rfl; have z16 := ah r9 16 _ rfl; have z17 := ah r9 17 _ rfl; have z18 := ah r9 18 _ rfl; have z19 := ah r9 19 _ rfl; have z20 := ah r9 20 _ rfl; have z21 := ah r9 21 _ rfl; clear r9; go_simp; (try with_reducible rfl); done))
  (try simp only [Act.put, List.getElem_toArray, List.getElem_cons_succ, List.getElem_cons_zero, List.setIfInBounds_toArray, List.set_cons_zero, List.set_cons_succ])
  (refine wpAnyH_take (i := 3) (oi := _) (v := ?_) rfl (by kernel_rfl) (by kernel_rfl) (by kernel_rfl) (fun _ _ _ h => h) (Or.inl ⟨by kernel_rfl, ?_⟩) hHeld ?_; rotate_left; focus (intro w9 hS9; (try dsimp only at hS9); have r9 := HB.out w9 hS9; have z5 := ah r9 5 _ rfl; have z6 := ah r9 6 _ rfl; have z7 := ah r9 7 _ rfl; have z8 := ah r9 8 _ rfl; have z9 := ah r9 9 _ rfl; have z11 := ah r9 11 _ rfl; have z12 := ah r9 12 _ rfl; have z13 := ah r9 13 _ rfl; have z14 := ah r9 14 _ rfl; have z15 := ah r9 15 _ rfl; have z16 := ah r9 16 _ rfl; have z17 := ah r9 17 _ rfl; have z18 := ah r9 18 _ rfl; have z19 := ah r9 19 _ rfl; have z20 := ah r9 20 _ rfl; have z21 := ah r9 21 _ rfl; clear r9; go_simp; (try with_reducible rfl); done))
  (try simp only [Act.put, List.getElem_toArray, List.getElem_cons_succ, List.getElem_cons_zero, List.setIfInBounds_toArray, List.set_cons_zero, List.set_cons_succ])
  (refine wpAnyH_take (i := 4) (oi := _) (v := ?_) rfl (by kernel_rfl) (by kernel_rfl) (by kernel_rfl) (fun _ _ _ h => h) (Or.inl ⟨by kernel_rfl, ?_⟩) hHeld ?_; rotate_left; focus (intro w9 hS9; (try dsimp only at hS9); have r9 := HB.out w9 hS9; have z5 := ah r9 5 _ rfl; have z6 := ah r9 6 _ rfl; have z7 := ah r9 7 _ rfl; have z8 := ah r9 8 _ rfl; have z9 := ah r9 9 _ rfl; have z11 := ah r9 11 _ rfl; have z12 := ah r9 12 _ rfl; have z13 := ah r9 13 _ rfl; have z14 := ah r9 14 _ rfl; have z15 := ah r9 15 _ rfl; have z16 := ah r9 16 _ rfl; have z17 := ah r9 17 _ rfl; have z18 := ah r9 18 _ rfl; have z19 := ah r9 19 _ rfl; have z20 := ah r9 20 _ rfl; have z21 := ah r9 21 _ rfl; clear r9; go_simp; (try with_reducible rfl); done))
  (try simp only [Act.put, List.getElem_toArray, List.getElem_cons_succ, List.getElem_cons_zero, List.setIfInBounds_toArray, List.set_cons_zero, List.set_cons_succ])
  (refine wpAnyH_take (i := 6) (oi := _) (v := ?_) rfl (by kernel_rfl) (by kernel_rfl) (by kernel_rfl) (fun _ _ _ h => h) (Or.inl ⟨by kernel_rfl, ?_⟩) hHeld ?_; rotate_left; focus (intro w9 hS9; (try dsimp only at hS9); have r9 := HB.out w9 hS9; have z5 := ah r9 5 _ rfl; have z6 := ah r9 6 _ rfl; have z7 := ah r9 7 _ rfl; have z8 := ah r9 8 _ rfl; have z9 := ah r9 9 _ rfl; have z11 := ah r9 11 _ rfl; have z12 := ah r9 12 _ rfl; have z13 := ah r9 13 _ rfl; have z14 := ah r9 14 _ rfl; have z15 := ah r9 15 _ rfl; have z16 := ah r9 16 _ rfl; have z17 := ah r9 17 _ rfl; have z18 := ah r9 18 _ rfl; have z19 := ah r9 19 _ rfl; have z20 := ah r9 20 _ rfl; have z21 := ah r9 21 _ rfl; clear r9; go_simp; (try with_reducible rfl); done))
  (try simp only [Act.put, List.getElem_toArray, List.getElem_cons_succ, List.getElem_cons_zero, List.setIfInBounds_toArray, List.set_cons_zero, List.set_cons_succ])
  (refine wpAnyH_take (i := 7) (oi := _) (v := ?_) rfl (by kernel_rfl) (by kernel_rfl) (by kernel_rfl) (fun _ _ _ h => h) (Or.inl ⟨by kernel_rfl, ?_⟩) hHeld ?_; rotate_left; focus (intro w9 hS9; (try dsimp only at hS9); have r9 := HB.out w9 hS9; have z5 := ah r9 5 _ rfl; have z6 := ah r9 6 _ rfl; have z7 := ah r9 7 _ rfl; have z8 := ah r9 8 _ rfl; have z9 := ah r9 9 _ rfl; have z11 := ah r9 11 _ rfl; have z12 := ah r9 12 _ rfl; have z13 := ah r9 13 _ rfl; have z14 := ah r9 14 _ rfl; have z15 := ah r9 15 _ rfl; have z16 := ah r9 16 _ rfl; have z17 := ah r9 17 _ rfl; have z18 := ah r9 18 _ rfl; have z19 := ah r9 19 _ rfl; have z20 := ah r9 20 _ rfl; have z21 := ah r9 21 _ rfl; clear r9; go_simp; (try with_reducible rfl); done))
  (try simp only [Act.put, List.getElem_toArray, List.getElem_cons_succ, List.getElem_cons_zero, List.setIfInBounds_toArray, List.set_cons_zero, List.set_cons_succ])
  (refine wpAnyH_take (i := 9) (oi := _) (v := ?_) rfl (by kernel_rfl) (by kernel_rfl) (by kernel_rfl) (fun _ _ _ h => h) (Or.inl ⟨by kernel_rfl, ?_⟩) hHeld ?_; rotate_left; focus (intro w9 hS9; (try dsimp only at hS9); have r9 := HB.out w9 hS9; have z5 := ah r9 5 _ rfl; have z6 := ah r9 6 _ rfl; have z7 := ah r9 7 _ rfl; have z8 := ah r9 8 _ rfl; have z9 := ah r9 9 _ rfl; have z11 := ah r9 11 _ rfl; have z12 := ah r9 12 _ rfl; have z13 := ah r9 13 _ rfl; have z14 := ah r9 14 _ rfl; have z15 := ah r9 15 _ rfl; have z16 := ah r9 16 _ rfl; have z17 := ah r9 17 _ rfl; have z18 := ah r9 18 _ rfl; have z19 := ah r9 19 _ rfl; have z20 := ah r9 20 _ rfl; have z21 := ah r9 21 _ rfl; clear r9; go_simp; (try with_reducible rfl); done))
  (try simp only [Act.put, List.getElem_toArray, List.getElem_cons_succ, List.getElem_cons_zero, List.setIfInBounds_toArray, List.set_cons_zero, List.set_cons_succ])
  (refine wpAnyH_take (i := 10) (oi := _) (v := ?_) rfl (by kernel_rfl) (by kernel_rfl) (by kernel_rfl) (fun _ _ _ h => h) (Or.inl ⟨by kernel_rfl, ?_⟩) hHeld ?_; rotate_left; focus (intro w9 hS9; (try dsimp only at hS9); have r9 := HB.out w9 hS9; have z5 := ah r9 5 _ rfl; have z6 := ah r9 6 _ rfl; have z7 := ah r9 7 _ rfl; have z8 := ah r9 8 _ rfl; have z9 := ah r9 9 _ rfl; have z11 := ah r9 11 _ rfl; have z12 := ah r9 12 _ rfl; have z13 := ah r9 13 _ rfl; have z14 := ah r9 14 _ rfl; have z15 := ah r9 15 _ rfl; have z16 := ah r9 16 _ rfl; have z17 := ah r9 17 _ rfl; have z18 := ah r9 18 _ rfl; have z19 := ah r9 19 _ rfl; have z20 := ah r9 20 _ rfl; have z21 := ah r9 21 _ rfl; clear r9; go_simp; (try with_reducible rfl); done))
  (try simp only [Act.put, List.getElem_toArray, List.getElem_cons_succ, List.getElem_cons_zero, List.setIfInBounds_toArray, List.set_cons_zero, List.set_cons_succ])
  refine wpAnyH_ready (rs := [2, 11]) (by kernel_rfl) (by simp) ?_
  refine AllReadyH.cons (o := _) rfl (fun K hK => ?_) (AllReadyH.cons (o := _) rfl (fun K hK => ?_) AllReadyH.nil)
  ·go_simp
   (go_at_call 89; refine (HN1.out X0 x0).mono ?_; rintro e X1 ⟨A1, c1, rfl, -, hsn1, y1⟩)
   (try go_simp)
   refine hK.out _ _ (by exact hHeld.trans (y1.mono hHeld.size)) (fun hHeld => ?_)
   clear hK K
   (try simp only [Act.put, List.getElem_toArray, List.getElem_cons_succ, List.getElem_cons_zero, List.setIfInBounds_toArray, List.set_cons_zero, List.set_cons_succ])
   have g1 : ∀ W, Below X1.heap.size X1 W → wE W (fun g => w0.heap.size ≤ g ∧ g < W.heap.size) (aI d.term) (.slice A1 (aI d.term).length c1) := fun W hW =>
    ⟨A1, c1, rfl, (hsn1.keep (aQ hW)).mono (fun g hg hl => ⟨Nat.le_trans x0.size hg, hl⟩) (by decide)⟩
   have x1 := x0.trans (y1.mono x0.size)
   refine wpAnyH_ready (rs := [5, 11]) (by kernel_rfl) (by simp) ?_
   refine AllReadyH.cons (o := _) rfl (fun K hK => ?_) (AllReadyH.cons (o := _) rfl (fun K hK => ?_) AllReadyH.nil)
   ·go_simp
    (go_at_call 89; refine (HN2.out X1 x1).mono ?_; rintro e X2 ⟨A2, c2, rfl, -, hsn2, y2⟩)
    (try go_simp)
    refine hK.out _ _ (by exact hHeld.trans (y2.mono hHeld.size)) (fun hHeld => ?_)
    clear hK K
    (try simp only [Act.put, List.getElem_toArray, List.getElem_cons_succ, List.getElem_cons_zero, List.setIfInBounds_toArray, List.set_cons_zero, List.set_cons_succ])
    have g2 : ∀ W, Below X2.heap.size X2 W → wE W (fun g => w0.heap.size ≤ g ∧ g < W.heap.size) (aI d.read) (.slice A2 (aI d.read).length c2) := fun W hW =>
     ⟨A2, c2, rfl, (hsn2.keep (aQ hW)).mono (fun g hg hl => ⟨Nat.le_trans x1.size hg, hl⟩) (by decide)⟩
    have x2 := x1.trans (y2.mono x1.size)
    refine wpAnyH_ready (rs := [8, 11]) (by kernel_rfl) (by simp) ?_
    refine AllReadyH.cons (o := _) rfl (fun K hK => ?_) (AllReadyH.cons (o := _) rfl (fun K hK => ?_) AllReadyH.nil)
    ·go_simp
     (go_at_call 89; refine (HN3.out X2 x2).mono ?_; rintro e X3 ⟨A3, c3, rfl, -, hsn3, y3⟩)
     (try go_simp)
     refine hK.out _ _ (by exact hHeld.trans (y3.mono hHeld.size)) (fun hHeld => ?_)
     clear hK K
     (try simp only [Act.put, List.getElem_toArray, List.getElem_cons_succ, List.getElem_cons_zero, List.setIfInBounds_toArray, List.set_cons_zero, List.set_cons_succ])
     have g3 : ∀ W, Below X3.heap.size X3 W → wE W (fun g => w0.heap.size ≤ g ∧ g < W.heap.size) (aI d.write) (.slice A3 (aI d.write).length c3) := fun W hW =>
      ⟨A3, c3, rfl, (hsn3.keep (aQ hW)).mono (fun g hg hl => ⟨Nat.le_trans x2.size hg, hl⟩) (by decide)⟩
     have x3 := x2.trans (y3.mono x2.size)
     refine wpAnyH_ready (rs := [11]) (by kernel_rfl) (by simp) ?_
     refine AllReadyH.cons (o := _) rfl (fun K hK => ?_) AllReadyH.nil
     go_simp
     refine hK.out _ _ (by exact hHeld.trans ((Below.refl _ _).alloc (Nat.le_refl _) _ |>.mono hHeld.size)) (fun hHeld => ?_)
     clear hK K
     (try simp only [Act.put, List.getElem_toArray, List.getElem_cons_succ, List.getElem_cons_zero, List.setIfInBounds_toArray, List.set_cons_zero, List.set_cons_succ])
     obtain ⟨bB, hbB⟩ : ∃ bB, bB = X3.heap.size := ⟨_, rfl⟩
     obtain ⟨X4, hX4⟩ : ∃ X4 : World, X4 = X3.alloc (.cells #[.string d.use] 9) := ⟨_, rfl⟩
     have y4 : Below X3.heap.size X3 X4 := by rw [hX4]; exact (Below.refl _ _).alloc (Nat.le_refl _) _
     have g4 : ∀ W, Below X4.heap.size X4 W → wE W (fun g => w0.heap.size ≤ g ∧ g < W.heap.size) [d.use] (.slice (some ⟨bB, 0, none⟩) 1 1) := fun W hW => by
      rw [hbB]
      refine ⟨_, _, rfl, by simp [aB], fun _ => ⟨X3.heap.size, 0, rfl, ⟨by have := x3.size; exact this, by have := hW.size; rw [hX4] at this; simp at this; omega⟩, fun j u hu => ?_⟩⟩
      have hb : W.heap[X3.heap.size]? = some (.cells #[.string d.use] 9 (0, 0)) := (hW.block _ (by rw [hX4]; simp)).trans (by rw [hX4]; exact heap_alloc_new X3 _)
      rw [cell_of_row W _ (0 + j) _ _ _ hb]
      simpa [aB] using hu
     have x4 := x3.trans (y4.mono x3.size)
     rw [← hX4, ← hbB]
     rw [← hX4] at hHeld
     clear hbB hX4
     have t3 : Below X3.heap.size X3 X4 := y4
     have t2 : Below X2.heap.size X2 X4 := y3.trans (t3.mono y3.size)
     have t1 : Below X1.heap.size X1 X4 := y2.trans (t2.mono y2.size)
     have t0 : Below X0.heap.size X0 X4 := y1.trans (t1.mono y1.size)
     have hcc := mr [aI d.term, aI d.read, aI d.write, [d.use]] _ 4 _ _ (vB X4 (fun g => w0.heap.size ≤ g ∧ g < X4.heap.size) (fun g hg => hg.2) [aI d.term, aI d.read, aI d.write, [d.use]] [.slice A1 (aI d.term).length c1, .slice A2 (aI d.read).length c2, .slice A3 (aI d.write).length c3, .slice (some ⟨bB, 0, none⟩) 1 1] 34 rfl (by
      intro i x v hx hv
      match i with
      |0 => obtain rfl := Option.some.inj hx; obtain rfl := Option.some.inj hv; exact (g1 X4 (t1))
      |1 => obtain rfl := Option.some.inj hx; obtain rfl := Option.some.inj hv; exact (g2 X4 (t2))
      |2 => obtain rfl := Option.some.inj hx; obtain rfl := Option.some.inj hv; exact (g3 X4 (t3))
      |3 => obtain rfl := Option.some.inj hx; obtain rfl := Option.some.inj hv; exact (g4 X4 (Below.refl _ _))
      |i + 4 => simp at hx)) (fun g hg => by rcases hg with hg | hg <;> simp <;> omega) (by simp) (by simp; omega)
     have HCC := Lib.hid hcc
     clear hcc
     refine wpAnyH_ready (rs := [12]) (by kernel_rfl) (by simp) ?_
     refine AllReadyH.cons (o := _) rfl (fun K hK => ?_) AllReadyH.nil
     go_simp
     refine hK.out _ (X4.alloc (.cells #[.slice A1 (aI d.term).length c1, .slice A2 (aI d.read).length c2, .slice A3 (aI d.write).length c3, .slice (some ⟨bB, 0, none⟩) 1 1] 34)) (by exact hHeld.trans (((Below.refl _ _).alloc (Nat.le_refl _) _).mono hHeld.size)) (fun hHeld => ?_)
     clear hK K
     (try simp only [Act.put, List.getElem_toArray, List.getElem_cons_succ, List.getElem_cons_zero, List.setIfInBounds_toArray, List.set_cons_zero, List.set_cons_succ])
     refine wpAnyH_ready (rs := [13]) (by kernel_rfl) (by simp) ?_
     refine AllReadyH.cons (o := _) rfl (fun K hK => ?_) AllReadyH.nil
     go_simp
     (go_at_call 88; refine HCC.out.mono ?_; rintro e w8 ⟨v8, rfl, mY, hb8⟩)
     (try go_simp)
     refine hK.out _ _ (by exact hHeld.trans (hb8.mono hHeld.size)) (fun hHeld => ?_)
     clear hK K
     (try simp only [Act.put, List.getElem_toArray, List.getElem_cons_succ, List.getElem_cons_zero, List.setIfInBounds_toArray, List.set_cons_zero, List.set_cons_succ])
     (refine wpAnyH_take (i := 14) (oi := _) (v := ?_) rfl (by kernel_rfl) (by kernel_rfl) (by kernel_rfl) (fun _ _ _ h => h) (Or.inl ⟨by kernel_rfl, ?_⟩) hHeld ?_; rotate_left; focus (intro w9 hS9; (try dsimp only at hS9); have r9 := HB.out w9 hS9; have z5 := ah r9 5 _ rfl; have z6 := ah r9 6 _ rfl; have z7 := ah r9 7 _ rfl; have z8 := ah r9 8 _ rfl; have z9 := ah r9 9 _ rfl; have z11 := ah r9 11 _ rfl; have z12 := ah r9 12 _ rfl; have z13 := ah r9 13 _ rfl; have z14 := ah r9 14 _ rfl; have z15 := ah r9 15 _ rfl; have z16 := ah r9 16 _ rfl; have z17 := ah r9 17 _ rfl; have z18 := ah r9 18 _ rfl; have z19 := ah r9 19 _ rfl; have z20 := ah r9 20 _ rfl; have z21 := ah r9 21 _ rfl; clear r9; go_simp; (try with_reducible rfl); done))
     (try simp only [Act.put, List.getElem_toArray, List.getElem_cons_succ, List.getElem_cons_zero, List.setIfInBounds_toArray, List.set_cons_zero, List.set_cons_succ])
     refine wpAnyH_done (by kernel_rfl) ?_ _
     go_wp2_with fail
     go_meet
     exact ⟨HPU.out _ _ (by simpa using kR mY (Nat.le_trans x4.size (by simp))), hHeld⟩
    ·go_simp
     refine hK.out _ _ (by exact hHeld.trans ((Below.refl _ _).alloc (Nat.le_refl _) _ |>.mono hHeld.size)) (fun hHeld => ?_)
     clear hK K
     (try simp only [Act.put, List.getElem_toArray, List.getElem_cons_succ, List.getElem_cons_zero, List.setIfInBounds_toArray, List.set_cons_zero, List.set_cons_succ])
     obtain ⟨bB, hbB⟩ : ∃ bB, bB = X2.heap.size := ⟨_, rfl⟩
     obtain ⟨X3, hX3⟩ : ∃ X3 : World, X3 = X2.alloc (.cells #[.string d.use] 9) := ⟨_, rfl⟩
     have y3 : Below X2.heap.size X2 X3 := by rw [hX3]; exact (Below.refl _ _).alloc (Nat.le_refl _) _
     have g3 : ∀ W, Below X3.heap.size X3 W → wE W (fun g => w0.heap.size ≤ g ∧ g < W.heap.size) [d.use] (.slice (some ⟨bB, 0, none⟩) 1 1) := fun W hW => by
      rw [hbB]
      refine ⟨_, _, rfl, by simp [aB], fun _ => ⟨X2.heap.size, 0, rfl, ⟨by have := x2.size; exact this, by have := hW.size; rw [hX3] at this; simp at this; omega⟩, fun j u hu => ?_⟩⟩
      have hb : W.heap[X2.heap.size]? = some (.cells #[.string d.use] 9 (0, 0)) := (hW.block _ (by rw [hX3]; simp)).trans (by rw [hX3]; exact heap_alloc_new X2 _)
      rw [cell_of_row W _ (0 + j) _ _ _ hb]
      simpa [aB] using hu
     have x3 := x2.trans (y3.mono x2.size)
     rw [← hX3, ← hbB]
     rw [← hX3] at hHeld
     clear hbB hX3
     refine wpAnyH_ready (rs := [8]) (by kernel_rfl) (by simp) ?_
     refine AllReadyH.cons (o := _) rfl (fun K hK => ?_) AllReadyH.nil
     go_simp
     (go_at_call 89; refine (HN3.out X3 x3).mono ?_; rintro e X4 ⟨A4, c4, rfl, -, hsn4, y4⟩)
     (try go_simp)
     refine hK.out _ _ (by exact hHeld.trans (y4.mono hHeld.size)) (fun hHeld => ?_)
     clear hK K
     (try simp only [Act.put, List.getElem_toArray, List.getElem_cons_succ, List.getElem_cons_zero, List.setIfInBounds_toArray, List.set_cons_zero, List.set_cons_succ])
     have g4 : ∀ W, Below X4.heap.size X4 W → wE W (fun g => w0.heap.size ≤ g ∧ g < W.heap.size) (aI d.write) (.slice A4 (aI d.write).length c4) := fun W hW =>
      ⟨A4, c4, rfl, (hsn4.keep (aQ hW)).mono (fun g hg hl => ⟨Nat.le_trans x3.size hg, hl⟩) (by decide)⟩
     have x4 := x3.trans (y4.mono x3.size)
     have t3 : Below X3.heap.size X3 X4 := y4
     have t2 : Below X2.heap.size X2 X4 := y3.trans (t3.mono y3.size)
     have t1 : Below X1.heap.size X1 X4 := y2.trans (t2.mono y2.size)
     have t0 : Below X0.heap.size X0 X4 := y1.trans (t1.mono y1.size)
     have hcc := mr [aI d.term, aI d.read, aI d.write, [d.use]] _ 4 _ _ (vB X4 (fun g => w0.heap.size ≤ g ∧ g < X4.heap.size) (fun g hg => hg.2) [aI d.term, aI d.read, aI d.write, [d.use]] [.slice A1 (aI d.term).length c1, .slice A2 (aI d.read).length c2, .slice A4 (aI d.write).length c4, .slice (some ⟨bB, 0, none⟩) 1 1] 34 rfl (by
      intro i x v hx hv
      match i with
      |0 => obtain rfl := Option.some.inj hx; obtain rfl := Option.some.inj hv; exact (g1 X4 (t1))
      |1 => obtain rfl := Option.some.inj hx; obtain rfl := Option.some.inj hv; exact (g2 X4 (t2))
      |2 => obtain rfl := Option.some.inj hx; obtain rfl := Option.some.inj hv; exact (g4 X4 (Below.refl _ _))
      |3 => obtain rfl := Option.some.inj hx; obtain rfl := Option.some.inj hv; exact (g3 X4 (t3))
      |i + 4 => simp at hx)) (fun g hg => by rcases hg with hg | hg <;> simp <;> omega) (by simp) (by simp; omega)
     have HCC := Lib.hid hcc
     clear hcc
     refine wpAnyH_ready (rs := [12]) (by kernel_rfl) (by simp) ?_
     refine AllReadyH.cons (o := _) rfl (fun K hK => ?_) AllReadyH.nil
     go_simp
     refine hK.out _ (X4.alloc (.cells #[.slice A1 (aI d.term).length c1, .slice A2 (aI d.read).length c2, .slice A4 (aI d.write).length c4, .slice (some ⟨bB, 0, none⟩) 1 1] 34)) (by exact hHeld.trans (((Below.refl _ _).alloc (Nat.le_refl _) _).mono hHeld.size)) (fun hHeld => ?_)
     clear hK K
     (try simp only [Act.put, List.getElem_toArray, List.getElem_cons_succ, List.getElem_cons_zero, List.setIfInBounds_toArray, List.set_cons_zero, List.set_cons_succ])
     refine wpAnyH_ready (rs := [13]) (by kernel_rfl) (by simp) ?_
     refine AllReadyH.cons (o := _) rfl (fun K hK => ?_) AllReadyH.nil
     go_simp
     (go_at_call 88; refine HCC.out.mono ?_; rintro e w8 ⟨v8, rfl, mY, hb8⟩)
     (try go_simp)
     refine hK.out _ _ (by exact hHeld.trans (hb8.mono hHeld.size)) (fun hHeld => ?_)
     clear hK K
     (try simp only [Act.put, List.getElem_toArray, List.getElem_cons_succ, List.getElem_cons_zero, List.setIfInBounds_toArray, List.set_cons_zero, List.set_cons_succ])
     (refine wpAnyH_take (i := 14) (oi := _) (v := ?_) rfl (by kernel_rfl) (by kernel_rfl) (by kernel_rfl) (fun _ _ _ h => h) (Or.inl ⟨by kernel_rfl, ?_⟩) hHeld ?_; rotate_left; focus (intro w9 hS9; (try dsimp only at hS9); have r9 := HB.out w9 hS9; have z5 := ah r9 5 _ rfl; have z6 := ah r9 6 _ rfl; have z7 := ah r9 7 _ rfl; have z8 := ah r9 8 _ rfl; have z9 := ah r9 9 _ rfl; have z11 := ah r9 11 _ rfl; have z12 := ah r9 12 _ rfl; have z13 := ah r9 13 _ rfl; have z14 := ah r9 14 _ rfl; have z15 := ah r9 15 _ rfl; have z16 := ah r9 16 _ rfl; have z17 := ah r9 17 _ rfl; have z18 := ah r9 18 _ rfl; have z19 := ah r9 19 _ rfl; have z20 := ah r9 20 _ rfl; have z21 := ah r9 21 _ rfl; clear r9; go_simp; (try with_reducible rfl); done))
     (try simp only [Act.put, List.getElem_toArray, List.getElem_cons_succ, List.getElem_cons_zero, List.setIfInBounds_toArray, List.set_cons_zero, List.set_cons_succ])
     refine wpAnyH_done (by kernel_rfl) ?_ _
     go_wp2_with fail
     go_meet
     exact ⟨HPU.out _ _ (by simpa using kR mY (Nat.le_trans x4.size (by simp))), hHeld⟩
   ·go_simp
    refine hK.out _ _ (by exact hHeld.trans ((Below.refl _ _).alloc (Nat.le_refl _) _ |>.mono hHeld.size)) (fun hHeld => ?_)
    clear hK K
    (try simp only [Act.put, List.getElem_toArray, List.getElem_cons_succ, List.getElem_cons_zero, List.setIfInBounds_toArray, List.set_cons_zero, List.set_cons_succ])
    obtain ⟨bB, hbB⟩ : ∃ bB, bB = X1.heap.size := ⟨_, rfl⟩
    obtain ⟨X2, hX2⟩ : ∃ X2 : World, X2 = X1.alloc (.cells #[.string d.use] 9) := ⟨_, rfl⟩
    have y2 : Below X1.heap.size X1 X2 := by rw [hX2]; exact (Below.refl _ _).alloc (Nat.le_refl _) _
    have g2 : ∀ W, Below X2.heap.size X2 W → wE W (fun g => w0.heap.size ≤ g ∧ g < W.heap.size) [d.use] (.slice (some ⟨bB, 0, none⟩) 1 1) := fun W hW => by
     rw [hbB]
     refine ⟨_, _, rfl, by simp [aB], fun _ => ⟨X1.heap.size, 0, rfl, ⟨by have := x1.size; exact this, by have := hW.size; rw [hX2] at this; simp at this; omega⟩, fun j u hu => ?_⟩⟩
     have hb : W.heap[X1.heap.size]? = some (.cells #[.string d.use] 9 (0, 0)) := (hW.block _ (by rw [hX2]; simp)).trans (by rw [hX2]; exact heap_alloc_new X1 _)
     rw [cell_of_row W _ (0 + j) _ _ _ hb]
     simpa [aB] using hu
    have x2 := x1.trans (y2.mono x1.size)
    rw [← hX2, ← hbB]
    rw [← hX2] at hHeld
    clear hbB hX2
    refine wpAnyH_ready (rs := [5]) (by kernel_rfl) (by simp) ?_
    refine AllReadyH.cons (o := _) rfl (fun K hK => ?_) AllReadyH.nil
    go_simp
    (go_at_call 89; refine (HN2.out X2 x2).mono ?_; rintro e X3 ⟨A3, c3, rfl, -, hsn3, y3⟩)
    (try go_simp)
    refine hK.out _ _ (by exact hHeld.trans (y3.mono hHeld.size)) (fun hHeld => ?_)
    clear hK K
    (try simp only [Act.put, List.getElem_toArray, List.getElem_cons_succ, List.getElem_cons_zero, List.setIfInBounds_toArray, List.set_cons_zero, List.set_cons_succ])
    have g3 : ∀ W, Below X3.heap.size X3 W → wE W (fun g => w0.heap.size ≤ g ∧ g < W.heap.size) (aI d.read) (.slice A3 (aI d.read).length c3) := fun W hW =>
     ⟨A3, c3, rfl, (hsn3.keep (aQ hW)).mono (fun g hg hl => ⟨Nat.le_trans x2.size hg, hl⟩) (by decide)⟩
    have x3 := x2.trans (y3.mono x2.size)
    refine wpAnyH_ready (rs := [8]) (by kernel_rfl) (by simp) ?_
    refine AllReadyH.cons (o := _) rfl (fun K hK => ?_) AllReadyH.nil
    go_simp
    (go_at_call 89; refine (HN3.out X3 x3).mono ?_; rintro e X4 ⟨A4, c4, rfl, -, hsn4, y4⟩)
    (try go_simp)
    refine hK.out _ _ (by exact hHeld.trans (y4.mono hHeld.size)) (fun hHeld => ?_)
    clear hK K
    (try simp only [Act.put, List.getElem_toArray, List.getElem_cons_succ, List.getElem_cons_zero, List.setIfInBounds_toArray, List.set_cons_zero, List.set_cons_succ])
    have g4 : ∀ W, Below X4.heap.size X4 W → wE W (fun g => w0.heap.size ≤ g ∧ g < W.heap.size) (aI d.write) (.slice A4 (aI d.write).length c4) := fun W hW =>
     ⟨A4, c4, rfl, (hsn4.keep (aQ hW)).mono (fun g hg hl => ⟨Nat.le_trans x3.size hg, hl⟩) (by decide)⟩
    have x4 := x3.trans (y4.mono x3.size)
    have t3 : Below X3.heap.size X3 X4 := y4
    have t2 : Below X2.heap.size X2 X4 := y3.trans (t3.mono y3.size)
    have t1 : Below X1.heap.size X1 X4 := y2.trans (t2.mono y2.size)
    have t0 : Below X0.heap.size X0 X4 := y1.trans (t1.mono y1.size)
    have hcc := mr [aI d.term, aI d.read, aI d.write, [d.use]] _ 4 _ _ (vB X4 (fun g => w0.heap.size ≤ g ∧ g < X4.heap.size) (fun g hg => hg.2) [aI d.term, aI d.read, aI d.write, [d.use]] [.slice A1 (aI d.term).length c1, .slice A3 (aI d.read).length c3, .slice A4 (aI d.write).length c4, .slice (some ⟨bB, 0, none⟩) 1 1] 34 rfl (by
     intro i x v hx hv
     match i with
     |0 => obtain rfl := Option.some.inj hx; obtain rfl := Option.some.inj hv; exact (g1 X4 (t1))
     |1 => obtain rfl := Option.some.inj hx; obtain rfl := Option.some.inj hv; exact (g3 X4 (t3))
     |2 => obtain rfl := Option.some.inj hx; obtain rfl := Option.some.inj hv; exact (g4 X4 (Below.refl _ _))
     |3 => obtain rfl := Option.some.inj hx; obtain rfl := Option.some.inj hv; exact (g2 X4 (t2))
     |i + 4 => simp at hx)) (fun g hg => by rcases hg with hg | hg <;> simp <;> omega) (by simp) (by simp; omega)
    have HCC := Lib.hid hcc
    clear hcc
    refine wpAnyH_ready (rs := [12]) (by kernel_rfl) (by simp) ?_
    refine AllReadyH.cons (o := _) rfl (fun K hK => ?_) AllReadyH.nil
    go_simp
    refine hK.out _ (X4.alloc (.cells #[.slice A1 (aI d.term).length c1, .slice A3 (aI d.read).length c3, .slice A4 (aI d.write).length c4, .slice (some ⟨bB, 0, none⟩) 1 1] 34)) (by exact hHeld.trans (((Below.refl _ _).alloc (Nat.le_refl _) _).mono hHeld.size)) (fun hHeld => ?_)
    clear hK K
    (try simp only [Act.put, List.getElem_toArray, List.getElem_cons_succ, List.getElem_cons_zero, List.setIfInBounds_toArray, List.set_cons_zero, List.set_cons_succ])
    refine wpAnyH_ready (rs := [13]) (by kernel_rfl) (by simp) ?_
    refine AllReadyH.cons (o := _) rfl (fun K hK => ?_) AllReadyH.nil
    go_simp
    (go_at_call 88; refine HCC.out.mono ?_; rintro e w8 ⟨v8, rfl, mY, hb8⟩)
    (try go_simp)
    refine hK.out _ _ (by exact hHeld.trans (hb8.mono hHeld.size)) (fun hHeld => ?_)
    clear hK K
    (try simp only [Act.put, List.getElem_toArray, List.getElem_cons_succ, List.getElem_cons_zero, List.setIfInBounds_toArray, List.set_cons_zero, List.set_cons_succ])
    (refine wpAnyH_take (i := 14) (oi := _) (v := ?_) rfl (by kernel_rfl) (by kernel_rfl) (by kernel_rfl) (fun _ _ _ h => h) (Or.inl ⟨by kernel_rfl, ?_⟩) hHeld ?_; rotate_left; focus (intro w9 hS9; (try dsimp only at hS9); have r9 := HB.out w9 hS9; have z5 := ah r9 5 _ rfl; have z6 := ah r9 6 _ rfl; have z7 := ah r9 7 _ rfl; have z8 := ah r9 8 _ rfl; have z9 := ah r9 9 _ rfl; have z11 := ah r9 11 _ rfl; have z12 := ah r9 12 _ rfl; have z13 := ah r9 13 _ rfl; have z14 := ah r9 14 _ rfl; have z15 := ah r9 15 _ rfl; have z16 := ah r9 16 _ rfl; have z17 := ah r9 17 _ rfl; have z18 := ah r9 18 _ rfl; have z19 := ah r9 19 _ rfl; have z20 := ah r9 20 _ rfl; have z21 := ah r9 21 _ rfl; clear r9; go_simp; (try with_reducible rfl); done))
    (try simp only [Act.put, List.getElem_toArray, List.getElem_cons_succ, List.getElem_cons_zero, List.setIfInBounds_toArray, List.set_cons_zero, List.set_cons_succ])
    refine wpAnyH_done (by kernel_rfl) ?_ _
    go_wp2_with fail
    go_meet
    exact ⟨HPU.out _ _ (by simpa using kR mY (Nat.le_trans x4.size (by simp))), hHeld⟩
  ·go_simp
   refine hK.out _ _ (by exact hHeld.trans ((Below.refl _ _).alloc (Nat.le_refl _) _ |>.mono hHeld.size)) (fun hHeld => ?_)
   clear hK K
   (try simp only [Act.put, List.getElem_toArray, List.getElem_cons_succ, List.getElem_cons_zero, List.setIfInBounds_toArray, List.set_cons_zero, List.set_cons_succ])
   obtain ⟨bB, hbB⟩ : ∃ bB, bB = X0.heap.size := ⟨_, rfl⟩
   obtain ⟨X1, hX1⟩ : ∃ X1 : World, X1 = X0.alloc (.cells #[.string d.use] 9) := ⟨_, rfl⟩
   have y1 : Below X0.heap.size X0 X1 := by rw [hX1]; exact (Below.refl _ _).alloc (Nat.le_refl _) _
   have g1 : ∀ W, Below X1.heap.size X1 W → wE W (fun g => w0.heap.size ≤ g ∧ g < W.heap.size) [d.use] (.slice (some ⟨bB, 0, none⟩) 1 1) := fun W hW => by
    rw [hbB]
    refine ⟨_, _, rfl, by simp [aB], fun _ => ⟨X0.heap.size, 0, rfl, ⟨by have := x0.size; exact this, by have := hW.size; rw [hX1] at this; simp at this; omega⟩, fun j u hu => ?_⟩⟩
    have hb : W.heap[X0.heap.size]? = some (.cells #[.string d.use] 9 (0, 0)) := (hW.block _ (by rw [hX1]; simp)).trans (by rw [hX1]; exact heap_alloc_new X0 _)
    rw [cell_of_row W _ (0 + j) _ _ _ hb]
    simpa [aB] using hu
   have x1 := x0.trans (y1.mono x0.size)
   rw [← hX1, ← hbB]
   rw [← hX1] at hHeld
   clear hbB hX1
   refine wpAnyH_ready (rs := [2]) (by kernel_rfl) (by simp) ?_
   refine AllReadyH.cons (o := _) rfl (fun K hK => ?_) AllReadyH.nil
   go_simp
   (go_at_call 89; refine (HN1.out X1 x1).mono ?_; rintro e X2 ⟨A2, c2, rfl, -, hsn2, y2⟩)
   (try go_simp)
   refine hK.out _ _ (by exact hHeld.trans (y2.mono hHeld.size)) (fun hHeld => ?_)
   clear hK K
   (try simp only [Act.put, List.getElem_toArray, List.getElem_cons_succ, List.getElem_cons_zero, List.setIfInBounds_toArray, List.set_cons_zero, List.set_cons_succ])
   have g2 : ∀ W, Below X2.heap.size X2 W → wE W (fun g => w0.heap.size ≤ g ∧ g < W.heap.size) (aI d.term) (.slice A2 (aI d.term).length c2) := fun W hW =>
    ⟨A2, c2, rfl, (hsn2.keep (aQ hW)).mono (fun g hg hl => ⟨Nat.le_trans x1.size hg, hl⟩) (by decide)⟩
   have x2 := x1.trans (y2.mono x1.size)
   refine wpAnyH_ready (rs := [5]) (by kernel_rfl) (by simp) ?_
   refine AllReadyH.cons (o := _) rfl (fun K hK => ?_) AllReadyH.nil
   go_simp
   (go_at_call 89; refine (HN2.out X2 x2).mono ?_; rintro e X3 ⟨A3, c3, rfl, -, hsn3, y3⟩)
   (try go_simp)
   refine hK.out _ _ (by exact hHeld.trans (y3.mono hHeld.size)) (fun hHeld => ?_)
   clear hK K
   (try simp only [Act.put, List.getElem_toArray, List.getElem_cons_succ, List.getElem_cons_zero, List.setIfInBounds_toArray, List.set_cons_zero, List.set_cons_succ])
   have g3 : ∀ W, Below X3.heap.size X3 W → wE W (fun g => w0.heap.size ≤ g ∧ g < W.heap.size) (aI d.read) (.slice A3 (aI d.read).length c3) := fun W hW =>
    ⟨A3, c3, rfl, (hsn3.keep (aQ hW)).mono (fun g hg hl => ⟨Nat.le_trans x2.size hg, hl⟩) (by decide)⟩
   have x3 := x2.trans (y3.mono x2.size)
   refine wpAnyH_ready (rs := [8]) (by kernel_rfl) (by simp) ?_
   refine AllReadyH.cons (o := _) rfl (fun K hK => ?_) AllReadyH.nil
   go_simp
   (go_at_call 89; refine (HN3.out X3 x3).mono ?_; rintro e X4 ⟨A4, c4, rfl, -, hsn4, y4⟩)
   (try go_simp)
   refine hK.out _ _ (by exact hHeld.trans (y4.mono hHeld.size)) (fun hHeld => ?_)
   clear hK K
   (try simp only [Act.put, List.getElem_toArray, List.getElem_cons_succ, List.getElem_cons_zero, List.setIfInBounds_toArray, List.set_cons_zero, List.set_cons_succ])
   have g4 : ∀ W, Below X4.heap.size X4 W → wE W (fun g => w0.heap.size ≤ g ∧ g < W.heap.size) (aI d.write) (.slice A4 (aI d.write).length c4) := fun W hW =>
    ⟨A4, c4, rfl, (hsn4.keep (aQ hW)).mono (fun g hg hl => ⟨Nat.le_trans x3.size hg, hl⟩) (by decide)⟩
   have x4 := x3.trans (y4.mono x3.size)
   have t3 : Below X3.heap.size X3 X4 := y4
   have t2 : Below X2.heap.size X2 X4 := y3.trans (t3.mono y3.size)
   have t1 : Below X1.heap.size X1 X4 := y2.trans (t2.mono y2.size)
   have t0 : Below X0.heap.size X0 X4 := y1.trans (t1.mono y1.size)
   have hcc := mr [aI d.term, aI d.read, aI d.write, [d.use]] _ 4 _ _ (vB X4 (fun g => w0.heap.size ≤ g ∧ g < X4.heap.size) (fun g hg => hg.2) [aI d.term, aI d.read, aI d.write, [d.use]] [.slice A2 (aI d.term).length c2, .slice A3 (aI d.read).length c3, .slice A4 (aI d.write).length c4, .slice (some ⟨bB, 0, none⟩) 1 1] 34 rfl (by
    intro i x v hx hv
    match i with
    |0 => obtain rfl := Option.some.inj hx; obtain rfl := Option.some.inj hv; exact (g2 X4 (t2))
    |1 => obtain rfl := Option.some.inj hx; obtain rfl := Option.some.inj hv; exact (g3 X4 (t3))
    |2 => obtain rfl := Option.some.inj hx; obtain rfl := Option.some.inj hv; exact (g4 X4 (Below.refl _ _))
    |3 => obtain rfl := Option.some.inj hx; obtain rfl := Option.some.inj hv; exact (g1 X4 (t1))
    |i + 4 => simp at hx)) (fun g hg => by rcases hg with hg | hg <;> simp <;> omega) (by simp) (by simp; omega)
   have HCC := Lib.hid hcc
   clear hcc
   refine wpAnyH_ready (rs := [12]) (by kernel_rfl) (by simp) ?_
   refine AllReadyH.cons (o := _) rfl (fun K hK => ?_) AllReadyH.nil
   go_simp
   refine hK.out _ (X4.alloc (.cells #[.slice A2 (aI d.term).length c2, .slice A3 (aI d.read).length c3, .slice A4 (aI d.write).length c4, .slice (some ⟨bB, 0, none⟩) 1 1] 34)) (by exact hHeld.trans (((Below.refl _ _).alloc (Nat.le_refl _) _).mono hHeld.size)) (fun hHeld => ?_)
   clear hK K
   (try simp only [Act.put, List.getElem_toArray, List.getElem_cons_succ, List.getElem_cons_zero, List.setIfInBounds_toArray, List.set_cons_zero, List.set_cons_succ])
   refine wpAnyH_ready (rs := [13]) (by kernel_rfl) (by simp) ?_
   refine AllReadyH.cons (o := _) rfl (fun K hK => ?_) AllReadyH.nil
   go_simp
   (go_at_call 88; refine HCC.out.mono ?_; rintro e w8 ⟨v8, rfl, mY, hb8⟩)
   (try go_simp)
   refine hK.out _ _ (by exact hHeld.trans (hb8.mono hHeld.size)) (fun hHeld => ?_)
   clear hK K
   (try simp only [Act.put, List.getElem_toArray, List.getElem_cons_succ, List.getElem_cons_zero, List.setIfInBounds_toArray, List.set_cons_zero, List.set_cons_succ])
   (refine wpAnyH_take (i := 14) (oi := _) (v := ?_) rfl (by kernel_rfl) (by kernel_rfl) (by kernel_rfl) (fun _ _ _ h => h) (Or.inl ⟨by kernel_rfl, ?_⟩) hHeld ?_; rotate_left; focus (intro w9 hS9; (try dsimp only at hS9); have r9 := HB.out w9 hS9; have z5 := ah r9 5 _ rfl; have z6 := ah r9 6 _ rfl; have z7 := ah r9 7 _ rfl; have z8 := ah r9 8 _ rfl; have z9 := ah r9 9 _ rfl; have z11 := ah r9 11 _ rfl; have z12 := ah r9 12 _ rfl; have z13 := ah r9 13 _ rfl; have z14 := ah r9 14 _ rfl; have z15 := ah r9 15 _ rfl; have z16 := ah r9 16 _ rfl; have z17 := ah r9 17 _ rfl; have z18 := ah r9 18 _ rfl; have z19 := ah r9 19 _ rfl; have z20 := ah r9 20 _ rfl; have z21 := ah r9 21 _ rfl; clear r9; go_simp; (try with_reducible rfl); done))
   (try simp only [Act.put, List.getElem_toArray, List.getElem_cons_succ, List.getElem_cons_zero, List.setIfInBounds_toArray, List.set_cons_zero, List.set_cons_succ])
   refine wpAnyH_done (by kernel_rfl) ?_ _
   go_wp2_with fail
   go_meet
   exact ⟨HPU.out _ _ (by simpa using kR mY (Nat.le_trans x4.size (by simp))), hHeld⟩
 case rest =>
  obtain ⟨hown1, hb1⟩ := hcut
  obtain ⟨W1, hW1⟩ : ∃ W1 : World, W1 = wc := ⟨_, rfl⟩
  rw [← hW1] at hown1 hb1
  rw [← hW1]
  clear hW1
  have hs1 := hb1.size
  have e4 := ah (HB.out W1 hb1) 4 _ rfl
  go_wp2_with fail
  clear e4
  go_loopw [3, 23] (fun v x wr => ∃ k : Nat, k ≤ d.faults.length ∧ x = .int .i64 k ∧ wr.ownsRow w0.heap.size 9 1 v (base ++ (d.faults.take k).flatMap dR).length (aB (base ++ (d.faults.take k).flatMap dR)) ∧ Below w0.heap.size w0 wr) (fun _ x _ => d.faults.length - (intOf x).toNat)
  case atStart => exact ⟨0, Nat.zero_le _, rfl, by simpa using hown1, hb1⟩
  case round =>
   obtain ⟨k, hk, rfl, hown, hb⟩ := hrel
   have hsr := hb.size
   have hbw : Below w.heap.size w wr := HB0.out.trans (hb.mono HB0.out.size)
   obtain ⟨vA, vc, rfl, hvc⟩ := aV hown
   by_cases hlt : k < d.faults.length
   ·obtain ⟨g, o, op, nm, x, y, bA, bn, bc, cA, cn, cc, rfl, hSg, hft, k0, k1, k2, k3, k4, k5⟩ := mM (HFA.out.keep (P' := kU wr S) (aA hbw hS) (fun _ _ h => h.keep (aA hbw hS))) hlt
    have hgs : g < wr.heap.size := World.block_lt_of_cell? wr _ k0
    have hkI : (k : Int) < (d.faults.length : Int) := by omega
    have hk0 : (0 : Int) ≤ (k : Int) := by omega
    obtain ⟨f, hf⟩ : ∃ f, f = d.faults[k] := ⟨_, rfl⟩
    rw [← hf] at hft
    have htk : d.faults.take (k + 1) = d.faults.take k ++ [f] := by rw [hf]; exact List.take_succ_eq_append_getElem hlt
    obtain ⟨bA', bc', cA', cc', hv, hs4, -, hs5, -⟩ := hft
    simp only [Value.agg.injEq, Array.mk.injEq, List.cons.injEq, Value.int.injEq, Value.string.injEq, Value.slice.injEq, true_and, and_true] at hv
    obtain ⟨rfl, rfl, rfl, rfl, ⟨rfl, rfl, rfl⟩, ⟨rfl, rfl, rfl⟩⟩ := hv
    obtain ⟨cur, hcur⟩ : ∃ cur, cur = base ++ (d.faults.take k).flatMap dR := ⟨_, rfl⟩
    have hcn : base ++ (d.faults.take (k + 1)).flatMap dR = cur ++ f.aC ++ f.ak ++ [f.name] := by rw [htk, hcur, List.flatMap_append]; simp [dR]
    have hcl : (cur ++ f.aC ++ f.ak ++ [f.name]).length ≤ 400000001 := by
     rw [← hcn, List.length_append]
     have h1 : ((d.faults.take (k + 1)).flatMap dR).length ≤ (d.faults.flatMap dR).length := by
      conv => rhs; rw [← List.take_append_drop (k + 1) d.faults, List.flatMap_append, List.length_append]
      omega
     omega
    rw [← hcur] at hown hvc ⊢
    obtain ⟨Wv, hWv⟩ : ∃ Wv : World, Wv = wr.alloc (.cells #[.int .i64 f.op, .string f.name, .int .i64 f.byz, .int .i64 f.iZ, .slice bA f.aC.length bc, .slice cA f.ak.length cc] 82) := ⟨_, rfl⟩
    have hbv : Below wr.heap.size wr Wv := by rw [hWv]; exact (Below.refl _ _).alloc (Nat.le_refl _) _
    obtain ⟨Wn, hWn⟩ : ∃ Wn : World, Wn = Wv.alloc (.cells #[.string f.name] 9) := ⟨_, rfl⟩
    have hbn : Below Wv.heap.size Wv Wn := by rw [hWn]; exact (Below.refl _ _).alloc (Nat.le_refl _) _
    have hrn : Wn.heap[Wv.heap.size]? = some (.cells #[.string f.name] 9 (0, 0)) := by rw [hWn]; exact heap_alloc_new Wv _
    have hzn : Wn.heap.size = Wv.heap.size + 1 := by rw [hWn]; simp
    have hbrn : Below wr.heap.size wr Wn := hbv.trans (hbn.mono hbv.size)
    have hb0n : Below w0.heap.size w0 Wn := hb.trans (hbrn.mono hsr)
    have hown2 := own_below hown hbrn (Nat.le_refl _)
    have hcc := mr [cur, f.aC, f.ak, [f.name]] _ 4 _ _ (vB Wn (fun g => g < Wn.heap.size) (fun g hg => hg) [cur, f.aC, f.ak, [f.name]] [.slice vA cur.length vc, .slice bA f.aC.length bc, .slice cA f.ak.length cc, .slice (some ⟨Wv.heap.size, 0, none⟩) 1 1] 34 rfl (by
     intro i x v hx hv
     match i with
     |0 => obtain rfl := Option.some.inj hx; obtain rfl := Option.some.inj hv; exact ⟨_, _, rfl, (aN.own hown2).mono (fun g hg hl => hl) (by decide)⟩
     |1 => obtain rfl := Option.some.inj hx; obtain rfl := Option.some.inj hv; exact ⟨_, _, rfl, (hs4.keep (aQ hbrn)).mono (fun g hg hl => hl) (by decide)⟩
     |2 => obtain rfl := Option.some.inj hx; obtain rfl := Option.some.inj hv; exact ⟨_, _, rfl, (hs5.keep (aQ hbrn)).mono (fun g hg hl => hl) (by decide)⟩
     |3 =>
      obtain rfl := Option.some.inj hx; obtain rfl := Option.some.inj hv
      refine ⟨_, _, rfl, by simp [aB], fun _ => ⟨Wv.heap.size, 0, rfl, (by show Wv.heap.size < Wn.heap.size; omega), fun j u hu => ?_⟩⟩
      rw [cell_of_row Wn _ (0 + j) _ _ _ hrn]
      simpa [aB] using hu
     |i + 4 => simp at hx)) (fun g hg => by rcases hg with hg | hg <;> simp <;> omega) (by simp) (by have := hcl; simp only [List.flatten_cons, List.flatten_nil, List.length_append, List.length_cons, List.length_nil] at this ⊢; omega)
    obtain ⟨bv, hbvv⟩ : ∃ bv, bv = Wv.heap.size := ⟨_, rfl⟩
    rw [show Wn.heap.size = bv + 1 by rw [hzn, hbvv], ← hbvv] at hcc
    have HCC := Lib.hid hcc
    have HWV := Lib.hid hWv
    have HWN := Lib.hid hWn
    have HBV := Lib.hid hbvv
    have HCN := Lib.hid hcn
    have HZN := Lib.hid hzn
    have hb3 : ∀ o, Below w0.heap.size w0 (Wn.alloc o) := fun o => hb0n.trans (((Below.refl _ _).alloc (Nat.le_refl _) o).mono hb0n.size)
    clear hcc hWv hWn hbvv hown hown2 hcur hcn hrn hzn htk hf hs4 hs5
    go_upto_region 5 with fail
    rw [← HWV.out]
    have hsb : wr.heap.size < Wv.heap.size := by have := HWV.out; rw [this]; simp
    obtain ⟨e0, e1, e2, e3, e4, e5⟩ : _ ∧ _ ∧ _ ∧ _ ∧ _ ∧ _ := six_cells (show Wv.heap[wr.heap.size]? = some (.cells #[.int .i64 f.op, .string f.name, .int .i64 f.byz, .int .i64 f.iZ, .slice bA f.aC.length bc, .slice cA f.ak.length cc] 82 (0, 0)) by rw [HWV.out]; exact heap_alloc_new wr _)
    go_wp2_with fail
    rw [← HWN.out, ← HBV.out]
    refine HCC.out.mono ?_
    rintro e w8 ⟨v8, rfl, mY, hb8⟩
    have hx3 := hb3 (.cells #[.slice vA cur.length vc, .slice bA f.aC.length bc, .slice cA f.ak.length cc, .slice (some ⟨bv, 0, none⟩) 1 1] 34 (0, 0))
    have hb8w : Below w0.heap.size w0 w8 := hx3.trans (hb8.mono hx3.size)
    have HO8 := Lib.hid mY
    clear e0 e1 e2 e3 e4 e5 mY hb8
    go_wp2
    go_roundw
    case rel =>
     refine ⟨k + 1, by omega, by go_num, ?_, hb8w⟩
     rw [HCN.out]
     have := kR HO8.out (base' := w0.heap.size) hx3.size
     simpa using this
    case measure => simp [intOf]; omega
   ·obtain rfl : k = d.faults.length := by omega
    have hkI : ¬ (d.faults.length : Int) < (d.faults.length : Int) := by omega
    rw [List.take_length] at hown hvc ⊢
    have q0 : wr.cell? ⟨w.heap.size, 0, none⟩ = some (.int .i64 d.kind) := ah (HB.out wr hb) 0 _ rfl
    have q3 : wr.cell? ⟨w.heap.size, 3, none⟩ = some (.slice nA d.names.length nc') := ah (HB.out wr hb) 3 _ rfl
    obtain ⟨cur, hcur⟩ : ∃ cur, cur = base ++ d.faults.flatMap dR := ⟨_, rfl⟩
    have hcl : cur.length ≤ 400000001 := by rw [hcur, List.length_append]; omega
    rw [← hcur] at hown hvc ⊢
    rw [← hcur] at HUS
    have hbw2 : Below w.heap.size w wr := hbw
    clear hcur
    by_cases hk5 : d.kind = 5
    ·have b5 : (d.kind == (5 : Int)) = true := by rw [hk5]; rfl
     have HU := Lib.hid (show us = cur ++ d.names by have := HUS.out; rw [if_pos (Or.inl hk5)] at this; exact this)
     clear hk5
     go_wp2_with (at_builtin; refine jh wr rfl (.tmp 46) (.tmp 48) rfl w0.heap.size _ _ _ hown rfl S nA _ nc' d.names rfl rfl (HNA.out.keep (aA hbw hS)) (by omega) (by omega) hsr ?_; intro v3 w3 hown3 hg3 hv3)
     go_ret
     refine ⟨v3, rfl, ?_, HB0.out.trans ((hb.trans (aL hown hg3 hsr)).mono HB0.out.size)⟩
     rw [HU.out, List.length_append]
     have := kR hown3 (base' := w.heap.size) HB0.out.size
     simpa [aB] using this
    ·have b5 : (d.kind == (5 : Int)) = false := by rw [beq_eq_false_iff_ne]; exact hk5
     by_cases hk7 : d.kind = 7
     ·have b7 : (d.kind == (7 : Int)) = true := by rw [hk7]; rfl
      have HU := Lib.hid (show us = cur ++ d.names by have := HUS.out; rw [if_pos (Or.inr hk7)] at this; exact this)
      clear hk5 hk7
      go_wp2_with (at_builtin; refine jh wr rfl (.tmp 46) (.tmp 48) rfl w0.heap.size _ _ _ hown rfl S nA _ nc' d.names rfl rfl (HNA.out.keep (aA hbw hS)) (by omega) (by omega) hsr ?_; intro v3 w3 hown3 hg3 hv3)
      go_ret
      refine ⟨v3, rfl, ?_, HB0.out.trans ((hb.trans (aL hown hg3 hsr)).mono HB0.out.size)⟩
      rw [HU.out, List.length_append]
      have := kR hown3 (base' := w.heap.size) HB0.out.size
      simpa [aB] using this
     ·have b7 : (d.kind == (7 : Int)) = false := by rw [beq_eq_false_iff_ne]; exact hk7
      have HU := Lib.hid (show us = cur by have := HUS.out; rw [if_neg (fun h => h.elim hk5 hk7), List.append_nil] at this; exact this)
      clear hk5 hk7
      go_wp2
      go_ret
      refine ⟨.slice vA cur.length vc, rfl, ?_, HB0.out.trans (hb.mono HB0.out.size)⟩
      rw [HU.out]
      exact kR hown HB0.out.size
end Go.Proofs.YtbmglebipepdmaaGreatDoor
namespace Go.Proofs.YtbmglebipepdmaaGreatDoor
open Go.RowKit

theorem EU {w : World} {S : Nat → Prop} {A : Option Addr} {l : List ByteArray} (h : aN w S 1 A l.length (aB l)) (c : Nat) (x : ByteArray) (hl : l.length ≤ 1000000000000) :
  Calls Tryz.prog 45 #[.slice A l.length c, .string x] w fun e w' => e = .returned (.bool (l.contains x)) ∧ w = w' := by
 rcases Nat.eq_zero_or_pos l.length with h0 | h0
 ·obtain rfl : l = [] := List.eq_nil_of_length_eq_zero h0
  exact (Tryz.slices_Contains_string_empty A c x w).mono fun _ _ ⟨e, hw⟩ => ⟨e, hw.symm⟩
 ·obtain ⟨g, o, rfl, -, hc⟩ := h.cells h0
  refine (Tryz.slices_Contains_string g o l.length c l x w (Nat.le_refl _) (by omega) (fun j hj => hc j _ (iF l j hj))).mono fun _ _ ⟨e, hw⟩ => ⟨?_, hw.symm⟩
  rw [e, List.take_length, nR]
theorem Ca {α : Type} (f : α → Nat) {l : List α} {x : α} (h : x ∈ l) : f x ≤ (l.map f).sum := by
 induction l with
 |nil => cases h
 |cons a r ih =>
  rw [List.map_cons, List.sum_cons]
  rcases List.mem_cons.1 h with rfl | h
  ·omega
  ·have := ih h; omega
theorem Ij {α : Type} (f : α → Nat) (h : ∀ x, 1 ≤ f x) (l : List α) : l.length ≤ (l.map f).sum := by
 induction l with
 |nil => simp
 |cons a r ih => have := h a; rw [List.map_cons, List.sum_cons, List.length_cons]; omega
theorem lD (l : List ByteArray) : l.length ≤ dP l := by unfold dP; exact Ij _ (fun _ => by omega) l
theorem GZ (d : Dc) : (d.faults.flatMap dR).length ≤ (d.faults.map ic).sum := by
 induction d.faults with
 |nil => simp
 |cons f r ih =>
  have h1 := lD f.aC
  have h2 := lD f.ak
  have e : ic f = f.name.size + dP f.aC + dP f.ak + 1 := rfl
  rw [List.flatMap_cons, List.length_append, List.map_cons, List.sum_cons]
  unfold dR at ih ⊢
  simp only [List.length_append, List.length_cons, List.length_nil] at ih ⊢
  omega
def rJ (l : List Dc) (x : ByteArray) (w : World) (e : Ending) (w' : World) : Prop := ∃ v, e = .returned v ∧ w'.ownsRow w.heap.size 9 1 v (tyUses l x).length (aB (tyUses l x)) ∧ Below w.heap.size w w'
theorem Df (l : List Dc) (x : ByteArray) (d : Dc) : tyUses (l ++ [d]) x = tyUses l x ++ if x.size ≠ 0 ∧ (iA d).contains x = true then [jV d] else [] := by unfold tyUses; rw [List.flatMap_append]; simp
theorem Bh (l : List Dc) (x : ByteArray) : (tyUses l x).length ≤ l.length := by
 unfold tyUses
 induction l with
 |nil => simp
 |cons d r ih =>
  have h1 : (if x.size ≠ 0 ∧ (iA d).contains x = true then [jV d] else []).length ≤ 1 := by split <;> simp
  rw [List.flatMap_cons, List.length_append, List.length_cons]; omega
theorem G5 {l : List Dc} (hsz : (l.map bQ).sum ≤ 10000000) {d : Dc} (hm : d ∈ l) : (av d.term ≤ 100000000 ∧ av d.read ≤ 100000000 ∧ av d.write ≤ 100000000) ∧ (d.faults.flatMap dR).length ≤ 100000000 ∧ d.names.length ≤ 100000000 ∧ d.faults.length ≤ 100000000 := by
 have h1 := Ca bQ hm
 have h2 := GZ d
 have h3 := lD d.names
 have h4 : d.faults.length ≤ (d.faults.map ic).sum := Ij ic (fun f => by unfold ic; omega) d.faults
 have e1 : bQ d = d.name.size + dP d.names + (d.faults.map ic).sum + av d.term + d.proto.size + av d.read + av d.write + d.use.size + 1 := rfl
 omega
theorem zM {l : List Dc} (hsz : (l.map bQ).sum ≤ 10000000) {d : Dc} (hm : d ∈ l) : (iA d).length ≤ 1000000000 := by
 have h1 := Ca bQ hm
 have h2 := GZ d
 have h3 := lD d.names
 have n1 := iK d.term
 have n2 := iK d.read
 have n3 := iK d.write
 have e1 : bQ d = d.name.size + dP d.names + (d.faults.map ic).sum + av d.term + d.proto.size + av d.read + av d.write + d.use.size + 1 := rfl
 have e2 : iA d = aI d.term ++ aI d.read ++ aI d.write ++ [d.use] ++ d.faults.flatMap dR ++ (if d.kind = 5 ∨ d.kind = 7 then d.names else []) := rfl
 have h5 : (if d.kind = 5 ∨ d.kind = 7 then d.names else []).length ≤ d.names.length := by split <;> simp
 rw [e2]
 simp only [List.length_append, List.length_cons, List.length_nil]
 omega
theorem ba_zero {x : ByteArray} (h : x.size = 0) : x = ByteArray.empty := by
 obtain ⟨a⟩ := x
 have : a = #[] := Array.eq_empty_of_size_eq_zero h
 rw [this]; rfl
theorem rg_row {W : World} {b : Nat} {cs : List Value} (h : W.heap[b]? = some (.cells cs.toArray 41 (0, 0))) : W.rangeAt b 0 cs := fun j u hu => by rw [Nat.zero_add]; exact lM h hu
attribute [local go_sem ↓] rD in
set_option maxRecDepth 100000 in
set_option maxHeartbeats 8000000 in
theorem Bj (l : List Dc) (A : Option Addr) (c : Nat) (x : ByteArray) (w : World) (S : Nat → Prop) (hl : aU (fC w S) w S 22 A l) (hS : ∀ g, S g → g < w.heap.size) (hsz : (l.map bQ).sum ≤ 10000000) (hll : l.length ≤ 10000000) :
  Calls Tryz.prog 17 #[.slice A l.length c, .string x] w (rJ l x w) := by
 have HL := Lib.hid hl
 clear hl
 go_enter Tryz.func17, Tryz.ntmps17
 go_wp2
 go_loopw [5, 10] (fun v x' wr => ∃ k : Nat, k ≤ l.length ∧ x' = .int .i64 k ∧ wr.ownsRow w.heap.size 9 1 v (tyUses (l.take k) x).length (aB (tyUses (l.take k) x)) ∧ Below w.heap.size w wr) (fun _ x _ => l.length - (intOf x).toNat)
 case atStart => exact ⟨0, Nat.zero_le _, rfl, World.ownsRow_nil _ _ _ _, Below.refl _ _⟩
 case round =>
  obtain ⟨k, hk, rfl, hown, hb⟩ := hrel
  have hsr := hb.size
  by_cases hlt : k < l.length
  ·skip
   obtain ⟨g, o, v2, rfl, hSg, hp, hc⟩ := fZ (fun _ _ h => jv h) HL.out hlt
   have hgs : g < w.heap.size := hS g hSg
   obtain ⟨d, hd⟩ : ∃ d, d = l[k] := ⟨_, rfl⟩
   have hmem : d ∈ l := by rw [hd]; exact List.getElem_mem hlt
   have htk := nY l k hlt
   rw [← hd] at hp htk
   have hp2 := hp
   obtain ⟨cs, nA, nc, hcl, hone, rfl, c0, -, c2, c3, -, hsn, hnc⟩ := jI hp2
   have hrange : w.rangeAt g (o + k * 22) cs := fun j u hu => hc j u (by simpa [cellsOf, Value.cells] using hu)
   have hrr : wr.rangeAt g (o + k * 22) cs := ny hrange hb hgs
   have rz : (Tryz.prog.info? 41).map (·.size) = some cs.length := by rw [hcl]; exact dG
   have hcs2 : cs.toArray.size = 22 := by simpa using hcl
   have CY := Lib.hid hone
   have HCS := Lib.hid hcs2
   have HCL := Lib.hid hcl
   have C0 := Lib.hid c0
   have C2 := Lib.hid c2
   have hul := G5 hsz hmem
   have HUS := Lib.hid (fun (W : World) (hW : Below w.heap.size w W) => used_any d _ W S (hp.keep (aA hW hS)) (fun g hg => by have := hS g hg; have := hW.size; omega) hul.1 hul.2.1 hul.2.2.1 hul.2.2.2)
   have hkI : (k : Int) < (l.length : Int) := by omega
   have hk0 : (0 : Int) ≤ (k : Int) := by omega
   have hbA : ∀ o, Below wr.heap.size wr (wr.alloc o) := fun o => (Below.refl _ _).alloc (Nat.le_refl _) o
   obtain ⟨cur, hcur⟩ : ∃ cur, cur = tyUses (l.take k) x := ⟨_, rfl⟩
   have htu := Df (l.take k) x d
   rw [← htk, ← hcur] at htu
   have hcll : cur.length ≤ 10000000 := by rw [hcur]; have := Bh (l.take k) x; rw [List.length_take] at this; omega
   rw [← hcur] at hown
   obtain ⟨us, hus⟩ : ∃ us, us = iA d := ⟨_, rfl⟩
   have husl : us.length ≤ 1000000000 := by rw [hus]; exact zM hsz hmem
   rw [← hus] at HUS htu
   have HTU := Lib.hid htu
   clear hcur htk hd hc hcl c0 c2 c3 hone hsn htu hus hul hp hp2 hcs2
   by_cases hx0 : x.size = 0
   ·have hxe : x.toList.isEmpty = true := by rw [ba_zero hx0, ByteArray.toList_eq]; rfl
    have HT2 := Lib.hid (show tyUses (l.take (k + 1)) x = cur by rw [HTU.out, if_neg (fun h => h.1 hx0), List.append_nil])
    clear hx0
    go_wp2_with (first | (with_reducible refine wpList_load_mid rfl 41 (.tmp 12) rfl g (o + k * 22) rfl cs _ hrr Tryz.underlying41 rfl rz ?_) | (with_reducible refine eD _ rfl rfl (.tmp 7) (.tmp 13) rfl wr.heap.size cs.toArray rfl rfl _ (heap_alloc_new wr _) rfl HCS.out CY.out ?_; intro W5 hr5 hg5; have hb5 : Below wr.heap.size wr W5 := (hbA _).trans (below_grown hg5 (Nat.le_refl _) (by simp)); clear hr5 hg5))
    go_roundw
    case rel =>
     refine ⟨k + 1, by omega, by go_num, ?_, hb.trans (hb5.mono hsr)⟩
     rw [HT2.out]
     exact own_below hown hb5 (Nat.le_refl _)
    case measure => simp [intOf]; omega
   ·have hxe : x.toList.isEmpty = false := bg (by omega)
    go_upto_region 5 with (first | (with_reducible refine wpList_load_mid rfl 41 (.tmp 12) rfl g (o + k * 22) rfl cs _ hrr Tryz.underlying41 rfl rz ?_) | (with_reducible refine eD _ rfl rfl (.tmp 7) (.tmp 13) rfl wr.heap.size cs.toArray rfl rfl _ (heap_alloc_new wr _) rfl HCS.out CY.out ?_; intro W5 hr5 hg5; have hb5 : Below wr.heap.size wr W5 := (hbA _).trans (below_grown hg5 (Nat.le_refl _) (by simp)); have hz5 : wr.heap.size < W5.heap.size := lt_of_block hr5))
    have Am : Below w.heap.size w W5 := hb.trans (hb5.mono hsr)
    have hown5 := own_below hown hb5 (Nat.le_refl _)
    have ra := qf W5 wr.heap.size 0 cs (rg_row hr5) HCL.out
    have HU5 := Lib.hid (HUS.out W5 Am)
    have HR5 := Lib.hid hr5
    clear hown hr5 hg5 hrr hrange rz
    go_wp2_with fail
    refine HU5.out.mono ?_
    rintro e W6 ⟨v6, rfl, hown6, hb6⟩
    obtain ⟨A6, c6, rfl, hc6⟩ := aV hown6
    have HCT := Lib.hid (EU (aN.own hown6) c6 x (by omega))
    have hr6 := (hb6.block wr.heap.size hz5).trans HR5.out
    have e0 : W6.cell? ⟨wr.heap.size, 0, none⟩ = some (.int .i64 d.kind) := lM hr6 C0.out
    have e2 : W6.cell? ⟨wr.heap.size, 2, none⟩ = some (.string d.name) := lM hr6 C2.out
    have iU := own_below hown5 hb6 (Nat.le_refl _)
    have vY : Below w.heap.size w W6 := Am.trans (hb6.mono Am.size)
    have hs6 := vY.size
    obtain ⟨q, hq⟩ : ∃ q, q = us.contains x := ⟨_, rfl⟩
    rw [← hq] at HCT HTU
    clear hown6 hown5 ra hr6 hq
    cases q
    ·have HT2 := Lib.hid (show tyUses (l.take (k + 1)) x = cur by rw [HTU.out, if_neg (fun h => by cases h.2), List.append_nil])
     clear hx0
     go_wp2_with fail
     refine HCT.out.mono ?_
     rintro e w' ⟨rfl, rfl⟩
     go_wp2
     go_roundw
     case rel =>
      refine ⟨k + 1, by omega, by go_num, ?_, vY⟩
      rw [HT2.out]
      exact iU
     case measure => simp [intOf]; omega
    ·have HT2 := Lib.hid (show tyUses (l.take (k + 1)) x = cur ++ [jV d] by rw [HTU.out, if_pos ⟨hx0, rfl⟩])
     clear hx0
     go_wp2_with fail
     refine HCT.out.mono ?_
     rintro e w' ⟨rfl, rfl⟩
     by_cases hk5 : d.kind = 5
     ·have b5 : (d.kind == (5 : Int)) = true := by rw [hk5]; rfl
      have HT3 := Lib.hid (show tyUses (l.take (k + 1)) x = cur ++ [(⟨#[119, 105, 116, 110, 101, 115, 115]⟩ : ByteArray)] by rw [HT2.out]; unfold jV; rw [if_pos hk5])
      clear hk5
      go_wp2_with (at_builtin; refine dZ W6 rfl (.tmp 32) (.tmp 33) rfl w.heap.size _ _ _ iU rfl (⟨#[119, 105, 116, 110, 101, 115, 115]⟩ : ByteArray) rfl (by omega) hs6 ?_; intro v' w' hown' hg' hv')
      go_roundw
      case rel =>
       refine ⟨k + 1, by omega, by go_num, ?_, vY.trans (aL iU hg' hs6)⟩
       rw [HT3.out, List.length_append, gB]
       exact hown'
      case measure => simp [intOf]; omega
     have b5 : (d.kind == (5 : Int)) = false := by rw [beq_eq_false_iff_ne]; exact hk5
     by_cases hk7 : d.kind = 7
     ·have b7 : (d.kind == (7 : Int)) = true := by rw [hk7]; rfl
      have HT3 := Lib.hid (show tyUses (l.take (k + 1)) x = cur ++ [(⟨#[99, 104, 97, 105, 110]⟩ : ByteArray)] by rw [HT2.out]; unfold jV; rw [if_neg hk5, if_pos hk7])
      clear hk5 hk7
      go_wp2_with (at_builtin; refine dZ W6 rfl (.tmp 37) (.tmp 38) rfl w.heap.size _ _ _ iU rfl (⟨#[99, 104, 97, 105, 110]⟩ : ByteArray) rfl (by omega) hs6 ?_; intro v' w' hown' hg' hv')
      go_roundw
      case rel =>
       refine ⟨k + 1, by omega, by go_num, ?_, vY.trans (aL iU hg' hs6)⟩
       rw [HT3.out, List.length_append, gB]
       exact hown'
      case measure => simp [intOf]; omega
     have b7 : (d.kind == (7 : Int)) = false := by rw [beq_eq_false_iff_ne]; exact hk7
     have HT3 := Lib.hid (show tyUses (l.take (k + 1)) x = cur ++ [d.name] by rw [HT2.out]; unfold jV; rw [if_neg hk5, if_neg hk7])
     clear hk5 hk7
     go_wp2_with (at_builtin; refine dZ W6 rfl (.tmp 25) (.tmp 28) rfl w.heap.size _ _ _ iU rfl d.name rfl (by omega) hs6 ?_; intro v' w' hown' hg' hv')
     go_roundw
     case rel =>
      refine ⟨k + 1, by omega, by go_num, ?_, vY.trans (aL iU hg' hs6)⟩
      rw [HT3.out, List.length_append, gB]
      exact hown'
     case measure => simp [intOf]; omega
  ·obtain rfl : k = l.length := by omega
   have hkI : ¬ (l.length : Int) < (l.length : Int) := by omega
   rw [List.take_length] at hown
   go_wp2
   go_ret
   exact ⟨_, rfl, hown, hb⟩
end Go.Proofs.YtbmglebipepdmaaGreatDoor
