/- The contract of used: the names that a declaration uses. The contracts of Uses and in: what uses a name. Declarations of a size up to a bound. -/
import Derived.Test.YtbmglebipepdmaaGreatDoorPkTya
import Derived.Test.YtbmglebipepdmaaGreatDoorPkValc
import Derived.Test.YtbmglebipepdmaaGreatDoorPkMem
import Derived.Test.YtbmglebipepdmaaGreatDoorPkHead
import Derived.Test.YtbmglebipepdmaaGreatDoorPkOpen
namespace Go.Proofs.YtbmglebipepdmaaGreatDoor
open Go.RowKit

def fB (f : Ft) : List ByteArray := f.ay ++ f.ak ++ [f.name]
theorem six_cells {w : World} {b : Nat} {v0 v1 v2 v3 v4 v5 : Value} {t : TypeId} (h : w.heap[b]? = some (.cells #[v0, v1, v2, v3, v4, v5] t (0, 0))) : w.cell? ⟨b, 0, none⟩ = some v0 ∧ w.cell? ⟨b, 1, none⟩ = some v1 ∧ w.cell? ⟨b, 2, none⟩ = some v2 ∧ w.cell? ⟨b, 3, none⟩ = some v3 ∧ w.cell? ⟨b, 4, none⟩ = some v4 ∧ w.cell? ⟨b, 5, none⟩ = some v5 :=
 ⟨(cell_of_row _ _ _ _ _ _ h).trans rfl, (cell_of_row _ _ _ _ _ _ h).trans rfl, (cell_of_row _ _ _ _ _ _ h).trans rfl, (cell_of_row _ _ _ _ _ _ h).trans rfl, (cell_of_row _ _ _ _ _ _ h).trans rfl, (cell_of_row _ _ _ _ _ _ h).trans rfl⟩
theorem F5 {w W : World} (hb : Below w.heap.size w W) (s : ByteArray) : ∃ (X : World) (b : Nat), X = W.alloc (.cells #[.string s] 9) ∧ b = W.heap.size ∧ aL X (fun g => g = b) 1 (some ⟨b, 0, none⟩) 1 (aC [s]) ∧ Below w.heap.size w X ∧ Below W.heap.size W X ∧ b < X.heap.size :=
 ⟨_, _, rfl, rfl, ⟨by simp [aC], fun _ => ⟨W.heap.size, 0, rfl, rfl, fun j u hu => by rw [cell_of_row _ _ (0 + j) _ _ _ (heap_alloc_new W _)]; simpa [aC] using hu⟩⟩, hb.alloc hb.size _, (Below.refl _ _).alloc (Nat.le_refl _) _, by simp⟩
theorem sl_new {w W X : World} {A : Option Addr} {c : Nat} {xs : List ByteArray} (hb : Below w.heap.size w W) (h : aL X (W.heap.size ≤ ·) 1 A xs.length (aC xs)) : EK X (fun g => w.heap.size ≤ g ∧ g < X.heap.size) xs (.slice A xs.length c) :=
 ⟨A, c, rfl, h.mono (fun _ hg hl => ⟨Nat.le_trans hb.size hg, hl⟩) (by decide)⟩
theorem mJ {W W' : World} {b : Nat} {xs : List ByteArray} {v : Value} (h : EK W (fun g => b ≤ g ∧ g < W.heap.size) xs v) (hb : Below W.heap.size W W') : EK W' (fun g => b ≤ g ∧ g < W'.heap.size) xs v := by
 obtain ⟨A, c, e, h⟩ := h.keep (aP hb)
 exact ⟨A, c, e, h.mono (fun _ hg hl => ⟨hg.1, hl⟩) (by decide)⟩
theorem concat4 {W : World} {b : Nat} {x1 x2 x3 x4 : List ByteArray} {v1 v2 v3 v4 : Value} (h1 : EK W (fun g => b ≤ g ∧ g < W.heap.size) x1 v1) (h2 : EK W (fun g => b ≤ g ∧ g < W.heap.size) x2 v2) (h3 : EK W (fun g => b ≤ g ∧ g < W.heap.size) x3 v3) (h4 : EK W (fun g => b ≤ g ∧ g < W.heap.size) x4 v4) (hl : x1.length + x2.length + x3.length + x4.length ≤ 1000000000) :
  Calls Tryz.prog 88 #[.slice (some ⟨W.heap.size, 0, none⟩) 4 4] (W.alloc (.cells #[v1, v2, v3, v4] 34)) fun e w' => ∃ v, e = .returned v ∧ w'.ownsRow (W.alloc (.cells #[v1, v2, v3, v4] 34)).heap.size 9 1 v (x1 ++ (x2 ++ (x3 ++ x4))).length (aC (x1 ++ (x2 ++ (x3 ++ x4)))) ∧ Below (W.alloc (.cells #[v1, v2, v3, v4] 34)).heap.size (W.alloc (.cells #[v1, v2, v3, v4] 34)) w' := by
 have := xM [x1, x2, x3, x4] _ 4 _ _ (H7 W (fun g => b ≤ g ∧ g < W.heap.size) (fun g hg => hg.2) [x1, x2, x3, x4] [v1, v2, v3, v4] 34 rfl (by
  intro i x v hx hv
  match i with
  |0 => obtain rfl := Option.some.inj hx; obtain rfl := Option.some.inj hv; exact h1
  |1 => obtain rfl := Option.some.inj hx; obtain rfl := Option.some.inj hv; exact h2
  |2 => obtain rfl := Option.some.inj hx; obtain rfl := Option.some.inj hv; exact h3
  |3 => obtain rfl := Option.some.inj hx; obtain rfl := Option.some.inj hv; exact h4
  |i + 4 => simp at hx)) (fun g hg => by rcases hg with hg | hg <;> simp <;> omega) (by simp) (by simp; omega)
 simpa using this
set_option maxRecDepth 100000 in
set_option maxHeartbeats 4000000 in
theorem used_any (d : Dc) (v : Value) (w : World) (S : Nat → Prop) (hd : fo w S d v) (hS : ∀ g, S g → g < w.heap.size) (hlim : au d.term ≤ 100000000 ∧ au d.read ≤ 100000000 ∧ au d.write ≤ 100000000) (hfl : (d.faults.flatMap fB).length ≤ 100000000) (hnl : d.names.length ≤ 100000000) (hff : d.faults.length ≤ 100000000) :
  Calls Tryz.prog 46 #[v] w fun e w' => ∃ v', e = .returned v' ∧ w'.ownsRow w.heap.size 9 1 v' (fq d).length (aC (fq d)) ∧ Below w.heap.size w w' := by
 obtain ⟨nA, nc', fA, fc, vt, vr, vw, hv, hnA, hnc, hfA, hfc, h5, h6, h7⟩ := hd
 have HT5 := Lib.hid h5
 have HT6 := Lib.hid h6
 have HT7 := Lib.hid h7
 obtain ⟨o1, m1, d1, wA1, wn1, wc1, kA1, kn1, kc1, rfl⟩ := h5.form
 obtain ⟨o2, m2, d2, wA2, wn2, wc2, kA2, kn2, kc2, rfl⟩ := h6.form
 obtain ⟨o3, m3, d3, wA3, wn3, wc3, kA3, kn3, kc3, rfl⟩ := h7.form
 clear h5 h6 h7
 simp only [Value.cells, List.append_toArray, List.cons_append, List.nil_append] at hv
 rw [hv]
 have n1 := jf d.term
 have n2 := jf d.read
 have n3 := jf d.write
 obtain ⟨l1, l2, l3⟩ := hlim
 obtain ⟨w0, hw0⟩ : ∃ w0 : World, w0 = w.alloc (.cells (tO d.kind d.line d.name nA d.names.length nc' fA d.faults.length fc o1 m1 d1 wA1 wn1 wc1 kA1 kn1 kc1 d.proto o2 m2 d2 wA2 wn2 wc2 kA2 kn2 kc2 o3 m3 d3 wA3 wn3 wc3 kA3 kn3 kc3 d.use) 41 (0, 0)) := ⟨_, rfl⟩
 have hb0 : Below w.heap.size w w0 := by rw [hw0]; exact (Below.refl _ _).alloc (Nat.le_refl _) _
 have hz0 : w0.heap.size = w.heap.size + 1 := by rw [hw0]; simp
 have hr0 : w0.heap[w.heap.size]? = some (.cells (tO d.kind d.line d.name nA d.names.length nc' fA d.faults.length fc o1 m1 d1 wA1 wn1 wc1 kA1 kn1 kc1 d.proto o2 m2 d2 wA2 wn2 wc2 kA2 kn2 kc2 o3 m3 d3 wA3 wn3 wc3 kA3 kn3 kc3 d.use) 41 (0, 0)) := by rw [hw0]; exact heap_alloc_new w _
 have HB := Lib.hid (show ∀ W', Below w0.heap.size w0 W' → W'.heap[w.heap.size]? = some (.cells (tO d.kind d.line d.name nA d.names.length nc' fA d.faults.length fc o1 m1 d1 wA1 wn1 wc1 kA1 kn1 kc1 d.proto o2 m2 d2 wA2 wn2 wc2 kA2 kn2 kc2 o3 m3 d3 wA3 wn3 wc3 kA3 kn3 kc3 d.use) 41 (0, 0)) from fun W' hW => (hW.block _ (by omega)).trans hr0)
 have hS2 : ∀ W', Below w0.heap.size w0 W' → ∀ g, S g → g < W'.heap.size := fun W' hW g hg => by have := hS g hg; have := hW.size; omega
 have hk2 : ∀ W', Below w0.heap.size w0 W' → Kept S w W' := fun W' hW => aA (hb0.trans (hW.mono hb0.size)) hS
 have HN1 := Lib.hid (fun (W : World) (hW : Below w0.heap.size w0 W) => DF d.term _ W S (HT5.out.keep (hk2 W hW)) (hS2 W hW) (by omega))
 have HN2 := Lib.hid (fun (W : World) (hW : Below w0.heap.size w0 W) => DF d.read _ W S (HT6.out.keep (hk2 W hW)) (hS2 W hW) (by omega))
 have HN3 := Lib.hid (fun (W : World) (hW : Below w0.heap.size w0 W) => DF d.write _ W S (HT7.out.keep (hk2 W hW)) (hS2 W hW) (by omega))
 have HW0 := Lib.hid hw0
 have HNA := Lib.hid hnA
 have HFA := Lib.hid hfA
 have HB0 := Lib.hid hb0
 obtain ⟨base, hbase⟩ : ∃ base, base = bB d.term ++ bB d.read ++ bB d.write ++ [d.use] := ⟨_, rfl⟩
 have hbl : base.length ≤ 300000001 := by rw [hbase]; simp only [List.length_append, List.length_cons, List.length_nil]; omega
 have HUS := Lib.hid (show fq d = base ++ d.faults.flatMap fB ++ (if d.kind = 5 ∨ d.kind = 7 then d.names else []) by rw [hbase]; rfl)
 obtain ⟨us, hus⟩ : ∃ us, us = fq d := ⟨_, rfl⟩
 rw [← hus] at HUS ⊢
 have HBS := Lib.hid hbase
 clear hw0 hr0 hnA hfA hv hus hbase
 go_enter Tryz.func46, Tryz.ntmps46
 go_upto_region 1 with fail
 rw [← HW0.out]
 clear HW0
 go_cut [3] (fun s3 wx => wx.ownsRow w0.heap.size 9 1 s3 base.length (aC base) ∧ Below w0.heap.size w0 wx)
 case first =>
  have HPU := Lib.hid (show ∀ (w8 : World) (v8 : Value), w8.ownsRow w0.heap.size 9 1 v8 (bB d.term ++ (bB d.read ++ (bB d.write ++ [d.use]))).length (aC (bB d.term ++ (bB d.read ++ (bB d.write ++ [d.use])))) → w8.ownsRow w0.heap.size 9 1 v8 base.length (aC base) from fun w8 v8 h => by rw [HBS.out]; simpa using h)
  refine aZ.start (fun w' => Below w0.heap.size w0 w') [] [0, 1, 3, 4, 6, 7, 9, 10] (by kernel_rfl) (Below.refl _ _).drew (fun hHeld => ?_)
  obtain ⟨X0, hX0⟩ : ∃ X0 : World, X0 = w0.drew := ⟨_, rfl⟩
  rw [← hX0] at hHeld ⊢
  have bx := hHeld
  clear hX0 hHeld
  repeat
   refine aZ.take (v := ?_) rfl (by decide +kernel) (by rfl) (fun _ _ _ h => h) bx ?_ ?_
   rotate_left
   focus
    intro w9 hS9
    have r9 := HB.out w9 hS9
    have z5 := ai r9 5 _ rfl
    have z6 := ai r9 6 _ rfl
    have z7 := ai r9 7 _ rfl
    have z8 := ai r9 8 _ rfl
    have z9 := ai r9 9 _ rfl
    have z11 := ai r9 11 _ rfl
    have z12 := ai r9 12 _ rfl
    have z13 := ai r9 13 _ rfl
    have z14 := ai r9 14 _ rfl
    have z15 := ai r9 15 _ rfl
    have z16 := ai r9 16 _ rfl
    have z17 := ai r9 17 _ rfl
    have z18 := ai r9 18 _ rfl
    have z19 := ai r9 19 _ rfl
    have z20 := ai r9 20 _ rfl
    have z21 := ai r9 21 _ rfl
    clear r9
    go_simp
    (try with_reducible rfl)
    done
   try simp only [Act.put, List.getElem_toArray, List.getElem_cons_succ, List.getElem_cons_zero, List.setIfInBounds_toArray, List.set_cons_zero, List.set_cons_succ]
  repeat'
   first
   |refine aZ.two 2 11 rfl rfl (by decide +kernel) (by rfl) (by rfl) (fun K hK => ?_) (fun K hK => ?_)
   |refine aZ.two 5 11 rfl rfl (by decide +kernel) (by rfl) (by rfl) (fun K hK => ?_) (fun K hK => ?_)
   |refine aZ.two 8 11 rfl rfl (by decide +kernel) (by rfl) (by rfl) (fun K hK => ?_) (fun K hK => ?_)
   |refine aZ.one 2 rfl (by decide +kernel) (by rfl) (fun K hK => ?_)
   |refine aZ.one 5 rfl (by decide +kernel) (by rfl) (fun K hK => ?_)
   |refine aZ.one 8 rfl (by decide +kernel) (by rfl) (fun K hK => ?_)
   |refine aZ.one 11 rfl (by decide +kernel) (by rfl) (fun K hK => ?_)
   |refine aZ.one 12 rfl (by decide +kernel) (by rfl) (fun K hK => ?_)
   |refine aZ.one 13 rfl (by decide +kernel) (by rfl) (fun K hK => ?_)
   |refine aZ.one 14 rfl (by decide +kernel) (by rfl) (fun K hK => ?_)
   |go_simp
    first
    |go_at_call 89
     first
     |(with_reducible refine (HN1.out _ bx).mono ?_); rintro e X1 ⟨A1, c1, rfl, -, hs, y⟩; have g9 := sl_new (c := c1) bx hs; (try have g1 := mJ g1 y); (try have g2 := mJ g2 y); (try have g4 := mJ g4 y); have g1 := g9
     |(with_reducible refine (HN2.out _ bx).mono ?_); rintro e X2 ⟨A2, c2, rfl, -, hs, y⟩; have g9 := sl_new (c := c2) bx hs; (try have g1 := mJ g1 y); (try have g2 := mJ g2 y); (try have g4 := mJ g4 y); have g2 := g9
     |(with_reducible refine (HN3.out _ bx).mono ?_); rintro e X3 ⟨A3, c3, rfl, -, hs, y⟩; have g9 := sl_new (c := c3) bx hs; (try have g1 := mJ g1 y); (try have g2 := mJ g2 y); (try have g4 := mJ g4 y); have g3 := g9
     have bx := bx.trans (y.mono bx.size)
     try go_simp
     refine hK.out _ _ (fun _ => bx) ?_
     clear hK K
    |go_at_call 88
     refine HCC.out.mono ?_
     rintro e w8 ⟨v8, rfl, mO, hb8⟩
     have mO := qI mO bx.size
     have bx := bx.trans (hb8.mono bx.size)
     try go_simp
     refine hK.out _ _ (fun _ => bx) ?_
     clear hK K
    |obtain ⟨X, bl, hX, hb, hlit, bn, bw, hbl⟩ := F5 bx d.use
     refine hK.out _ (World.alloc _ (.cells #[.string d.use] 9)) (fun _ => by rw [← hX]; exact bn) ?_
     rw [← hX, ← hb]
     have g4 : EK X (fun g => w0.heap.size ≤ g ∧ g < X.heap.size) [d.use] (.slice (some ⟨bl, 0, none⟩) 1 1) := ⟨_, _, rfl, hlit.mono (fun g hg _ => ⟨by have := bx.size; omega, by omega⟩) (by decide)⟩
     try have g1 := mJ g1 bw
     try have g2 := mJ g2 bw
     try have g3 := mJ g3 bw
     have bx := bn
     clear hK K hX hb bn
    |refine hK.out _ (World.alloc _ (.cells #[.slice A1 _ c1, _, _, _] 34)) (fun _ => bx.alloc bx.size _) ?_
     have HCC := Lib.hid (concat4 g1 g2 g3 g4 (by simp; omega))
     have bx := bx.alloc bx.size (.cells #[.slice A1 (bB d.term).length c1, .slice A2 (bB d.read).length c2, .slice A3 (bB d.write).length c3, .slice (some ⟨bl, 0, none⟩) 1 1] 34)
     clear hK K
    |refine hK.out _ _ (fun _ => bx) ?_
     clear hK K
  all_goals
   refine aZ.done (by decide +kernel) ?_
   go_wp2_with fail
   go_meet
   exact ⟨HPU.out _ _ mO, bx⟩
 case rest =>
  obtain ⟨hown1, hb1⟩ := hcut
  obtain ⟨W1, hW1⟩ : ∃ W1 : World, W1 = wc := ⟨_, rfl⟩
  rw [← hW1] at hown1 hb1
  rw [← hW1]
  clear hW1
  have hs1 := hb1.size
  have e4 := ai (HB.out W1 hb1) 4 _ rfl
  go_wp2_with fail
  clear e4
  go_loopw [3, 23] (fun v x wr => ∃ k : Nat, k ≤ d.faults.length ∧ x = .int .i64 k ∧ wr.ownsRow w0.heap.size 9 1 v (base ++ (d.faults.take k).flatMap fB).length (aC (base ++ (d.faults.take k).flatMap fB)) ∧ Below w0.heap.size w0 wr) (fun _ x _ => d.faults.length - (intOf x).toNat)
  case atStart => exact ⟨0, Nat.zero_le _, rfl, by simpa using hown1, hb1⟩
  case round =>
   obtain ⟨k, hk, rfl, hown, hb⟩ := hrel
   have hsr := hb.size
   have hbw : Below w.heap.size w wr := HB0.out.trans (hb.mono HB0.out.size)
   obtain ⟨vA, vc, rfl, hvc⟩ := aS hown
   by_cases hlt : k < d.faults.length
   ·obtain ⟨g, o, op, nm, x, y, bA, bn, bc, cA, cn, cc, rfl, hSg, hft, k0, k1, k2, k3, k4, k5⟩ := nT (HFA.out.keep (P' := lm wr S) (aA hbw hS) (fun _ _ h => h.keep (aA hbw hS))) hlt
    have hgs : g < wr.heap.size := World.block_lt_of_cell? wr _ k0
    have hkI : (k : Int) < (d.faults.length : Int) := by omega
    have hk0 : (0 : Int) ≤ (k : Int) := by omega
    obtain ⟨f, hf⟩ : ∃ f, f = d.faults[k] := ⟨_, rfl⟩
    rw [← hf] at hft
    have htk : d.faults.take (k + 1) = d.faults.take k ++ [f] := by rw [hf]; exact List.take_succ_eq_append_getElem hlt
    obtain ⟨bA', bc', cA', cc', hv, hs4, -, hs5, -⟩ := hft
    simp only [Value.agg.injEq, Array.mk.injEq, List.cons.injEq, Value.int.injEq, Value.string.injEq, Value.slice.injEq, true_and, and_true] at hv
    obtain ⟨rfl, rfl, rfl, rfl, ⟨rfl, rfl, rfl⟩, ⟨rfl, rfl, rfl⟩⟩ := hv
    obtain ⟨cur, hcur⟩ : ∃ cur, cur = base ++ (d.faults.take k).flatMap fB := ⟨_, rfl⟩
    have hcn : base ++ (d.faults.take (k + 1)).flatMap fB = cur ++ f.ay ++ f.ak ++ [f.name] := by rw [htk, hcur, List.flatMap_append]; simp [fB]
    have hcl : (cur ++ f.ay ++ f.ak ++ [f.name]).length ≤ 400000001 := by
     rw [← hcn, List.length_append]
     have h1 : ((d.faults.take (k + 1)).flatMap fB).length ≤ (d.faults.flatMap fB).length := by
      conv => rhs; rw [← List.take_append_drop (k + 1) d.faults, List.flatMap_append, List.length_append]
      omega
     omega
    rw [← hcur] at hown hvc ⊢
    obtain ⟨Wv, hWv⟩ : ∃ Wv : World, Wv = wr.alloc (.cells #[.int .i64 f.op, .string f.name, .int .i64 f.byz, .int .i64 f.je, .slice bA f.ay.length bc, .slice cA f.ak.length cc] 82) := ⟨_, rfl⟩
    have hbv : Below wr.heap.size wr Wv := by rw [hWv]; exact (Below.refl _ _).alloc (Nat.le_refl _) _
    obtain ⟨Wn, hWn⟩ : ∃ Wn : World, Wn = Wv.alloc (.cells #[.string f.name] 9) := ⟨_, rfl⟩
    have hbn : Below Wv.heap.size Wv Wn := by rw [hWn]; exact (Below.refl _ _).alloc (Nat.le_refl _) _
    have hrn : Wn.heap[Wv.heap.size]? = some (.cells #[.string f.name] 9 (0, 0)) := by rw [hWn]; exact heap_alloc_new Wv _
    have hzn : Wn.heap.size = Wv.heap.size + 1 := by rw [hWn]; simp
    have hbrn : Below wr.heap.size wr Wn := hbv.trans (hbn.mono hbv.size)
    have hb0n : Below w0.heap.size w0 Wn := hb.trans (hbrn.mono hsr)
    have hown2 := own_below hown hbrn (Nat.le_refl _)
    have hcc := xM [cur, f.ay, f.ak, [f.name]] _ 4 _ _ (H7 Wn (fun g => g < Wn.heap.size) (fun g hg => hg) [cur, f.ay, f.ak, [f.name]] [.slice vA cur.length vc, .slice bA f.ay.length bc, .slice cA f.ak.length cc, .slice (some ⟨Wv.heap.size, 0, none⟩) 1 1] 34 rfl (by
     intro i x v hx hv
     match i with
     |0 => obtain rfl := Option.some.inj hx; obtain rfl := Option.some.inj hv; exact ⟨_, _, rfl, (aL.own hown2).mono (fun g hg hl => hl) (by decide)⟩
     |1 => obtain rfl := Option.some.inj hx; obtain rfl := Option.some.inj hv; exact ⟨_, _, rfl, (hs4.keep (aP hbrn)).mono (fun g hg hl => hl) (by decide)⟩
     |2 => obtain rfl := Option.some.inj hx; obtain rfl := Option.some.inj hv; exact ⟨_, _, rfl, (hs5.keep (aP hbrn)).mono (fun g hg hl => hl) (by decide)⟩
     |3 =>
      obtain rfl := Option.some.inj hx; obtain rfl := Option.some.inj hv
      refine ⟨_, _, rfl, by simp [aC], fun _ => ⟨Wv.heap.size, 0, rfl, (by show Wv.heap.size < Wn.heap.size; omega), fun j u hu => ?_⟩⟩
      rw [cell_of_row Wn _ (0 + j) _ _ _ hrn]
      simpa [aC] using hu
     |i + 4 => simp at hx)) (fun g hg => by rcases hg with hg | hg <;> simp <;> omega) (by simp) (by have := hcl; simp only [List.flatten_cons, List.flatten_nil, List.length_append, List.length_cons, List.length_nil] at this ⊢; omega)
    obtain ⟨bv, hbvv⟩ : ∃ bv, bv = Wv.heap.size := ⟨_, rfl⟩
    rw [show Wn.heap.size = bv + 1 by rw [hzn, hbvv], ← hbvv] at hcc
    have HCC := Lib.hid hcc
    have HWV := Lib.hid hWv
    have HWN := Lib.hid hWn
    have HBV := Lib.hid hbvv
    have HCN := Lib.hid hcn
    have HZN := Lib.hid hzn
    have hb3 : ∀ o, Below w0.heap.size w0 (Wn.alloc o) := fun o => hb0n.trans (((Below.refl _ _).alloc (Nat.le_refl _) o).mono hb0n.size)
    clear hcc hWv hWn hbvv hown hown2 hcur hcn hrn hzn htk hf hs4 hs5
    go_upto_region 5 with fail
    rw [← HWV.out]
    have hsb : wr.heap.size < Wv.heap.size := by have := HWV.out; rw [this]; simp
    obtain ⟨e0, e1, e2, e3, e4, e5⟩ : _ ∧ _ ∧ _ ∧ _ ∧ _ ∧ _ := six_cells (show Wv.heap[wr.heap.size]? = some (.cells #[.int .i64 f.op, .string f.name, .int .i64 f.byz, .int .i64 f.je, .slice bA f.ay.length bc, .slice cA f.ak.length cc] 82 (0, 0)) by rw [HWV.out]; exact heap_alloc_new wr _)
    go_wp2_with fail
    rw [← HWN.out, ← HBV.out]
    refine HCC.out.mono ?_
    rintro e w8 ⟨v8, rfl, mO, hb8⟩
    have hx3 := hb3 (.cells #[.slice vA cur.length vc, .slice bA f.ay.length bc, .slice cA f.ak.length cc, .slice (some ⟨bv, 0, none⟩) 1 1] 34 (0, 0))
    have hb8w : Below w0.heap.size w0 w8 := hx3.trans (hb8.mono hx3.size)
    have HO8 := Lib.hid mO
    clear e0 e1 e2 e3 e4 e5 mO hb8
    go_wp2
    go_roundw
    case rel =>
     refine ⟨k + 1, by omega, by go_num, ?_, hb8w⟩
     rw [HCN.out]
     have := qI HO8.out (base' := w0.heap.size) hx3.size
     simpa using this
    case measure => simp [intOf]; omega
   ·obtain rfl : k = d.faults.length := by omega
    have hkI : ¬ (d.faults.length : Int) < (d.faults.length : Int) := by omega
    rw [List.take_length] at hown hvc ⊢
    have q0 : wr.cell? ⟨w.heap.size, 0, none⟩ = some (.int .i64 d.kind) := ai (HB.out wr hb) 0 _ rfl
    have q3 : wr.cell? ⟨w.heap.size, 3, none⟩ = some (.slice nA d.names.length nc') := ai (HB.out wr hb) 3 _ rfl
    obtain ⟨cur, hcur⟩ : ∃ cur, cur = base ++ d.faults.flatMap fB := ⟨_, rfl⟩
    have hcl : cur.length ≤ 400000001 := by rw [hcur, List.length_append]; omega
    rw [← hcur] at hown hvc ⊢
    rw [← hcur] at HUS
    have hbw2 : Below w.heap.size w wr := hbw
    clear hcur
    by_cases hk5 : d.kind = 5
    ·have b5 : (d.kind == (5 : Int)) = true := by rw [hk5]; rfl
     have HU := Lib.hid (show us = cur ++ d.names by have := HUS.out; rw [if_pos (Or.inl hk5)] at this; exact this)
     clear hk5
     go_wp2_with (at_builtin; refine jQ wr rfl (.tmp 46) (.tmp 48) rfl w0.heap.size _ _ _ hown rfl S nA _ nc' d.names rfl rfl (HNA.out.keep (aA hbw hS)) (by omega) (by omega) hsr ?_; intro v3 w3 hown3 hg3 hv3)
     go_ret
     refine ⟨v3, rfl, ?_, HB0.out.trans ((hb.trans (aM hown hg3 hsr)).mono HB0.out.size)⟩
     rw [HU.out, List.length_append]
     have := qI hown3 (base' := w.heap.size) HB0.out.size
     simpa [aC] using this
    ·have b5 : (d.kind == (5 : Int)) = false := by rw [beq_eq_false_iff_ne]; exact hk5
     by_cases hk7 : d.kind = 7
     ·have b7 : (d.kind == (7 : Int)) = true := by rw [hk7]; rfl
      have HU := Lib.hid (show us = cur ++ d.names by have := HUS.out; rw [if_pos (Or.inr hk7)] at this; exact this)
      clear hk5 hk7
      go_wp2_with (at_builtin; refine jQ wr rfl (.tmp 46) (.tmp 48) rfl w0.heap.size _ _ _ hown rfl S nA _ nc' d.names rfl rfl (HNA.out.keep (aA hbw hS)) (by omega) (by omega) hsr ?_; intro v3 w3 hown3 hg3 hv3)
      go_ret
      refine ⟨v3, rfl, ?_, HB0.out.trans ((hb.trans (aM hown hg3 hsr)).mono HB0.out.size)⟩
      rw [HU.out, List.length_append]
      have := qI hown3 (base' := w.heap.size) HB0.out.size
      simpa [aC] using this
     ·have b7 : (d.kind == (7 : Int)) = false := by rw [beq_eq_false_iff_ne]; exact hk7
      have HU := Lib.hid (show us = cur by have := HUS.out; rw [if_neg (fun h => h.elim hk5 hk7), List.append_nil] at this; exact this)
      clear hk5 hk7
      go_wp2
      go_ret
      refine ⟨.slice vA cur.length vc, rfl, ?_, HB0.out.trans (hb.mono HB0.out.size)⟩
      rw [HU.out]
      exact qI hown HB0.out.size
end Go.Proofs.YtbmglebipepdmaaGreatDoor
namespace Go.Proofs.YtbmglebipepdmaaGreatDoor
open Go.RowKit

theorem GD {w : World} {S : Nat → Prop} {A : Option Addr} {l : List ByteArray} (h : aL w S 1 A l.length (aC l)) (c : Nat) (x : ByteArray) (hl : l.length ≤ 1000000000000) :
  Calls Tryz.prog 45 #[.slice A l.length c, .string x] w fun e w' => e = .returned (.bool (l.contains x)) ∧ w = w' := by
 rcases Nat.eq_zero_or_pos l.length with h0 | h0
 ·obtain rfl : l = [] := List.eq_nil_of_length_eq_zero h0
  exact (Tryz.slices_Contains_string_empty A c x w).mono fun _ _ ⟨e, hw⟩ => ⟨e, hw.symm⟩
 ·obtain ⟨g, o, rfl, -, hc⟩ := h.cells h0
  refine (Tryz.slices_Contains_string g o l.length c l x w (Nat.le_refl _) (by omega) (fun j hj => hc j _ (iW l j hj))).mono fun _ _ ⟨e, hw⟩ => ⟨?_, hw.symm⟩
  rw [e, List.take_length, o7]
theorem DW {α : Type} (f : α → Nat) {l : List α} {x : α} (h : x ∈ l) : f x ≤ (l.map f).sum := by
 induction l with
 |nil => cases h
 |cons a r ih =>
  rw [List.map_cons, List.sum_cons]
  rcases List.mem_cons.1 h with rfl | h
  ·omega
  ·have := ih h; omega
theorem J8 {α : Type} (f : α → Nat) (h : ∀ x, 1 ≤ f x) (l : List α) : l.length ≤ (l.map f).sum := by
 induction l with
 |nil => simp
 |cons a r ih => have := h a; rw [List.map_cons, List.sum_cons, List.length_cons]; omega
theorem mD (l : List ByteArray) : l.length ≤ bf l := by unfold bf; exact J8 _ (fun _ => by omega) l
theorem JD (d : Dc) : (d.faults.flatMap fB).length ≤ (d.faults.map fC).sum := by
 induction d.faults with
 |nil => simp
 |cons f r ih =>
  have h1 := mD f.ay
  have h2 := mD f.ak
  have e : fC f = f.name.size + bf f.ay + bf f.ak + 1 := rfl
  rw [List.flatMap_cons, List.length_append, List.map_cons, List.sum_cons]
  unfold fB at ih ⊢
  simp only [List.length_append, List.length_cons, List.length_nil] at ih ⊢
  omega
def tK (l : List Dc) (x : ByteArray) (w : World) (e : Ending) (w' : World) : Prop := ∃ v, e = .returned v ∧ w'.ownsRow w.heap.size 9 1 v (tyUses l x).length (aC (tyUses l x)) ∧ Below w.heap.size w w'
theorem EP (l : List Dc) (x : ByteArray) (d : Dc) : tyUses (l ++ [d]) x = tyUses l x ++ if x.size ≠ 0 ∧ (fq d).contains x = true then [kR d] else [] := by unfold tyUses; rw [List.flatMap_append]; simp
theorem CX (l : List Dc) (x : ByteArray) : (tyUses l x).length ≤ l.length := by
 unfold tyUses
 induction l with
 |nil => simp
 |cons d r ih =>
  have h1 : (if x.size ≠ 0 ∧ (fq d).contains x = true then [kR d] else []).length ≤ 1 := by split <;> simp
  rw [List.flatMap_cons, List.length_append, List.length_cons]; omega
theorem CZ {l : List Dc} (hsz : (l.map bE).sum ≤ 10000000) {d : Dc} (hm : d ∈ l) : (au d.term ≤ 100000000 ∧ au d.read ≤ 100000000 ∧ au d.write ≤ 100000000) ∧ (d.faults.flatMap fB).length ≤ 100000000 ∧ d.names.length ≤ 100000000 ∧ d.faults.length ≤ 100000000 := by
 have h1 := DW bE hm
 have h2 := JD d
 have h3 := mD d.names
 have h4 : d.faults.length ≤ (d.faults.map fC).sum := J8 fC (fun f => by unfold fC; omega) d.faults
 have e1 : bE d = d.name.size + bf d.names + (d.faults.map fC).sum + au d.term + d.proto.size + au d.read + au d.write + d.use.size + 1 := rfl
 omega
theorem Bv {l : List Dc} (hsz : (l.map bE).sum ≤ 10000000) {d : Dc} (hm : d ∈ l) : (fq d).length ≤ 1000000000 := by
 have h1 := DW bE hm
 have h2 := JD d
 have h3 := mD d.names
 have n1 := jf d.term
 have n2 := jf d.read
 have n3 := jf d.write
 have e1 : bE d = d.name.size + bf d.names + (d.faults.map fC).sum + au d.term + d.proto.size + au d.read + au d.write + d.use.size + 1 := rfl
 have e2 : fq d = bB d.term ++ bB d.read ++ bB d.write ++ [d.use] ++ d.faults.flatMap fB ++ (if d.kind = 5 ∨ d.kind = 7 then d.names else []) := rfl
 have h5 : (if d.kind = 5 ∨ d.kind = 7 then d.names else []).length ≤ d.names.length := by split <;> simp
 rw [e2]
 simp only [List.length_append, List.length_cons, List.length_nil]
 omega
theorem ba_zero {x : ByteArray} (h : x.size = 0) : x = ByteArray.empty := by
 obtain ⟨a⟩ := x
 have : a = #[] := Array.eq_empty_of_size_eq_zero h
 rw [this]; rfl
theorem rg_row {W : World} {b : Nat} {cs : List Value} (h : W.heap[b]? = some (.cells cs.toArray 41 (0, 0))) : W.rangeAt b 0 cs := fun j u hu => by rw [Nat.zero_add]; exact mP h hu
attribute [local go_sem ↓] qf in
set_option maxRecDepth 100000 in
set_option maxHeartbeats 8000000 in
theorem CY (l : List Dc) (A : Option Addr) (c : Nat) (x : ByteArray) (w : World) (S : Nat → Prop) (hl : aT (fo w S) w S 22 A l) (hS : ∀ g, S g → g < w.heap.size) (hsz : (l.map bE).sum ≤ 10000000) (hll : l.length ≤ 10000000) :
  Calls Tryz.prog 17 #[.slice A l.length c, .string x] w (tK l x w) := by
 have HL := Lib.hid hl
 clear hl
 go_enter Tryz.func17, Tryz.ntmps17
 go_wp2
 go_loopw [5, 10] (fun v x' wr => ∃ k : Nat, k ≤ l.length ∧ x' = .int .i64 k ∧ wr.ownsRow w.heap.size 9 1 v (tyUses (l.take k) x).length (aC (tyUses (l.take k) x)) ∧ Below w.heap.size w wr) (fun _ x _ => l.length - (intOf x).toNat)
 case atStart => exact ⟨0, Nat.zero_le _, rfl, World.ownsRow_nil _ _ _ _, Below.refl _ _⟩
 case round =>
  obtain ⟨k, hk, rfl, hown, hb⟩ := hrel
  have hsr := hb.size
  by_cases hlt : k < l.length
  ·skip
   obtain ⟨g, o, v2, rfl, hSg, hp, hc⟩ := fJ (fun _ _ h => jE h) HL.out hlt
   have hgs : g < w.heap.size := hS g hSg
   obtain ⟨d, hd⟩ : ∃ d, d = l[k] := ⟨_, rfl⟩
   have hmem : d ∈ l := by rw [hd]; exact List.getElem_mem hlt
   have htk := pE l k hlt
   rw [← hd] at hp htk
   have hp2 := hp
   obtain ⟨cs, nA, nc, hcl, hone, rfl, c0, -, c2, c3, -, hsn, hnc⟩ := jU hp2
   have hrange : w.rangeAt g (o + k * 22) cs := fun j u hu => hc j u (by simpa [cellsOf, Value.cells] using hu)
   have hrr : wr.rangeAt g (o + k * 22) cs := nu hrange hb hgs
   have ru : (Tryz.prog.info? 41).map (·.size) = some cs.length := by rw [hcl]; exact dJ
   have hcs2 : cs.toArray.size = 22 := by simpa using hcl
   have yA := Lib.hid hone
   have HCS := Lib.hid hcs2
   have HCL := Lib.hid hcl
   have C0 := Lib.hid c0
   have C2 := Lib.hid c2
   have hul := CZ hsz hmem
   have HUS := Lib.hid (fun (W : World) (hW : Below w.heap.size w W) => used_any d _ W S (hp.keep (aA hW hS)) (fun g hg => by have := hS g hg; have := hW.size; omega) hul.1 hul.2.1 hul.2.2.1 hul.2.2.2)
   have hkI : (k : Int) < (l.length : Int) := by omega
   have hk0 : (0 : Int) ≤ (k : Int) := by omega
   have hbA : ∀ o, Below wr.heap.size wr (wr.alloc o) := fun o => (Below.refl _ _).alloc (Nat.le_refl _) o
   obtain ⟨cur, hcur⟩ : ∃ cur, cur = tyUses (l.take k) x := ⟨_, rfl⟩
   have htu := EP (l.take k) x d
   rw [← htk, ← hcur] at htu
   have hcll : cur.length ≤ 10000000 := by rw [hcur]; have := CX (l.take k) x; rw [List.length_take] at this; omega
   rw [← hcur] at hown
   obtain ⟨us, hus⟩ : ∃ us, us = fq d := ⟨_, rfl⟩
   have husl : us.length ≤ 1000000000 := by rw [hus]; exact Bv hsz hmem
   rw [← hus] at HUS htu
   have HTU := Lib.hid htu
   clear hcur htk hd hc hcl c0 c2 c3 hone hsn htu hus hul hp hp2 hcs2
   by_cases hx0 : x.size = 0
   ·have hxe : x.toList.isEmpty = true := by rw [ba_zero hx0, ByteArray.toList_eq]; rfl
    have HT2 := Lib.hid (show tyUses (l.take (k + 1)) x = cur by rw [HTU.out, if_neg (fun h => h.1 hx0), List.append_nil])
    clear hx0
    go_wp2_with (first | (with_reducible refine wpList_load_mid rfl 41 (.tmp 12) rfl g (o + k * 22) rfl cs _ hrr Tryz.underlying41 rfl ru ?_) | (with_reducible refine eU _ rfl rfl (.tmp 7) (.tmp 13) rfl wr.heap.size cs.toArray rfl rfl _ (heap_alloc_new wr _) rfl HCS.out yA.out ?_; intro W5 hr5 hg5; have hb5 : Below wr.heap.size wr W5 := (hbA _).trans (below_grown hg5 (Nat.le_refl _) (by simp)); clear hr5 hg5))
    go_roundw
    case rel =>
     refine ⟨k + 1, by omega, by go_num, ?_, hb.trans (hb5.mono hsr)⟩
     rw [HT2.out]
     exact own_below hown hb5 (Nat.le_refl _)
    case measure => simp [intOf]; omega
   ·have hxe : x.toList.isEmpty = false := bP (by omega)
    go_upto_region 5 with (first | (with_reducible refine wpList_load_mid rfl 41 (.tmp 12) rfl g (o + k * 22) rfl cs _ hrr Tryz.underlying41 rfl ru ?_) | (with_reducible refine eU _ rfl rfl (.tmp 7) (.tmp 13) rfl wr.heap.size cs.toArray rfl rfl _ (heap_alloc_new wr _) rfl HCS.out yA.out ?_; intro W5 hr5 hg5; have hb5 : Below wr.heap.size wr W5 := (hbA _).trans (below_grown hg5 (Nat.le_refl _) (by simp)); have hz5 : wr.heap.size < W5.heap.size := lt_of_block hr5))
    have Cg : Below w.heap.size w W5 := hb.trans (hb5.mono hsr)
    have hown5 := own_below hown hb5 (Nat.le_refl _)
    have ra := pG W5 wr.heap.size 0 cs (rg_row hr5) HCL.out
    have HU5 := Lib.hid (HUS.out W5 Cg)
    have HR5 := Lib.hid hr5
    clear hown hr5 hg5 hrr hrange ru
    go_wp2_with fail
    refine HU5.out.mono ?_
    rintro e W6 ⟨v6, rfl, hown6, hb6⟩
    obtain ⟨A6, c6, rfl, hc6⟩ := aS hown6
    have HCT := Lib.hid (GD (aL.own hown6) c6 x (by omega))
    have hr6 := (hb6.block wr.heap.size hz5).trans HR5.out
    have e0 : W6.cell? ⟨wr.heap.size, 0, none⟩ = some (.int .i64 d.kind) := mP hr6 C0.out
    have e2 : W6.cell? ⟨wr.heap.size, 2, none⟩ = some (.string d.name) := mP hr6 C2.out
    have iA := own_below hown5 hb6 (Nat.le_refl _)
    have yc : Below w.heap.size w W6 := Cg.trans (hb6.mono Cg.size)
    have hs6 := yc.size
    obtain ⟨q, hq⟩ : ∃ q, q = us.contains x := ⟨_, rfl⟩
    rw [← hq] at HCT HTU
    clear hown6 hown5 ra hr6 hq
    cases q
    ·have HT2 := Lib.hid (show tyUses (l.take (k + 1)) x = cur by rw [HTU.out, if_neg (fun h => by cases h.2), List.append_nil])
     clear hx0
     go_wp2_with fail
     refine HCT.out.mono ?_
     rintro e w' ⟨rfl, rfl⟩
     go_wp2
     go_roundw
     case rel =>
      refine ⟨k + 1, by omega, by go_num, ?_, yc⟩
      rw [HT2.out]
      exact iA
     case measure => simp [intOf]; omega
    ·have HT2 := Lib.hid (show tyUses (l.take (k + 1)) x = cur ++ [kR d] by rw [HTU.out, if_pos ⟨hx0, rfl⟩])
     clear hx0
     go_wp2_with fail
     refine HCT.out.mono ?_
     rintro e w' ⟨rfl, rfl⟩
     by_cases hk5 : d.kind = 5
     ·have b5 : (d.kind == (5 : Int)) = true := by rw [hk5]; rfl
      have HT3 := Lib.hid (show tyUses (l.take (k + 1)) x = cur ++ [(⟨#[119, 105, 116, 110, 101, 115, 115]⟩ : ByteArray)] by rw [HT2.out]; unfold kR; rw [if_pos hk5])
      clear hk5
      go_wp2_with (at_builtin; refine eX W6 rfl (.tmp 32) (.tmp 33) rfl w.heap.size _ _ _ iA rfl (⟨#[119, 105, 116, 110, 101, 115, 115]⟩ : ByteArray) rfl (by omega) hs6 ?_; intro v' w' hown' hg' hv')
      go_roundw
      case rel =>
       refine ⟨k + 1, by omega, by go_num, ?_, yc.trans (aM iA hg' hs6)⟩
       rw [HT3.out, List.length_append, gU]
       exact hown'
      case measure => simp [intOf]; omega
     have b5 : (d.kind == (5 : Int)) = false := by rw [beq_eq_false_iff_ne]; exact hk5
     by_cases hk7 : d.kind = 7
     ·have b7 : (d.kind == (7 : Int)) = true := by rw [hk7]; rfl
      have HT3 := Lib.hid (show tyUses (l.take (k + 1)) x = cur ++ [(⟨#[99, 104, 97, 105, 110]⟩ : ByteArray)] by rw [HT2.out]; unfold kR; rw [if_neg hk5, if_pos hk7])
      clear hk5 hk7
      go_wp2_with (at_builtin; refine eX W6 rfl (.tmp 37) (.tmp 38) rfl w.heap.size _ _ _ iA rfl (⟨#[99, 104, 97, 105, 110]⟩ : ByteArray) rfl (by omega) hs6 ?_; intro v' w' hown' hg' hv')
      go_roundw
      case rel =>
       refine ⟨k + 1, by omega, by go_num, ?_, yc.trans (aM iA hg' hs6)⟩
       rw [HT3.out, List.length_append, gU]
       exact hown'
      case measure => simp [intOf]; omega
     have b7 : (d.kind == (7 : Int)) = false := by rw [beq_eq_false_iff_ne]; exact hk7
     have HT3 := Lib.hid (show tyUses (l.take (k + 1)) x = cur ++ [d.name] by rw [HT2.out]; unfold kR; rw [if_neg hk5, if_neg hk7])
     clear hk5 hk7
     go_wp2_with (at_builtin; refine eX W6 rfl (.tmp 25) (.tmp 28) rfl w.heap.size _ _ _ iA rfl d.name rfl (by omega) hs6 ?_; intro v' w' hown' hg' hv')
     go_roundw
     case rel =>
      refine ⟨k + 1, by omega, by go_num, ?_, yc.trans (aM iA hg' hs6)⟩
      rw [HT3.out, List.length_append, gU]
      exact hown'
     case measure => simp [intOf]; omega
  ·obtain rfl : k = l.length := by omega
   have hkI : ¬ (l.length : Int) < (l.length : Int) := by omega
   rw [List.take_length] at hown
   go_wp2
   go_ret
   exact ⟨_, rfl, hown, hb⟩
end Go.Proofs.YtbmglebipepdmaaGreatDoor
