/- The contract of the reference reader's method declaration: client. gX by wH.py. The contract of the reference reader's method declaration: faults; and all kinds together. gX by wH.py. The contract of the reference reader's method line. The plain parser of the program and that of the reference answer alike; a symbol's text is no function's word. No condition. The contracts of the bJ functions tokens and Parse. gX by gen_rparse.py. -/
import Derived.Test.YtbmglebipepdmaaGreatDoorPkRefc
import Derived.Test.YtbmglebipepdmaaGreatDoorPkParb
import Derived.Test.YtbmglebipepdmaaGreatDoorPkPare
import Derived.Test.YtbmglebipepdmaaGreatDoorPkRefl
import Derived.Test.YtbmglebipepdmaaGreatDoorPkPlain
import Derived.Test.YtbmglebipepdmaaGreatDoorPkPara
namespace Go.Proofs.YtbmglebipepdmaaGreatDoor
open Go.RowKit

attribute [local go_sem ↓] iC in
set_option maxRecDepth 100000 in
set_option maxHeartbeats 8000000 in
theorem rdecl_f {b : Nat} {A : Option Addr} {n c : Nat} {L : aW} {s : St} (hsy : lg L) (w : World) (h : RSt b A n c L s w) (hpp : s.pos < L.length) (h1 : isW L (⟨#[115, 105, 116, 101]⟩ : ByteArray) s = false) (h2 : isW L (⟨#[102, 97, 117, 108, 116, 115]⟩ : ByteArray) s = false) (h3 : isW L (⟨#[113, 117, 111, 114, 117, 109]⟩ : ByteArray) s = false) (h4 : isW L (⟨#[99, 111, 110, 102, 105, 103]⟩ : ByteArray) s = false) (h5 : isW L (⟨#[119, 105, 116, 110, 101, 115, 115]⟩ : ByteArray) s = false) (h6 : isW L (⟨#[99, 108, 105, 101, 110, 116]⟩ : ByteArray) s = true) (h9 : isW L (⟨#[102, 97, 117, 108, 116, 115]⟩ : ByteArray) (bD L (taken L (⟨#[99, 108, 105, 101, 110, 116]⟩ : ByteArray) s)).2 = true) :
  Calls Tryz.prog 43 #[.pointer (some ⟨b, 0, none⟩)] w (sw b A n c L w (jk L 5 s)) := by
 have hbs := h.lt
 have Hh1 := Lib.hid h1
 have Hh2 := Lib.hid h2
 have Hh3 := Lib.hid h3
 have Hh4 := Lib.hid h4
 have Hh5 := Lib.hid h5
 have Hh6 := Lib.hid h6
 have Hh9 := Lib.hid h9
 clear h1 h2 h3 h4 h5 h6 h9
 have HH := Lib.hid h
 have HSY := Lib.hid hsy
 clear h hsy
 go_enter Tryz.func43, Tryz.ntmps43
 go_upto_region 1 with fail
 obtain ⟨Wa, hWa⟩ : ∃ Wa : World, Wa = w.alloc (.cells (iP 0) 41) := ⟨_, rfl⟩
 have hba : Below w.heap.size w Wa := by rw [hWa]; exact (Below.refl _ _).alloc (Nat.le_refl _) _
 have hsa : w.heap.size < Wa.heap.size := by rw [hWa]; simp
 have hra : Wa.heap[w.heap.size]? = some (.cells (iP 0) 41 (0, 0)) := by rw [hWa]; exact heap_alloc_new w _
 rw [← hWa]
 have HRa := Lib.hid hra
 clear hWa hra
 have qa := HH.out.below hba
 obtain ⟨g, o, rfl, hS, hgs, hbs2, k0, k1, k2, k3, k4, i1, i2, i3⟩ := rd_facts qa hpp
 obtain ⟨c0, c1, c2, cf⟩ := sI qa.blk
 have hln : (fU L s.pos : Int) = ((L[s.pos]'hpp).2 : Int) := by unfold fU; rw [List.getElem?_eq_getElem hpp]; rfl
 generalize hli : ((L[s.pos]'hpp).2 : Int) = li at k4 hln
 have HLI := Lib.hid hln
 clear hli hln cf k0 k1 k2 k3 c2
 go_cut [3] (fun s3 wx => s3 = .pointer (some ⟨Wa.heap.size, 0, none⟩) ∧ wx.heap[Wa.heap.size]? = some (.cells (iP li) 41 (0, 0)) ∧ Below Wa.heap.size Wa wx ∧ Wa.heap.size < wx.heap.size)
 case first =>
  have hst := fun (c : Array Value) (hc : c.size = 22) => jg Wa c hc li
  go_region_law (fail)
  all_goals
   go_wp2_with fail
   go_meet
   exact ⟨rfl, heap_alloc_new Wa _, ((Below.refl _ _).alloc (Nat.le_refl _) _).drew, by simp⟩
 case rest =>
  obtain ⟨rfl, hDz, hbz, hsz⟩ := hcut
  obtain ⟨wz, rfl⟩ : ∃ wz : World, wz = wc := ⟨_, rfl⟩
  have HRz := Lib.hid ((hbz.block _ hsa).trans HRa.out)
  have q0 := qa.below hbz
  have f0 := jr.refl b Wa.heap.size wz
  have HD0 := Lib.hid hDz
  have z0 : wz.heap.size ≤ wz.heap.size := Nat.le_refl _
  have hfz : w.grownBy wz (some b) := aj (aH hba) (aH hbz)
  clear hDz c0 c1 k4
  go_wp2_with fail
  have ht := aD (⟨#[115, 105, 116, 101]⟩ : ByteArray) wz q0
  rw [Hh1.out, aB Hh1.out] at ht
  refine ht.mono ?_
  clear ht
  rintro e W1 ⟨rfl, q1, g1⟩
  have z1 := g1.size
  have HD1 := Lib.hid (ah g1 HD0.out (by omega))
  have f1 := f0.call g1
  go_wp2_with fail
  have ht := aD (⟨#[102, 97, 117, 108, 116, 115]⟩ : ByteArray) W1 q1
  rw [Hh2.out, aB Hh2.out] at ht
  refine ht.mono ?_
  clear ht
  rintro e W2 ⟨rfl, q2, g2⟩
  have z2 := g2.size
  have HD2 := Lib.hid (ah g2 HD1.out (by omega))
  have f2 := f1.call g2
  go_wp2_with fail
  have ht := aD (⟨#[113, 117, 111, 114, 117, 109]⟩ : ByteArray) W2 q2
  rw [Hh3.out, aB Hh3.out] at ht
  refine ht.mono ?_
  clear ht
  rintro e W3 ⟨rfl, q3, g3⟩
  have z3 := g3.size
  have HD3 := Lib.hid (ah g3 HD2.out (by omega))
  have f3 := f2.call g3
  go_wp2_with fail
  have ht := aD (⟨#[99, 111, 110, 102, 105, 103]⟩ : ByteArray) W3 q3
  rw [Hh4.out, aB Hh4.out] at ht
  refine ht.mono ?_
  clear ht
  rintro e W4 ⟨rfl, q4, g4⟩
  have z4 := g4.size
  have HD4 := Lib.hid (ah g4 HD3.out (by omega))
  have f4 := f3.call g4
  go_wp2_with fail
  have ht := aD (⟨#[119, 105, 116, 110, 101, 115, 115]⟩ : ByteArray) W4 q4
  rw [Hh5.out, aB Hh5.out] at ht
  refine ht.mono ?_
  clear ht
  rintro e W5 ⟨rfl, q5, g5⟩
  have z5 := g5.size
  have HD5 := Lib.hid (ah g5 HD4.out (by omega))
  have f5 := f4.call g5
  go_wp2_with fail
  have ht := aD (⟨#[99, 108, 105, 101, 110, 116]⟩ : ByteArray) W5 q5
  rw [Hh6.out] at ht
  refine ht.mono ?_
  clear ht
  rintro e W6 ⟨rfl, q6, g6⟩
  have z6 := g6.size
  have HD6 := Lib.hid (ah g6 HD5.out (by omega))
  have f6 := f5.call g6
  go_wp2_with fail
  refine (ja W6 q6).mono ?_
  rintro e W7 ⟨rfl, q7, g7⟩
  have z7 := g7.size
  have HD7 := Lib.hid (ah g7 HD6.out (by omega))
  have f7 := f6.call g7
  generalize hN7 : (bD L (taken L (⟨#[99, 108, 105, 101, 110, 116]⟩ : ByteArray) s)).1 = nm at *
  have HN7 := Lib.hid hN7
  clear hN7
  obtain ⟨a0, -, a2, -, -, -, -, -, -, -, -, -, -, -, -, -, -, -, -, -, -, -, af⟩ := lC HD7.out
  have af0 := af 0
  have af2 := af 2
  clear af
  go_wp2_with fail
  obtain ⟨W8, hW8⟩ : ∃ W8 : World, W8 = ((W7.setCell ⟨Wa.heap.size, 0, none⟩ (.int .i64 6)).setCell ⟨Wa.heap.size, 2, none⟩ (.string nm)) := ⟨_, rfl⟩
  have g8 : W7.grownBy W8 (some Wa.heap.size) := by rw [hW8]; exact aF (aF (aJ _ _) _ _) _ _
  have hD8 : W8.heap[Wa.heap.size]? = some (.cells #[.int .i64 6, .int .i64 li, .string nm, .slice none 0 0, .slice none 0 0, .int .i64 0, .string ⟨#[]⟩, .int .i64 0, .slice none 0 0, .slice none 0 0, .string ⟨#[]⟩, .int .i64 0, .string ⟨#[]⟩, .int .i64 0, .slice none 0 0, .slice none 0 0, .int .i64 0, .string ⟨#[]⟩, .int .i64 0, .slice none 0 0, .slice none 0 0, .string ⟨#[]⟩] 41 (0, 0)) := by rw [hW8]; exact aQ (aQ (HD7.out) _) _
  have hs8 : W8.heap.size = W7.heap.size := by rw [hW8]; simp
  rw [← hW8]
  have z8 : W7.heap.size ≤ W8.heap.size := by omega
  have HZ8 := Lib.hid hs8
  have HD8 := Lib.hid hD8
  have q8 := q7.other (below_grown g8 (Nat.le_refl _) (by omega)) (by omega)
  have f8 := f7.set g8
  clear hW8 hD8 hs8 a0 af0 a2 af2
  have ht := aD (⟨#[102, 97, 117, 108, 116, 115]⟩ : ByteArray) W8 q8
  rw [Hh9.out] at ht
  refine ht.mono ?_
  clear ht
  rintro e W9 ⟨rfl, q9, g9⟩
  have z9 := g9.size
  have HD9 := Lib.hid (ah g9 HD8.out (by omega))
  have f9 := f8.call g9
  go_wp2_with fail
  refine (ja W9 q9).mono ?_
  rintro e W10 ⟨rfl, q10, g10⟩
  have z10 := g10.size
  have HD10 := Lib.hid (ah g10 HD9.out (by omega))
  have f10 := f9.call g10
  generalize hN10 : (bD L (taken L (⟨#[102, 97, 117, 108, 116, 115]⟩ : ByteArray) (bD L (taken L (⟨#[99, 108, 105, 101, 110, 116]⟩ : ByteArray) s)).2)).1 = us at *
  have HN10 := Lib.hid hN10
  clear hN10
  obtain ⟨-, -, -, -, -, -, -, -, -, -, -, -, -, -, -, -, -, -, -, -, -, a21, af⟩ := lC HD10.out
  have af21 := af 21
  clear af
  go_wp2_with fail
  obtain ⟨W11, M5⟩ : ∃ W11 : World, W11 = (W10.setCell ⟨Wa.heap.size, 21, none⟩ (.string us)) := ⟨_, rfl⟩
  have g11 : W10.grownBy W11 (some Wa.heap.size) := by rw [M5]; exact aF (aJ _ _) _ _
  have hD11 : W11.heap[Wa.heap.size]? = some (.cells #[.int .i64 6, .int .i64 li, .string nm, .slice none 0 0, .slice none 0 0, .int .i64 0, .string ⟨#[]⟩, .int .i64 0, .slice none 0 0, .slice none 0 0, .string ⟨#[]⟩, .int .i64 0, .string ⟨#[]⟩, .int .i64 0, .slice none 0 0, .slice none 0 0, .int .i64 0, .string ⟨#[]⟩, .int .i64 0, .slice none 0 0, .slice none 0 0, .string us] 41 (0, 0)) := by rw [M5]; exact aQ (HD10.out) _
  have hs11 : W11.heap.size = W10.heap.size := by rw [M5]; simp
  rw [← M5]
  have z11 : W10.heap.size ≤ W11.heap.size := by omega
  have HZ11 := Lib.hid hs11
  have HD11 := Lib.hid hD11
  have q11 := q10.other (below_grown g11 (Nat.le_refl _) (by omega)) (by omega)
  have f11 := f10.set g11
  clear M5 hD11 hs11 a21 af21
  refine (eB (⟨#[59]⟩ : ByteArray) W11 q11).mono ?_
  rintro e W12 ⟨rfl, q12, g12⟩
  have z12 := g12.size
  have HD12 := Lib.hid (ah g12 HD11.out (by omega))
  have f12 := f11.call g12
  have hrW : W12.heap[w.heap.size]? = some (.cells (iP 0) 41 (0, 0)) := (f12.block _ (by omega) (by omega) (by omega)).trans HRz.out
  have HRW := Lib.hid hrW
  clear hrW
  have HE := Lib.hid (decl_eq HLI.out (AO (x := 5) (d := .zero li) Hh1.out Hh2.out Hh3.out Hh4.out Hh5.out Hh6.out))
  go_wp2_with (first | (with_reducible refine eD _ rfl (.tmp 3) rfl Wa.heap.size rfl _ HD12.out rfl ?_) | ((with_reducible refine eU _ rfl rfl (.tmp 2) (.tmp 122) rfl w.heap.size _ rfl rfl _ HRW.out rfl rfl (by simp [Value.oneCell']) ?_); intro WR hbR hgR))
  refine lT rfl rfl rfl hbR rfl ?_
  rw [HE.out]
  have hcl : oZ L (Dc.zero li) (taken L (⟨#[99, 108, 105, 101, 110, 116]⟩ : ByteArray) s) = ({ Dc.zero li with kind := 6, name := nm, use := us }, (bD L (taken L (⟨#[102, 97, 117, 108, 116, 115]⟩ : ByteArray) (bD L (taken L (⟨#[99, 108, 105, 101, 110, 116]⟩ : ByteArray) s)).2)).2) := by
   unfold oZ
   rw [if_pos Hh9.out, HN7.out, ← HN10.out]
   have e9 : taken L (⟨#[102, 97, 117, 108, 116, 115]⟩ : ByteArray) (bD L (taken L (⟨#[99, 108, 105, 101, 110, 116]⟩ : ByteArray) s)).2 = adv (bD L (taken L (⟨#[99, 108, 105, 101, 110, 116]⟩ : ByteArray) s)).2 := by rw [taken, if_pos Hh9.out]
   rw [e9]
  rw [hcl]
  have hfr : w.grownBy W12 (some b) := ⟨f12.os.trans hfz.os, f12.tape.trans hfz.tape, f12.output.trans hfz.output, Nat.le_trans hfz.size f12.size, fun k hk hne => (f12.block k (by omega) (fun e => hne (by rw [e])) (by omega)).trans (hfz.block k hk hne)⟩
  refine ⟨_, rfl, ?_, q12.other (below_grown hgR (Nat.le_refl _) (by omega)) hbs, aR hfr (below_grown hgR (Nat.le_refl _) (by omega)) (Nat.le_refl _)⟩
  exact Bo (aL.empty _ _ _ _) (Nat.le_refl _) (aT.empty _ _ _ _ _) (Nat.le_refl _) (gH _ _) (gH _ _) (gH _ _)

attribute [local go_sem ↓] iC in
set_option maxRecDepth 100000 in
set_option maxHeartbeats 8000000 in
theorem rdecl_i {b : Nat} {A : Option Addr} {n c : Nat} {L : aW} {s : St} (hsy : lg L) (w : World) (h : RSt b A n c L s w) (hpp : s.pos < L.length) (h1 : isW L (⟨#[115, 105, 116, 101]⟩ : ByteArray) s = false) (h2 : isW L (⟨#[102, 97, 117, 108, 116, 115]⟩ : ByteArray) s = false) (h3 : isW L (⟨#[113, 117, 111, 114, 117, 109]⟩ : ByteArray) s = false) (h4 : isW L (⟨#[99, 111, 110, 102, 105, 103]⟩ : ByteArray) s = false) (h5 : isW L (⟨#[119, 105, 116, 110, 101, 115, 115]⟩ : ByteArray) s = false) (h6 : isW L (⟨#[99, 108, 105, 101, 110, 116]⟩ : ByteArray) s = true) (h9 : isW L (⟨#[102, 97, 117, 108, 116, 115]⟩ : ByteArray) (bD L (taken L (⟨#[99, 108, 105, 101, 110, 116]⟩ : ByteArray) s)).2 = false) :
  Calls Tryz.prog 43 #[.pointer (some ⟨b, 0, none⟩)] w (sw b A n c L w (jk L 5 s)) := by
 have hbs := h.lt
 have Hh1 := Lib.hid h1
 have Hh2 := Lib.hid h2
 have Hh3 := Lib.hid h3
 have Hh4 := Lib.hid h4
 have Hh5 := Lib.hid h5
 have Hh6 := Lib.hid h6
 have Hh9 := Lib.hid h9
 clear h1 h2 h3 h4 h5 h6 h9
 have HH := Lib.hid h
 have HSY := Lib.hid hsy
 clear h hsy
 go_enter Tryz.func43, Tryz.ntmps43
 go_upto_region 1 with fail
 obtain ⟨Wa, hWa⟩ : ∃ Wa : World, Wa = w.alloc (.cells (iP 0) 41) := ⟨_, rfl⟩
 have hba : Below w.heap.size w Wa := by rw [hWa]; exact (Below.refl _ _).alloc (Nat.le_refl _) _
 have hsa : w.heap.size < Wa.heap.size := by rw [hWa]; simp
 have hra : Wa.heap[w.heap.size]? = some (.cells (iP 0) 41 (0, 0)) := by rw [hWa]; exact heap_alloc_new w _
 rw [← hWa]
 have HRa := Lib.hid hra
 clear hWa hra
 have qa := HH.out.below hba
 obtain ⟨g, o, rfl, hS, hgs, hbs2, k0, k1, k2, k3, k4, i1, i2, i3⟩ := rd_facts qa hpp
 obtain ⟨c0, c1, c2, cf⟩ := sI qa.blk
 have hln : (fU L s.pos : Int) = ((L[s.pos]'hpp).2 : Int) := by unfold fU; rw [List.getElem?_eq_getElem hpp]; rfl
 generalize hli : ((L[s.pos]'hpp).2 : Int) = li at k4 hln
 have HLI := Lib.hid hln
 clear hli hln cf k0 k1 k2 k3 c2
 go_cut [3] (fun s3 wx => s3 = .pointer (some ⟨Wa.heap.size, 0, none⟩) ∧ wx.heap[Wa.heap.size]? = some (.cells (iP li) 41 (0, 0)) ∧ Below Wa.heap.size Wa wx ∧ Wa.heap.size < wx.heap.size)
 case first =>
  have hst := fun (c : Array Value) (hc : c.size = 22) => jg Wa c hc li
  go_region_law (fail)
  all_goals
   go_wp2_with fail
   go_meet
   exact ⟨rfl, heap_alloc_new Wa _, ((Below.refl _ _).alloc (Nat.le_refl _) _).drew, by simp⟩
 case rest =>
  obtain ⟨rfl, hDz, hbz, hsz⟩ := hcut
  obtain ⟨wz, rfl⟩ : ∃ wz : World, wz = wc := ⟨_, rfl⟩
  have HRz := Lib.hid ((hbz.block _ hsa).trans HRa.out)
  have q0 := qa.below hbz
  have f0 := jr.refl b Wa.heap.size wz
  have HD0 := Lib.hid hDz
  have z0 : wz.heap.size ≤ wz.heap.size := Nat.le_refl _
  have hfz : w.grownBy wz (some b) := aj (aH hba) (aH hbz)
  clear hDz c0 c1 k4
  go_wp2_with fail
  have ht := aD (⟨#[115, 105, 116, 101]⟩ : ByteArray) wz q0
  rw [Hh1.out, aB Hh1.out] at ht
  refine ht.mono ?_
  clear ht
  rintro e W1 ⟨rfl, q1, g1⟩
  have z1 := g1.size
  have HD1 := Lib.hid (ah g1 HD0.out (by omega))
  have f1 := f0.call g1
  go_wp2_with fail
  have ht := aD (⟨#[102, 97, 117, 108, 116, 115]⟩ : ByteArray) W1 q1
  rw [Hh2.out, aB Hh2.out] at ht
  refine ht.mono ?_
  clear ht
  rintro e W2 ⟨rfl, q2, g2⟩
  have z2 := g2.size
  have HD2 := Lib.hid (ah g2 HD1.out (by omega))
  have f2 := f1.call g2
  go_wp2_with fail
  have ht := aD (⟨#[113, 117, 111, 114, 117, 109]⟩ : ByteArray) W2 q2
  rw [Hh3.out, aB Hh3.out] at ht
  refine ht.mono ?_
  clear ht
  rintro e W3 ⟨rfl, q3, g3⟩
  have z3 := g3.size
  have HD3 := Lib.hid (ah g3 HD2.out (by omega))
  have f3 := f2.call g3
  go_wp2_with fail
  have ht := aD (⟨#[99, 111, 110, 102, 105, 103]⟩ : ByteArray) W3 q3
  rw [Hh4.out, aB Hh4.out] at ht
  refine ht.mono ?_
  clear ht
  rintro e W4 ⟨rfl, q4, g4⟩
  have z4 := g4.size
  have HD4 := Lib.hid (ah g4 HD3.out (by omega))
  have f4 := f3.call g4
  go_wp2_with fail
  have ht := aD (⟨#[119, 105, 116, 110, 101, 115, 115]⟩ : ByteArray) W4 q4
  rw [Hh5.out, aB Hh5.out] at ht
  refine ht.mono ?_
  clear ht
  rintro e W5 ⟨rfl, q5, g5⟩
  have z5 := g5.size
  have HD5 := Lib.hid (ah g5 HD4.out (by omega))
  have f5 := f4.call g5
  go_wp2_with fail
  have ht := aD (⟨#[99, 108, 105, 101, 110, 116]⟩ : ByteArray) W5 q5
  rw [Hh6.out] at ht
  refine ht.mono ?_
  clear ht
  rintro e W6 ⟨rfl, q6, g6⟩
  have z6 := g6.size
  have HD6 := Lib.hid (ah g6 HD5.out (by omega))
  have f6 := f5.call g6
  go_wp2_with fail
  refine (ja W6 q6).mono ?_
  rintro e W7 ⟨rfl, q7, g7⟩
  have z7 := g7.size
  have HD7 := Lib.hid (ah g7 HD6.out (by omega))
  have f7 := f6.call g7
  generalize hN7 : (bD L (taken L (⟨#[99, 108, 105, 101, 110, 116]⟩ : ByteArray) s)).1 = nm at *
  have HN7 := Lib.hid hN7
  clear hN7
  obtain ⟨a0, -, a2, -, -, -, -, -, -, -, -, -, -, -, -, -, -, -, -, -, -, -, af⟩ := lC HD7.out
  have af0 := af 0
  have af2 := af 2
  clear af
  go_wp2_with fail
  obtain ⟨W8, hW8⟩ : ∃ W8 : World, W8 = ((W7.setCell ⟨Wa.heap.size, 0, none⟩ (.int .i64 6)).setCell ⟨Wa.heap.size, 2, none⟩ (.string nm)) := ⟨_, rfl⟩
  have g8 : W7.grownBy W8 (some Wa.heap.size) := by rw [hW8]; exact aF (aF (aJ _ _) _ _) _ _
  have hD8 : W8.heap[Wa.heap.size]? = some (.cells #[.int .i64 6, .int .i64 li, .string nm, .slice none 0 0, .slice none 0 0, .int .i64 0, .string ⟨#[]⟩, .int .i64 0, .slice none 0 0, .slice none 0 0, .string ⟨#[]⟩, .int .i64 0, .string ⟨#[]⟩, .int .i64 0, .slice none 0 0, .slice none 0 0, .int .i64 0, .string ⟨#[]⟩, .int .i64 0, .slice none 0 0, .slice none 0 0, .string ⟨#[]⟩] 41 (0, 0)) := by rw [hW8]; exact aQ (aQ (HD7.out) _) _
  have hs8 : W8.heap.size = W7.heap.size := by rw [hW8]; simp
  rw [← hW8]
  have z8 : W7.heap.size ≤ W8.heap.size := by omega
  have HZ8 := Lib.hid hs8
  have HD8 := Lib.hid hD8
  have q8 := q7.other (below_grown g8 (Nat.le_refl _) (by omega)) (by omega)
  have f8 := f7.set g8
  clear hW8 hD8 hs8 a0 af0 a2 af2
  have ht := aD (⟨#[102, 97, 117, 108, 116, 115]⟩ : ByteArray) W8 q8
  rw [Hh9.out, aB Hh9.out] at ht
  refine ht.mono ?_
  clear ht
  rintro e W9 ⟨rfl, q9, g9⟩
  have z9 := g9.size
  have HD9 := Lib.hid (ah g9 HD8.out (by omega))
  have f9 := f8.call g9
  go_wp2_with fail
  refine (eB (⟨#[59]⟩ : ByteArray) W9 q9).mono ?_
  rintro e W10 ⟨rfl, q10, g10⟩
  have z10 := g10.size
  have HD10 := Lib.hid (ah g10 HD9.out (by omega))
  have f10 := f9.call g10
  have hrW : W10.heap[w.heap.size]? = some (.cells (iP 0) 41 (0, 0)) := (f10.block _ (by omega) (by omega) (by omega)).trans HRz.out
  have HRW := Lib.hid hrW
  clear hrW
  have HE := Lib.hid (decl_eq HLI.out (AO (x := 5) (d := .zero li) Hh1.out Hh2.out Hh3.out Hh4.out Hh5.out Hh6.out))
  go_wp2_with (first | (with_reducible refine eD _ rfl (.tmp 3) rfl Wa.heap.size rfl _ HD10.out rfl ?_) | ((with_reducible refine eU _ rfl rfl (.tmp 2) (.tmp 122) rfl w.heap.size _ rfl rfl _ HRW.out rfl rfl (by simp [Value.oneCell']) ?_); intro WR hbR hgR))
  refine lT rfl rfl rfl hbR rfl ?_
  rw [HE.out]
  have hcl : oZ L (Dc.zero li) (taken L (⟨#[99, 108, 105, 101, 110, 116]⟩ : ByteArray) s) = ({ Dc.zero li with kind := 6, name := nm }, (bD L (taken L (⟨#[99, 108, 105, 101, 110, 116]⟩ : ByteArray) s)).2) := by
   unfold oZ
   rw [Hh9.out, if_neg (by simp), HN7.out]
  rw [hcl]
  have hfr : w.grownBy W10 (some b) := ⟨f10.os.trans hfz.os, f10.tape.trans hfz.tape, f10.output.trans hfz.output, Nat.le_trans hfz.size f10.size, fun k hk hne => (f10.block k (by omega) (fun e => hne (by rw [e])) (by omega)).trans (hfz.block k hk hne)⟩
  refine ⟨_, rfl, ?_, q10.other (below_grown hgR (Nat.le_refl _) (by omega)) hbs, aR hfr (below_grown hgR (Nat.le_refl _) (by omega)) (Nat.le_refl _)⟩
  exact Bo (aL.empty _ _ _ _) (Nat.le_refl _) (aT.empty _ _ _ _ _) (Nat.le_refl _) (gH _ _) (gH _ _) (gH _ _)

end Go.Proofs.YtbmglebipepdmaaGreatDoor
namespace Go.Proofs.YtbmglebipepdmaaGreatDoor
open Go.RowKit

attribute [local go_sem ↓] iC in
set_option maxRecDepth 100000 in
set_option maxHeartbeats 8000000 in
theorem rdecl_b {b : Nat} {A : Option Addr} {n c : Nat} {L : aW} {s : St} (hsy : lg L) (w : World) (h : RSt b A n c L s w) (hpp : s.pos < L.length) (h1 : isW L (⟨#[115, 105, 116, 101]⟩ : ByteArray) s = false) (h2 : isW L (⟨#[102, 97, 117, 108, 116, 115]⟩ : ByteArray) s = true) :
  Calls Tryz.prog 43 #[.pointer (some ⟨b, 0, none⟩)] w (sw b A n c L w (jk L 5 s)) := by
 have hbs := h.lt
 have Hh1 := Lib.hid h1
 have Hh2 := Lib.hid h2
 clear h1 h2
 have HH := Lib.hid h
 have HSY := Lib.hid hsy
 clear h hsy
 go_enter Tryz.func43, Tryz.ntmps43
 go_upto_region 1 with fail
 obtain ⟨Wa, hWa⟩ : ∃ Wa : World, Wa = w.alloc (.cells (iP 0) 41) := ⟨_, rfl⟩
 have hba : Below w.heap.size w Wa := by rw [hWa]; exact (Below.refl _ _).alloc (Nat.le_refl _) _
 have hsa : w.heap.size < Wa.heap.size := by rw [hWa]; simp
 have hra : Wa.heap[w.heap.size]? = some (.cells (iP 0) 41 (0, 0)) := by rw [hWa]; exact heap_alloc_new w _
 rw [← hWa]
 have HRa := Lib.hid hra
 clear hWa hra
 have qa := HH.out.below hba
 obtain ⟨g, o, rfl, hS, hgs, hbs2, k0, k1, k2, k3, k4, i1, i2, i3⟩ := rd_facts qa hpp
 obtain ⟨c0, c1, c2, cf⟩ := sI qa.blk
 have hln : (fU L s.pos : Int) = ((L[s.pos]'hpp).2 : Int) := by unfold fU; rw [List.getElem?_eq_getElem hpp]; rfl
 generalize hli : ((L[s.pos]'hpp).2 : Int) = li at k4 hln
 have HLI := Lib.hid hln
 clear hli hln cf k0 k1 k2 k3 c2
 go_cut [3] (fun s3 wx => s3 = .pointer (some ⟨Wa.heap.size, 0, none⟩) ∧ wx.heap[Wa.heap.size]? = some (.cells (iP li) 41 (0, 0)) ∧ Below Wa.heap.size Wa wx ∧ Wa.heap.size < wx.heap.size)
 case first =>
  have hst := fun (c : Array Value) (hc : c.size = 22) => jg Wa c hc li
  go_region_law (fail)
  all_goals
   go_wp2_with fail
   go_meet
   exact ⟨rfl, heap_alloc_new Wa _, ((Below.refl _ _).alloc (Nat.le_refl _) _).drew, by simp⟩
 case rest =>
  obtain ⟨rfl, hDz, hbz, hsz⟩ := hcut
  obtain ⟨wz, rfl⟩ : ∃ wz : World, wz = wc := ⟨_, rfl⟩
  have HRz := Lib.hid ((hbz.block _ hsa).trans HRa.out)
  have q0 := qa.below hbz
  have f0 := jr.refl b Wa.heap.size wz
  have HD0 := Lib.hid hDz
  have z0 : wz.heap.size ≤ wz.heap.size := Nat.le_refl _
  have hfz : w.grownBy wz (some b) := aj (aH hba) (aH hbz)
  clear hDz c0 c1 k4
  go_wp2_with fail
  have ht := aD (⟨#[115, 105, 116, 101]⟩ : ByteArray) wz q0
  rw [Hh1.out, aB Hh1.out] at ht
  refine ht.mono ?_
  clear ht
  rintro e W1 ⟨rfl, q1, g1⟩
  have z1 := g1.size
  have HD1 := Lib.hid (ah g1 HD0.out (by omega))
  have f1 := f0.call g1
  go_wp2_with fail
  have ht := aD (⟨#[102, 97, 117, 108, 116, 115]⟩ : ByteArray) W1 q1
  rw [Hh2.out] at ht
  refine ht.mono ?_
  clear ht
  rintro e W2 ⟨rfl, q2, g2⟩
  have z2 := g2.size
  have HD2 := Lib.hid (ah g2 HD1.out (by omega))
  have f2 := f1.call g2
  go_wp2_with fail
  refine (ja W2 q2).mono ?_
  rintro e W3 ⟨rfl, q3, g3⟩
  have z3 := g3.size
  have HD3 := Lib.hid (ah g3 HD2.out (by omega))
  have f3 := f2.call g3
  generalize hN3 : (bD L (taken L (⟨#[102, 97, 117, 108, 116, 115]⟩ : ByteArray) s)).1 = nm at *
  have HN3 := Lib.hid hN3
  clear hN3
  obtain ⟨a0, -, a2, -, -, -, -, -, -, -, -, -, -, -, -, -, -, -, -, -, -, -, af⟩ := lC HD3.out
  have af0 := af 0
  have af2 := af 2
  clear af
  go_wp2_with fail
  obtain ⟨W4, hW4⟩ : ∃ W4 : World, W4 = ((W3.setCell ⟨Wa.heap.size, 0, none⟩ (.int .i64 2)).setCell ⟨Wa.heap.size, 2, none⟩ (.string nm)) := ⟨_, rfl⟩
  have g4 : W3.grownBy W4 (some Wa.heap.size) := by rw [hW4]; exact aF (aF (aJ _ _) _ _) _ _
  have hD4 : W4.heap[Wa.heap.size]? = some (.cells #[.int .i64 2, .int .i64 li, .string nm, .slice none 0 0, .slice none 0 0, .int .i64 0, .string ⟨#[]⟩, .int .i64 0, .slice none 0 0, .slice none 0 0, .string ⟨#[]⟩, .int .i64 0, .string ⟨#[]⟩, .int .i64 0, .slice none 0 0, .slice none 0 0, .int .i64 0, .string ⟨#[]⟩, .int .i64 0, .slice none 0 0, .slice none 0 0, .string ⟨#[]⟩] 41 (0, 0)) := by rw [hW4]; exact aQ (aQ (HD3.out) _) _
  have hs4 : W4.heap.size = W3.heap.size := by rw [hW4]; simp
  rw [← hW4]
  have z4 : W3.heap.size ≤ W4.heap.size := by omega
  have HZ4 := Lib.hid hs4
  have HD4 := Lib.hid hD4
  have q4 := q3.other (below_grown g4 (Nat.le_refl _) (by omega)) (by omega)
  have f4 := f3.set g4
  clear hW4 hD4 hs4 a0 af0 a2 af2
  refine (eB (⟨#[61]⟩ : ByteArray) W4 q4).mono ?_
  rintro e W5 ⟨rfl, q5, g5⟩
  have z5 := g5.size
  have HD5 := Lib.hid (ah g5 HD4.out (by omega))
  have f5 := f4.call g5
  have hds := lt_of_block HD5.out
  have HAL : Hid (([] : List Ft).length ≤ 100000000000) := Lib.hid (by simp)
  obtain ⟨Wr2, hWr2⟩ : ∃ Wr2 : World, Wr2 = W5 := ⟨_, rfl⟩
  rw [← hWr2] at q5 f5 HD5 hds z5
  have hp2 := q5
  have hfr2 := f5
  have hDr2 := HD5.out
  have hsr2 := hfr2.size
  rw [← hWr2]
  clear hWr2
  have hrow2 : fE lm Wr2 (wz.heap.size ≤ ·) wz.heap.size 82 6 (Value.slice none 0 0) [] := fE.nil _ _ _ _ _
  go_upto_region 9 with fail
  go_cut [3] (fun s3 wx => s3 = .pointer (some ⟨Wa.heap.size, 0, none⟩) ∧ ∃ fV, wx.heap[Wa.heap.size]? = some (.cells #[.int .i64 2, .int .i64 li, .string nm, .slice none 0 0, fV, .int .i64 0, .string ⟨#[]⟩, .int .i64 0, .slice none 0 0, .slice none 0 0, .string ⟨#[]⟩, .int .i64 0, .string ⟨#[]⟩, .int .i64 0, .slice none 0 0, .slice none 0 0, .int .i64 0, .string ⟨#[]⟩, .int .i64 0, .slice none 0 0, .slice none 0 0, .string ⟨#[]⟩] 41 (0, 0)) ∧ fE lm wx (wz.heap.size ≤ ·) wz.heap.size 82 6 fV [(bX L 5 (need L (⟨#[61]⟩ : ByteArray) (bD L (taken L (⟨#[102, 97, 117, 108, 116, 115]⟩ : ByteArray) s)).2)).1] ∧ RSt b (some ⟨g, o, none⟩) n c L (bX L 5 (need L (⟨#[61]⟩ : ByteArray) (bD L (taken L (⟨#[102, 97, 117, 108, 116, 115]⟩ : ByteArray) s)).2)).2 wx ∧ jr b Wa.heap.size wz wx)
  case first =>
   obtain ⟨-, -, -, -, a4, -, -, -, -, -, -, -, -, -, -, -, -, -, -, -, -, -, af⟩ := lC hDr2
   have af4 := af 4
   have HDr2 := Lib.hid hDr2
   obtain ⟨vs2, l2, hown2, hall2⟩ := id hrow2
   have HALL := Lib.hid (show ∀ (i : Nat) (x : Ft) (u : Value), ([] : List Ft)[i]? = some x → vs2[i]? = some u → lm Wr2.drew (fun g => wz.heap.size ≤ g ∧ some g ≠ (Value.slice none 0 0).ownBlock) x u from fun i x u hx hu => (hall2 i x u hx hu).keep (aP (Below.refl _ _).drew))
   have HC := Lib.hid (Kr Wr2.drew (hp2.below (Below.refl _ _).drew))
   have yB := Lib.hid (show ∀ g, Wr2.heap.size ≤ g → wz.heap.size ≤ g ∧ some g ≠ (Value.slice none 0 0).ownBlock from fun g hg => ⟨by omega, fun e => by have := (hown2.lt g e.symm).2; omega⟩)
   have hbwz : b < wz.heap.size := by omega
   have hDb : Wa.heap.size ≠ b := by omega
   clear af hDr2 hall2 hrow2
   go_region_law (first | (have X1 := World.ownsRow.alloc (gu hown2.drew IZ hbwz) (.cells #[.int .i64 op4, .string f4, .int .i64 by4, .int .i64 cr4, .slice bA4 bn4 bc4, .slice cA4 cn4 cc4] 82); have X2 := heap_alloc_new Wr4 (.cells #[.int .i64 op4, .string f4, .int .i64 by4, .int .i64 cr4, .slice bA4 bn4 bc4, .slice cA4 cn4 cc4] 82); have X3 : wz.heap.size ≤ (Wr4.alloc (.cells #[.int .i64 op4, .string f4, .int .i64 by4, .int .i64 cr4, .slice bA4 bn4 bc4, .slice cA4 cn4 cc4] 82)).heap.size := (by rw [World.size_alloc]; omega); (refine BG (Wr4.alloc (.cells #[.int .i64 op4, .string f4, .int .i64 by4, .int .i64 cr4, .slice bA4 bn4 bc4, .slice cA4 cn4 cc4] 82)) rfl (.tmp 38) (.tmp 41) rfl wz.heap.size (Value.slice none 0 0) ([] : List Ft).length (vs2.flatMap cellsOf) X1 rfl Wr4.heap.size 1 op4 f4 by4 cr4 bA4 bn4 bc4 cA4 cn4 cc4 X2 rfl HAL.out X3 ?_); clear X1 X2 X3; intro v' Wr5 hown5 hgr5 hv5; obtain ⟨Av5, cv5, rfl, hcv5⟩ := aS hown5; have X5 := World.ownsRow.alloc (gu hown2.drew IZ hbwz) (.cells #[.int .i64 op4, .string f4, .int .i64 by4, .int .i64 cr4, .slice bA4 bn4 bc4, .slice cA4 cn4 cc4] 82); have X6 := (((Below.refl Wr4.heap.size Wr4).alloc (Nat.le_refl _) (.cells #[.int .i64 op4, .string f4, .int .i64 by4, .int .i64 cr4, .slice bA4 bn4 bc4, .slice cA4 cn4 cc4] 82)).block Wa.heap.size hT4).trans HDr4.out; have HDr5 := Lib.hid (jL hgr5 X5 hsz X6); clear X5 X6; obtain ⟨-, -, -, -, u5, -, -, -, -, -, -, -, -, -, -, -, -, -, -, -, -, -, uf⟩ := lC HDr5.out; have uf5 := uf 4; clear uf) | (go_simp; go_at_call 83; refine HC.out.mono ?_; rintro e Wr4 ⟨op4, f4, by4, cr4, bA4, bn4, bc4, cA4, cn4, cc4, rfl, ht4, hp4, IZ⟩; have hsx4 : Wr2.heap.size ≤ Wr4.heap.size := IZ.size; have hT4 : Wa.heap.size < Wr4.heap.size := (by omega); have HDr4 := Lib.hid (ah IZ HDr2.out hDb); obtain ⟨-, -, -, -, u4, -, -, -, -, -, -, -, -, -, -, -, -, -, -, -, -, -, uf⟩ := lC HDr4.out; clear uf))
   all_goals
    have LW := fun i x u hx hu => lm.keep (HALL.out i x u hx hu) ((ax IZ).mono fun g hg => by omega)
    have hrow5 : fE lm Wr5 (wz.heap.size ≤ ·) wz.heap.size 82 6 (.slice Av5 (([] : List Ft).length + 1) cv5) (([] : List Ft) ++ [(bX L 5 (need L (⟨#[61]⟩ : ByteArray) (bD L (taken L (⟨#[102, 97, 117, 108, 116, 115]⟩ : ByteArray) s)).2)).1]) := fE.push l2 LW mZ rfl (ht4.mono (fun g hg _ => yB.out g hg)) hown5 (aj (aH ((Below.refl _ _).alloc (Nat.le_refl _) _)) hgr5) (by simpa using hv5)
    have hgr6 : Wr5.grownBy (Wr5.setCell ⟨Wa.heap.size, 4, none⟩ (.slice Av5 (([] : List Ft).length + 1) cv5)) (some Wa.heap.size) := aF (aJ _ _) _ _
    have ic := World.ownsRow.alloc (gu hown2.drew IZ (by omega)) (.cells #[.int .i64 op4, .string f4, .int .i64 by4, .int .i64 cr4, .slice bA4 bn4 bc4, .slice cA4 cn4 cc4] 82)
    have hb5 := aM ic hgr5 (by simp <;> omega)
    have hsr5 := hgr5.size
    simp only [World.size_alloc] at hsr5
    have hfr5 := ((hfr2.call (aj (aH (Below.refl _ _).drew) IZ)).from ((Below.refl _ _).alloc (Nat.le_refl _) (.cells #[.int .i64 op4, .string f4, .int .i64 by4, .int .i64 cr4, .slice bA4 bn4 bc4, .slice cA4 cn4 cc4] 82)) (by omega)).from hb5 (Nat.le_refl _)
    have hp5 := (hp4.below ((Below.refl _ _).alloc (Nat.le_refl _) _)).other hb5 (by omega)
    go_wp2_with fail
    go_meet
    exact ⟨rfl, _, aQ HDr5.out _, hrow5.grown mZ hgr6 (by omega) (fun g hg => by omega), hp5.other (below_grown hgr6 (Nat.le_refl _) (by omega)) (by omega), hfr5.set hgr6⟩
  case rest =>
   obtain ⟨rfl, fV0, hD0, hrow0, hq0, hf0⟩ := hcut
   have HDD := Lib.hid hD0
   have HRow := Lib.hid hrow0
   have oo := hq0.few
   clear hD0 hrow0
   go_wp2_with fail
   go_loopg [] L.length (fun f wr => ∃ acc s' fV, Hid (gq L 5 f acc s' = lG L 5 (need L (⟨#[61]⟩ : ByteArray) (bD L (taken L (⟨#[102, 97, 117, 108, 116, 115]⟩ : ByteArray) s)).2)) ∧ L.length ≤ f + s'.pos ∧ acc.length + f ≤ L.length + 1 ∧ RSt b (some ⟨g, o, none⟩) n c L s' wr ∧ jr b Wa.heap.size wz wr ∧ Hid (wr.heap[Wa.heap.size]? = some (.cells #[.int .i64 2, .int .i64 li, .string nm, .slice none 0 0, fV, .int .i64 0, .string ⟨#[]⟩, .int .i64 0, .slice none 0 0, .slice none 0 0, .string ⟨#[]⟩, .int .i64 0, .string ⟨#[]⟩, .int .i64 0, .slice none 0 0, .slice none 0 0, .int .i64 0, .string ⟨#[]⟩, .int .i64 0, .slice none 0 0, .slice none 0 0, .string ⟨#[]⟩] 41 (0, 0))) ∧ fE lm wr (wz.heap.size ≤ ·) wz.heap.size 82 6 fV acc)
   case atStart => exact ⟨_, _, _, rfl, by omega, by simp; omega, hq0, hf0, HDD.out, HRow.out⟩
   case round =>
    obtain ⟨acc, s', fV, hgo, hfu, hal, hPs, hfr, hDD, hrow⟩ := hrel
    have hsr := hfr.size
    cases his : isW L (⟨#[124]⟩ : ByteArray) s'
    ·have ht := aD (⟨#[124]⟩ : ByteArray) wr hPs
     rw [his, aB his] at ht
     rw [Ea his] at hgo
     obtain ⟨Af, cf, rfl, hcf, hlist0⟩ := hrow.list mZ
     have hfl : FlAt wr (wz.heap.size ≤ ·) Af acc := hlist0
     have HT := Lib.hid ht
     clear ht his hPs hlist0 hrow
     go_wp2_with fail
     refine HT.out.mono ?_
     rintro e W20 ⟨rfl, q20, g20⟩
     have z20 := g20.size
     have HD20 := Lib.hid (ah g20 hDD.out (by omega))
     have f20 := hfr.call g20
     have hfl := hfl.keep ((ax g20).mono fun g hg => by omega)
     clear HT hDD
     go_wp2_with fail
     refine (eB (⟨#[59]⟩ : ByteArray) W20 q20).mono ?_
     rintro e W21 ⟨rfl, q21, g21⟩
     have z21 := g21.size
     have HD21 := Lib.hid (ah g21 HD20.out (by omega))
     have f21 := f20.call g21
     have hfl := hfl.keep ((ax g21).mono fun g hg => by omega)
     have hrW : W21.heap[w.heap.size]? = some (.cells (iP 0) 41 (0, 0)) := (f21.block _ (by omega) (by omega) (by omega)).trans HRz.out
     have HRW := Lib.hid hrW
     clear hrW
     have HE := Lib.hid (decl_eq HLI.out (Js (x := 5) (d := .zero li) Hh1.out Hh2.out))
     go_wp2_with (first | (with_reducible refine eD _ rfl (.tmp 3) rfl Wa.heap.size rfl _ HD21.out rfl ?_) | ((with_reducible refine eU _ rfl rfl (.tmp 2) (.tmp 122) rfl w.heap.size _ rfl rfl _ HRW.out rfl rfl (by simp [Value.oneCell']) ?_); intro WR hbR hgR))
     refine lT rfl rfl rfl hbR rfl ?_
     rw [HE.out]
     unfold vI
     rw [HN3.out, ← hgo.out]
     have hfr : w.grownBy W21 (some b) := ⟨f21.os.trans hfz.os, f21.tape.trans hfz.tape, f21.output.trans hfz.output, Nat.le_trans hfz.size f21.size, fun k hk hne => (f21.block k (by omega) (fun e => hne (by rw [e])) (by omega)).trans (hfz.block k hk hne)⟩
     have hfl := (hfl.keep ((ax hgR).mono fun g hg => by omega)).mono (S' := (w.heap.size ≤ ·)) (fun g hg _ => by omega)
     refine ⟨_, rfl, ?_, q21.other (below_grown hgR (Nat.le_refl _) (by omega)) hbs, aR hfr (below_grown hgR (Nat.le_refl _) (by omega)) (Nat.le_refl _)⟩
     exact Bo (aL.empty _ _ _ _) (Nat.le_refl _) (hfl) (hcf) (gH _ _) (gH _ _) (gH _ _)
    ·have ht := aD (⟨#[124]⟩ : ByteArray) wr hPs
     have hpos := qD his
     have hlt := (dW his).2
     rw [his] at ht
     have HT := Lib.hid ht
     have HI := Lib.hid his
     have HPo := Lib.hid hpos
     clear ht his hPs hpos
     obtain ⟨f, rfl⟩ : ∃ f, gk = f + 1 := ⟨gk - 1, by omega⟩
     go_wp2_with fail
     refine HT.out.mono ?_
     rintro e Wr2 ⟨rfl, hp2, Ki⟩
     have hfr2 := hfr.call Ki
     have hsr2 := Ki.size
     have hDr2 := ah Ki hDD.out (by omega)
     have hrow2 := hrow.grown mZ Ki (by omega) (fun g hg => by omega)
     obtain ⟨-, -, -, -, a4, -, -, -, -, -, -, -, -, -, -, -, -, -, -, -, -, -, af⟩ := lC hDr2
     have af4 := af 4
     have HDr2 := Lib.hid hDr2
     obtain ⟨vs2, l2, hown2, hall2⟩ := id hrow2
     have HALL := Lib.hid (show ∀ (i : Nat) (x : Ft) (u : Value), acc[i]? = some x → vs2[i]? = some u → lm Wr2.drew (fun g => wz.heap.size ≤ g ∧ some g ≠ (fV).ownBlock) x u from fun i x u hx hu => (hall2 i x u hx hu).keep (aP (Below.refl _ _).drew))
     have HC := Lib.hid (Kr Wr2.drew (hp2.below (Below.refl _ _).drew))
     have yB := Lib.hid (show ∀ g, Wr2.heap.size ≤ g → wz.heap.size ≤ g ∧ some g ≠ (fV).ownBlock from fun g hg => ⟨by omega, fun e => by have := (hown2.lt g e.symm).2; omega⟩)
     have hbwz : b < wz.heap.size := by omega
     have hDb : Wa.heap.size ≠ b := by omega
     have HAL := Lib.hid (show acc.length ≤ 100000000000 by omega)
     clear af hDr2 HT hDD hall2 hrow hrow2
     go_wp2_with fail
     go_region_law (first | (have X1 := World.ownsRow.alloc (gu hown2.drew IZ hbwz) (.cells #[.int .i64 op4, .string f4, .int .i64 by4, .int .i64 cr4, .slice bA4 bn4 bc4, .slice cA4 cn4 cc4] 82); have X2 := heap_alloc_new Wr4 (.cells #[.int .i64 op4, .string f4, .int .i64 by4, .int .i64 cr4, .slice bA4 bn4 bc4, .slice cA4 cn4 cc4] 82); have X3 : wz.heap.size ≤ (Wr4.alloc (.cells #[.int .i64 op4, .string f4, .int .i64 by4, .int .i64 cr4, .slice bA4 bn4 bc4, .slice cA4 cn4 cc4] 82)).heap.size := (by rw [World.size_alloc]; omega); (refine BG (Wr4.alloc (.cells #[.int .i64 op4, .string f4, .int .i64 by4, .int .i64 cr4, .slice bA4 bn4 bc4, .slice cA4 cn4 cc4] 82)) rfl (.tmp 47) (.tmp 50) rfl wz.heap.size (fV) acc.length (vs2.flatMap cellsOf) X1 rfl Wr4.heap.size 1 op4 f4 by4 cr4 bA4 bn4 bc4 cA4 cn4 cc4 X2 rfl HAL.out X3 ?_); clear X1 X2 X3; intro v' Wr5 hown5 hgr5 hv5; obtain ⟨Av5, cv5, rfl, hcv5⟩ := aS hown5; have X5 := World.ownsRow.alloc (gu hown2.drew IZ hbwz) (.cells #[.int .i64 op4, .string f4, .int .i64 by4, .int .i64 cr4, .slice bA4 bn4 bc4, .slice cA4 cn4 cc4] 82); have X6 := (((Below.refl Wr4.heap.size Wr4).alloc (Nat.le_refl _) (.cells #[.int .i64 op4, .string f4, .int .i64 by4, .int .i64 cr4, .slice bA4 bn4 bc4, .slice cA4 cn4 cc4] 82)).block Wa.heap.size hT4).trans HDr4.out; have HDr5 := Lib.hid (jL hgr5 X5 hsz X6); clear X5 X6; obtain ⟨-, -, -, -, u5, -, -, -, -, -, -, -, -, -, -, -, -, -, -, -, -, -, uf⟩ := lC HDr5.out; have uf5 := uf 4; clear uf) | (go_simp; go_at_call 83; refine HC.out.mono ?_; rintro e Wr4 ⟨op4, f4, by4, cr4, bA4, bn4, bc4, cA4, cn4, cc4, rfl, ht4, hp4, IZ⟩; have hsx4 : Wr2.heap.size ≤ Wr4.heap.size := IZ.size; have hT4 : Wa.heap.size < Wr4.heap.size := (by omega); have HDr4 := Lib.hid (ah IZ HDr2.out hDb); obtain ⟨-, -, -, -, u4, -, -, -, -, -, -, -, -, -, -, -, -, -, -, -, -, -, uf⟩ := lC HDr4.out; clear uf))
     all_goals
      have LW := fun i x u hx hu => lm.keep (HALL.out i x u hx hu) ((ax IZ).mono fun g hg => by omega)
      have hrow5 : fE lm Wr5 (wz.heap.size ≤ ·) wz.heap.size 82 6 (.slice Av5 (acc.length + 1) cv5) (acc ++ [(bX L 5 (taken L (⟨#[124]⟩ : ByteArray) s')).1]) := fE.push l2 LW mZ rfl (ht4.mono (fun g hg _ => yB.out g hg)) hown5 (aj (aH ((Below.refl _ _).alloc (Nat.le_refl _) _)) hgr5) (by simpa using hv5)
      have hgr6 : Wr5.grownBy (Wr5.setCell ⟨Wa.heap.size, 4, none⟩ (.slice Av5 (acc.length + 1) cv5)) (some Wa.heap.size) := aF (aJ _ _) _ _
      have ic := World.ownsRow.alloc (gu hown2.drew IZ (by omega)) (.cells #[.int .i64 op4, .string f4, .int .i64 by4, .int .i64 cr4, .slice bA4 bn4 bc4, .slice cA4 cn4 cc4] 82)
      have hb5 := aM ic hgr5 (by simp <;> omega)
      have hsr5 := hgr5.size
      simp only [World.size_alloc] at hsr5
      have hfr5 := ((hfr2.call (aj (aH (Below.refl _ _).drew) IZ)).from ((Below.refl _ _).alloc (Nat.le_refl _) (.cells #[.int .i64 op4, .string f4, .int .i64 by4, .int .i64 cr4, .slice bA4 bn4 bc4, .slice cA4 cn4 cc4] 82)) (by omega)).from hb5 (Nat.le_refl _)
      have hp5 := (hp4.below ((Below.refl _ _).alloc (Nat.le_refl _) _)).other hb5 (by omega)
      go_wp2_with fail
      go_roundg f
      case measure => omega
      case rel =>
       have ha := (oh (L := L) 5 hp2.pos).le
       rw [HPo.out] at ha
       refine ⟨acc ++ [(bX L 5 (taken L (⟨#[124]⟩ : ByteArray) s')).1], _, _, ?_, ?_, ?_, hp5.other (below_grown hgr6 (Nat.le_refl _) (by omega)) (by omega), hfr5.set hgr6, aQ HDr5.out _, ?_⟩
       ·rw [Eb HI.out] at hgo; exact hgo
       ·omega
       ·rw [List.length_append]; simp; omega
       ·exact hrow5.grown mZ hgr6 (by omega) (fun g hg => by omega)

theorem decl_rd {b : Nat} {A : Option Addr} {n c : Nat} {L : aW} {s : St} (hsy : lg L) (w : World) (h : RSt b A n c L s w) (hpp : s.pos < L.length) :
  Calls Tryz.prog 43 #[.pointer (some ⟨b, 0, none⟩)] w (sw b A n c L w (jk L 5 s)) := by
 cases h1 : isW L (⟨#[115, 105, 116, 101]⟩ : ByteArray) s
 ·cases h2 : isW L (⟨#[102, 97, 117, 108, 116, 115]⟩ : ByteArray) s
  ·cases h3 : isW L (⟨#[113, 117, 111, 114, 117, 109]⟩ : ByteArray) s
   ·cases h4 : isW L (⟨#[99, 111, 110, 102, 105, 103]⟩ : ByteArray) s
    ·cases h5 : isW L (⟨#[119, 105, 116, 110, 101, 115, 115]⟩ : ByteArray) s
     ·cases h6 : isW L (⟨#[99, 108, 105, 101, 110, 116]⟩ : ByteArray) s
      ·cases h7 : isW L (⟨#[99, 104, 97, 105, 110]⟩ : ByteArray) s
       ·exact rdecl_h hsy w h hpp h1 h2 h3 h4 h5 h6 h7
       ·exact rdecl_g hsy w h hpp h1 h2 h3 h4 h5 h6 h7
      ·cases h9 : isW L (⟨#[102, 97, 117, 108, 116, 115]⟩ : ByteArray) (bD L (taken L (⟨#[99, 108, 105, 101, 110, 116]⟩ : ByteArray) s)).2
       ·exact rdecl_i hsy w h hpp h1 h2 h3 h4 h5 h6 h9
       ·exact rdecl_f hsy w h hpp h1 h2 h3 h4 h5 h6 h9
     ·exact rdecl_e hsy w h hpp h1 h2 h3 h4 h5
    ·cases hc : isW L (⟨#[99, 114, 97, 115, 104]⟩ : ByteArray) (bD L (taken L (⟨#[99, 111, 110, 102, 105, 103]⟩ : ByteArray) s)).2
     ·exact rdecl_j hsy w h hpp h1 h2 h3 h4 hc
     ·exact rdecl_d hsy w h hpp h1 h2 h3 h4 hc
   ·exact rdecl_c hsy w h hpp h1 h2 h3
  ·exact rdecl_b hsy w h hpp h1 h2
 ·exact rdecl_a hsy w h hpp h1
end Go.Proofs.YtbmglebipepdmaaGreatDoor
namespace Go.Proofs.YtbmglebipepdmaaGreatDoor
open Go.RowKit

attribute [local go_sem] Int.min_def in
set_option maxRecDepth 100000 in
set_option maxHeartbeats 2000000 in
theorem line_rd {b : Nat} {A : Option Addr} {n c : Nat} {L : aW} {s : St} (w : World) (h : RSt b A n c L s w) :
  Calls Tryz.prog 44 #[.pointer (some ⟨b, 0, none⟩)] w (fun e w' => e = .returned (.int .i64 (gM L s.pos)) ∧ ∃ q, w' = w.drewN q) := by
 have hbs := h.lt
 have oo := h.few
 have hln := h.len
 have hpo := h.pos
 obtain ⟨c0, c1, c2, -⟩ := sI h.blk
 by_cases h0 : L.length = 0
 ·rw [Gi h0]
  obtain rfl : n = 0 := by omega
  clear oo hln h0 h hpo
  go_enter Tryz.func44, Tryz.ntmps44
  go_wp2
  go_ret
  exact ⟨rfl, 0, rfl⟩
 ·have hl : gM L s.pos = _ := Mr (L := L) (i := s.pos) (by omega)
  have hz : (((n : Nat) : Int) == 0) = false := by rw [beq_eq_false_iff_ne]; omega
  have hw1 : IntKind.i64.wrap ((n : Int) - 1) = (n : Int) - 1 := IntWalk.i64_in _ (by omega)
  have hn1 : 1 ≤ n := by omega
  by_cases hlt : s.pos < n
  ·obtain ⟨g, o, rfl, hS, -, -, -, -, k4⟩ := vg (i := s.pos) h.toks hln (by omega)
   have hgs := World.block_lt_of_cell? w _ k4
   have e4 : (L[s.pos]'(by omega)).2 = gM L s.pos := by
    rw [hl]; congr 2; have := h.pos; omega
   rw [e4] at k4
   generalize gM L s.pos = l at k4 ⊢
   clear hl e4 h0 h
   have hm1 : ¬ (n : Int) - 1 < (s.pos : Int) := by omega
   have hm2 : (s.pos : Int) ≤ (n : Int) - 1 := by omega
   have hm3 : (s.pos : Int) < (n : Int) := by omega
   have hm4 : (0 : Int) ≤ (s.pos : Int) := by omega
   go_enter Tryz.func44, Tryz.ntmps44
   go_wp2
   go_quiet (fail)
   go_wp2
   go_ret
   exact ⟨rfl, _, rfl⟩
  ·obtain ⟨g, o, rfl, hS, -, -, -, -, k4⟩ := vg (i := n - 1) h.toks hln (by omega)
   have hgs := World.block_lt_of_cell? w _ k4
   have e4 : (L[n - 1]'(by omega)).2 = gM L s.pos := by
    rw [hl]; congr 2; have := h.pos; omega
   rw [e4] at k4
   generalize gM L s.pos = l at k4 ⊢
   clear hl e4 h0 h
   have hm1 : (n : Int) - 1 < (s.pos : Int) := by omega
   have hm2 : ¬ (s.pos : Int) ≤ (n : Int) - 1 := by omega
   have hm3 : (n : Int) - 1 < (n : Int) := by omega
   have hm4 : (0 : Int) ≤ (n : Int) - 1 := by omega
   have hm5 : ((n : Int) - 1).toNat = n - 1 := by omega
   have hm6 : (1 : Int) ≤ (n : Int) := by omega
   have hm7 : 1 ≤ n := by omega
   have hm8 : (n : Int) - 1 < 9223372036854775808 := by omega
   clear oo hln hpo hz hlt hn1
   have hz : (((n : Nat) : Int) == 0) = false := by rw [beq_eq_false_iff_ne]; omega
   go_enter Tryz.func44, Tryz.ntmps44
   go_wp2
   go_quiet (fail)
   go_wp2
   go_ret
   exact ⟨rfl, _, rfl⟩
end Go.Proofs.YtbmglebipepdmaaGreatDoor
namespace Go.Proofs.YtbmglebipepdmaaGreatDoor

theorem funOp_one (c : UInt8) : iL (bs [c]) = 0 := by
 have hs : ∀ y : ByteArray, y.size ≠ 1 → (bs [c] == y) = false := by
  intro y hy
  cases h : (bs [c] == y)
  ·rfl
  ·have h1 : (bs [c]).size = 1 := rfl
   rw [(iJ _ _).1 h] at h1
   exact absurd h1 hy
 unfold iL
 rw [hs _ (by decide), hs _ (by decide), hs _ (by decide), hs _ (by decide)]
 rfl
def EI (L : aW) : Prop := ∀ t ∈ L, t.1.kind = 4 → iL t.1.text = 0
theorem Lx {l : List UInt8} {t : Tok} {n : Nat} (h : gZ l = some (t, n)) : t.kind = 4 → iL t.text = 0 := by
 match l with
 |[] => simp [gZ] at h
 |c :: r =>
  rw [gZ] at h
  split at h
  ·split at h
   ·simp at h
   ·simp only [Option.some.injEq, Prod.mk.injEq] at h
    rw [← h.1]; intro k; simp at k
  ·split at h
   ·split at h
    ·simp at h
    ·simp only [Option.some.injEq, Prod.mk.injEq] at h
     rw [← h.1]; intro k; simp at k
   ·split at h
    ·split at h
     ·simp at h
     ·simp only [Option.some.injEq, Prod.mk.injEq] at h
      rw [← h.1]; intro k; simp at k
    ·split at h
     ·simp only [Option.some.injEq, Prod.mk.injEq] at h
      rw [← h.1]; intro _; exact funOp_one c
     ·simp at h
theorem lexF_sym (f : Nat) : ∀ (l : List UInt8) (line : Nat) (acc : List (Tok × Nat)), EI acc → EI (J7 f l line acc).1 := by
 induction f with
 |zero => intro l line acc h; exact h
 |succ f ih =>
  intro l line acc h
  match l with
  |[] => exact h
  |c :: r =>
   rw [J7]
   split
   ·exact ih _ _ _ h
   ·split
    ·exact ih _ _ _ h
    ·split
     ·intro t ht; simp at ht
     ·rename_i t n e
      refine ih _ _ _ ?_
      intro u hu
      rcases List.mem_append.1 hu with hu | hu
      ·exact h u hu
      ·rw [List.mem_singleton.1 hu]; exact Lx e
theorem lexS_sym (l : List UInt8) (line : Nat) : EI (lex l line []).1 := lexF_sym _ _ _ _ (fun t ht => by simp at ht)
end Go.Proofs.YtbmglebipepdmaaGreatDoor
namespace Go.Proofs.YtbmglebipepdmaaGreatDoor
open Go.RowKit

theorem psL_sym (l : List UInt8) : lg (psL l) := by
 have h : EI (psL l) := by
  unfold psL
  split
  ·intro t ht; simp at ht
  ·split
   ·intro t ht; simp at ht
   ·exact lexS_sym l 1
 intro i hi
 exact h _ (List.getElem_mem hi)
def GY (l : List UInt8) (w : World) (e : Ending) (w' : World) : Prop :=
 Below w.heap.size w w' ∧ ((psE l ≠ 0 ∧ e = .returned (.tuple #[.slice none 0 0, .int .i64 (yG l 0), .int .i64 (psE l)])) ∨
  (psE l = 0 ∧ yG l = gM (psL l) ∧ ∃ A c, e = .returned (.tuple #[.slice A (psL l).length c, .int .i64 0, .int .i64 0]) ∧ aL w' (w.heap.size ≤ ·) 5 A (psL l).length (jw (psL l)) ∧ (psL l).length ≤ 3000))

set_option maxRecDepth 100000 in
set_option maxHeartbeats 4000000 in
theorem tokens_rd (s : ByteArray) (w : World) : Calls Tryz.prog 42 #[.string s] w (GY s.data.toList w) := by
 have HT := Lib.hid (Bz s w)
 have hsz : s.data.toList.length = s.size := by simp
 go_enter Tryz.func42, Tryz.ntmps42
 go_wp2_with fail
 refine HT.out.mono ?_
 rintro e W ⟨hb, hk⟩
 have hs := hb.size
 obtain ⟨T, hT⟩ : ∃ T, T = lex s.data.toList 1 [] := ⟨_, rfl⟩
 have e1 : psL s.data.toList = if 65536 < s.size then [] else if T.2.2 ≠ 0 then [] else T.1 := by unfold psL; rw [hsz, ← hT]
 have e2 : psE s.data.toList = if 65536 < s.size then 3 else if T.2.2 ≠ 0 then T.2.2 else if 3000 < T.1.length then 3 else 0 := by unfold psE; rw [hsz, ← hT]
 have e3 : yG s.data.toList = if 65536 < s.size then fun _ => 0 else if T.2.2 ≠ 0 then fun _ => T.2.1 else if 3000 < T.1.length then fun _ => 0 else gM T.1 := by unfold yG; rw [hsz, ← hT]
 rw [← hT] at hk
 clear hsz hT
 obtain ⟨L, li, er⟩ := T
 simp only at hk e1 e2 e3
 by_cases h1 : 65536 < s.size
 ·rw [if_pos h1] at hk e1 e2 e3
  subst hk
  have E2 := Lib.hid e2
  have E3 := Lib.hid e3
  clear h1 e1 e2 e3
  go_wp2
  refine bodyPost_ret (results_tmp3 rfl _ _ _) rfl ?_
  unfold GY
  rw [E2.out, E3.out]
  exact ⟨hb, .inl ⟨by simp, rfl⟩⟩
 ·rw [if_neg h1] at hk e1 e2 e3
  by_cases h2 : er ≠ 0
  ·rw [if_pos h2] at hk e1 e2 e3
   subst hk
   have hz : ((er : Int) == 0) = false := eP h2
   have H2 := Lib.hid h2
   have E2 := Lib.hid e2
   have E3 := Lib.hid e3
   clear h1 h2 e1 e2 e3
   go_wp2
   refine bodyPost_ret (results_tmp3 rfl _ _ _) rfl ?_
   unfold GY
   rw [E2.out, E3.out]
   exact ⟨hb, .inl ⟨H2.out, rfl⟩⟩
  ·rw [if_neg h2] at hk e1 e2 e3
   obtain ⟨A, c, rfl, hc, Cc, hlen⟩ := hk
   have HS := Lib.hid Cc
   by_cases h3 : 3000 < L.length
   ·rw [if_pos h3] at e2 e3
    have E2 := Lib.hid e2
    have E3 := Lib.hid e3
    have h3i : (3000 : Int) < (L.length : Int) := by omega
    clear Cc h2 e1 e2 e3
    go_wp2
    refine bodyPost_ret (results_tmp3 rfl _ _ _) rfl ?_
    unfold GY
    rw [E2.out, E3.out]
    exact ⟨hb, .inl ⟨by simp, rfl⟩⟩
   ·rw [if_neg h3] at e2 e3
    have E1 := Lib.hid e1
    have E2 := Lib.hid e2
    have E3 := Lib.hid e3
    have h3i : ¬ (3000 : Int) < (L.length : Int) := by omega
    have H3 := Lib.hid h3
    clear Cc h2 h3 e1 e2 e3
    go_wp2
    refine bodyPost_ret (results_tmp3 rfl _ _ _) rfl ?_
    unfold GY
    rw [E1.out, E2.out, E3.out]
    exact ⟨hb, .inr ⟨rfl, rfl, A, c, rfl, HS.out, by have := H3.out; omega⟩⟩

theorem Ls {b : Nat} {A : Option Addr} {n c : Nat} {L : aW} {s : St} {w : World} (h : RSt b A n c L s w) (k : Nat) :
  Calls Tryz.prog 44 #[.pointer (some ⟨b, 0, none⟩)] (w.drewN k) fun e w'' => e = .returned (.int .i64 (gM L s.pos)) ∧ ∃ m, w'' = w.drewN m :=
 Calls.quiet_of (line_rd _ (h.drewN k))
theorem zU {b : Nat} {A : Option Addr} {n c : Nat} {L : aW} {s : St} {w : World} (h : RSt b A n c L s w) (q k : Nat) :
  Calls Tryz.prog 44 #[.pointer (some ⟨b, 0, none⟩)] (w.drewN (q + k)) fun e w'' => e = .returned (.int .i64 (gM L s.pos)) ∧ ∃ m, w'' = w.drewN (q + m) := by
 have h1 := Ls (h.drewN q) k
 simp only [World.drewN_drewN] at h1
 exact h1

set_option maxRecDepth 100000 in
set_option maxHeartbeats 8000000 in
theorem Dv (s : ByteArray) (w : World) : Calls Tryz.prog 14 #[.string s] w (GZ (dQ 5 s.data.toList) w) := by
 rw [K9]
 generalize hR : uz 5 (psL s.data.toList) (yG s.data.toList) ⟨0, psE s.data.toList⟩ = R
 have hsy := psL_sym s.data.toList
 have HR := Lib.hid hR
 have HSY := Lib.hid hsy
 clear hR hsy
 go_enter Tryz.func14, Tryz.ntmps14
 go_wp2_with fail
 refine (tokens_rd s w).mono ?_
 rintro e W1 ⟨hb1, hk⟩
 have hs1 := hb1.size
 rcases hk with ⟨hne, rfl⟩ | ⟨he0, hln, A, c, rfl, Cc, hlen⟩
 ·have hR := HR.out
  rw [qG (show (⟨0, psE s.data.toList⟩ : St).err ≠ 0 from hne)] at hR
  simp only at hR
  generalize yG s.data.toList 0 = li at *
  generalize psE s.data.toList = er at *
  have hz : ((er : Int) != 0) = true := gY hne
  clear hne
  go_wp2
  go_ret3
  subst hR
  exact ⟨none, 0, rfl, Nat.le_refl _, aT.empty _ _ _ _ _, hb1⟩
 ·rw [he0, hln] at HR
  generalize psL s.data.toList = L at *
  obtain ⟨W2, hW2⟩ : ∃ W2 : World, W2 = W1.alloc (.cells #[.slice A L.length c, .int .i64 0, .int .i64 0] 73) := ⟨_, rfl⟩
  have hb2 : Below W1.heap.size W1 W2 := by rw [hW2]; exact (Below.refl _ _).alloc (Nat.le_refl _) _
  have hs2 : W1.heap.size < W2.heap.size := by rw [hW2]; simp
  have hn2 : W2.heap[W1.heap.size]? = some (.cells #[.slice A L.length c, .int .i64 0, .int .i64 0] 73 (0, 0)) := by rw [hW2]; exact heap_alloc_new W1 _
  have hp2 : RSt W1.heap.size A L.length c L ⟨0, 0⟩ W2 := ⟨hn2, rfl, Nat.zero_le _, (Cc.mono (S' := (· < W1.heap.size)) (fun g _ h => h) (by decide)).keep (aP hb2), by omega⟩
  have HP2 := Lib.hid hp2
  have HW2 := Lib.hid hW2
  have hlenf : L.length ≤ 100000 := by omega
  obtain ⟨b, hb⟩ : ∃ b, b = W1.heap.size := ⟨_, rfl⟩
  obtain ⟨n, hn⟩ : ∃ n, n = L.length := ⟨_, rfl⟩
  clear hW2 hp2 hn2 Cc he0 hln
  go_wp2_with fail
  rw [← HW2.out]
  have HN := Lib.hid hn
  have HR2 : Hid (fD L 5 L.length [] ⟨0, 0⟩ = fD L 5 L.length [] ⟨0, 0⟩) := Lib.hid rfl
  have hb2w : Below w.heap.size w W2 := hb1.trans (hb2.mono hs1)
  clear HW2 hn
  go_loopg [9] L.length (fun f v wr => ∃ acc s', Hid (fD L 5 f acc s' = fD L 5 L.length [] ⟨0, 0⟩) ∧ (s'.err = 0 → L.length ≤ f + s'.pos) ∧ acc.length + f ≤ L.length ∧ RSt W1.heap.size A L.length c L s' wr ∧ W2.grownBy wr (some W1.heap.size) ∧ fE fo wr (W2.heap.size ≤ ·) W2.heap.size 41 22 v acc)
  case atStart => exact ⟨[], ⟨0, 0⟩, rfl, fun _ => by simp, by simp, HP2.out, aJ _ _, fE.nil _ _ _ _ _⟩
  case round =>
   obtain ⟨acc, s', hgo, hfu, hal, hP, hgr, hrow⟩ := hrel
   have hsr := hgr.size
   by_cases hp : s'.pos < L.length
   ·have hlt : (s'.pos : Int) < (L.length : Int) := by omega
    have hlb : decide ((s'.pos : Int) < (L.length : Int)) = true := decide_eq_true hlt
    have hlc : decide (s'.pos < L.length) = true := decide_eq_true hp
    by_cases he : s'.err = 0
    ·have hmo := IK he hp
     have hez : ((s'.err : Int) == 0) = true := lq he
     obtain ⟨f, rfl⟩ : ∃ f, gk = f + 1 := ⟨gk - 1, by have := hfu he; omega⟩
     rw [Gm hmo] at hgo
     have HP := Lib.hid hP
     have HE := Lib.hid he
     have HFU := Lib.hid hfu
     have HPP := Lib.hid hp
     obtain ⟨c0, c1, c2, -⟩ := sI hP.blk
     clear hmo hP he hfu
     go_wp2
     go_quiet (fail)
     go_wp2_with fail
     refine (decl_rd HSY.out _ (HP.out.drewN _) HPP.out).mono ?_
     rintro e W3 ⟨v, rfl, hdc, h3, hg3⟩
     obtain ⟨nA, nc, fA, fc, o1, m1, d1, wA1, wn1, wc1, kA1, kn1, kc1, o2, m2, d2, wA2, wn2, wc2, kA2, kn2, kc2, o3, m3, d3, wA3, wn3, wc3, kA3, kn3, kc3, hv⟩ := uQ hdc
     have hgr3 : W2.grownBy W3 (some W1.heap.size) := aj (fw hgr _) hg3
     have hs3 : wr.heap.size ≤ W3.heap.size := hg3.size
     have hrow3 : fE fo W3 (W2.heap.size ≤ ·) W2.heap.size 41 22 _ acc := fE.grown (b := W1.heap.size) (hrow.keep (w' := wr.drewN _) ng (aP (below_drewN (Below.refl _ _) _)) (fun g _ => rfl)) ng hg3 hs2 (fun g hg => by omega)
     have hdc2 := hdc
     subst hv
     obtain ⟨vs, hvl, hown, hvs⟩ := hrow3
     have hbz : W2.heap.size ≤ W3.heap.size := hgr3.size
     have hdcx := hdc2.mono (S' := (wr.heap.size ≤ ·)) (fun g hg _ => hg)
     clear c0 c1 c2
     go_wp2_with (at_builtin; refine push_decl W3 rfl (.tmp 40) (.tmp 43) rfl W2.heap.size _ _ _ hown rfl _ _ _ _ _ _ _ _ _ _ _ _ _ _ _ _ _ _ _ _ _ _ _ _ _ _ _ _ _ _ _ _ _ _ _ _ _ _ rfl (by omega) hbz ?_; intro v' W4 ic hg4 hv4)
     have hb4 := aM hown hg4 hbz
     go_roundg f
     case measure => omega
     case rel =>
      have qZ : fo W3 (fun g => W2.heap.size ≤ g ∧ some g ≠ (Value.ownBlock _)) (jk L 5 s').1 _ := hdcx.mono (fun g hg _ => ⟨by omega, fun e => by
       obtain ⟨vs0, _, hown0, _⟩ := hrow
       have := (hown0.lt g e.symm).2
       omega⟩)
      refine ⟨acc ++ [(jk L 5 s').1], _, hgo.out, ?_, ?_, h3.other hb4 hs2, aR hgr3 hb4 (Nat.le_refl _), fE.push hvl hvs ng rfl qZ ic hg4 hv4⟩
      ·intro h9
       have h10 := Mw 5 HE.out HP.out.pos h9
       have h11 := HFU.out HE.out
       omega
      ·rw [List.length_append]; simp; omega
    ·have hmo : tL L s' = false := by unfold tL; simp [he]
     rw [oL hmo] at hgo
     have HP := Lib.hid hP
     have hR := HR.out
     unfold uz at hR
     rw [← hgo.out] at hR
     simp only at hR
     obtain ⟨Av, cv, rfl, hcv, hlist⟩ := hrow.list ng
     have HL := Lib.hid hlist
     obtain ⟨c0, c1, c2, -⟩ := sI hP.blk
     have hfr : Below w.heap.size w wr := hb2w.trans (below_grown hgr (by omega) (by omega))
     clear hmo hP hrow hlist hgo
     rw [if_pos (by simpa using he)] at hR
     have hne : ((s'.err : Int) != 0) = true := gY he
     have hez : ((s'.err : Int) == 0) = false := eP he
     have HLQ := Lib.hid (fun q k => zU HP.out q k)
     generalize gM L s'.pos = el at *
     go_wp2
     go_quiet (fail)
     go_wp2
     go_quiet ((go_at_call 44; exact HLQ.out _ _))
     go_wp2
     go_ret3
     subst hR
     exact ⟨none, 0, rfl, Nat.le_refl _, aT.empty _ _ _ _ _, below_drewN (below_drewN hfr _) _⟩
   ·have hlb : decide ((s'.pos : Int) < (L.length : Int)) = false := decide_eq_false (by omega)
    have hlc : decide (s'.pos < L.length) = false := decide_eq_false hp
    have hmo : tL L s' = false := by unfold tL; simp [hp]
    by_cases he : s'.err = 0
    ·skip
     rw [oL hmo] at hgo
     have HP := Lib.hid hP
     have hR := HR.out
     unfold uz at hR
     rw [← hgo.out] at hR
     simp only at hR
     obtain ⟨Av, cv, rfl, hcv, hlist⟩ := hrow.list ng
     have HL := Lib.hid hlist
     obtain ⟨c0, c1, c2, -⟩ := sI hP.blk
     have hfr : Below w.heap.size w wr := hb2w.trans (below_grown hgr (by omega) (by omega))
     clear hmo hP hrow hlist hgo
     rw [if_neg (by simpa using he)] at hR
     have hne : ((s'.err : Int) != 0) = false := by simpa using he
     have hez : ((s'.err : Int) == 0) = true := lq he
     go_wp2
     go_quiet (fail)
     go_wp2
     go_ret3
     subst hR
     have hq : ∀ q, Below wr.heap.size wr (wr.drewN q) := fun q => below_drewN (Below.refl _ _) q
     exact ⟨_, _, rfl, hcv, ((HL.out.keep (P' := fo (wr.drewN _) (W2.heap.size ≤ ·)) (aP (hq _)) (fun _ _ h => h.keep (aP (hq _)))).mono (fun g hg _ => by omega) (by decide) (fun _ _ h => h.mono (fun g hg _ => by omega))), below_drewN hfr _⟩
    ·skip
     rw [oL hmo] at hgo
     have HP := Lib.hid hP
     have hR := HR.out
     unfold uz at hR
     rw [← hgo.out] at hR
     simp only at hR
     obtain ⟨Av, cv, rfl, hcv, hlist⟩ := hrow.list ng
     have HL := Lib.hid hlist
     obtain ⟨c0, c1, c2, -⟩ := sI hP.blk
     have hfr : Below w.heap.size w wr := hb2w.trans (below_grown hgr (by omega) (by omega))
     clear hmo hP hrow hlist hgo
     rw [if_pos (by simpa using he)] at hR
     have hne : ((s'.err : Int) != 0) = true := gY he
     have hez : ((s'.err : Int) == 0) = false := eP he
     have HLQ := Lib.hid (fun q k => zU HP.out q k)
     generalize gM L s'.pos = el at *
     go_wp2
     go_quiet (fail)
     go_wp2
     go_quiet ((go_at_call 44; exact HLQ.out _ _))
     go_wp2
     go_ret3
     subst hR
     exact ⟨none, 0, rfl, Nat.le_refl _, aT.empty _ _ _ _ _, below_drewN (below_drewN hfr _) _⟩
end Go.Proofs.YtbmglebipepdmaaGreatDoor
