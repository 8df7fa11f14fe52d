/- The contract of the reference reader's method declaration: its post, and no word. gX by wH.py. The contract of the reference reader's method declaration: witness, chain, site. gX by wH.py. The contract of the reference reader's method declaration: quorum, config. gX by wH.py. -/
import Derived.Test.YtbmglebipepdmaaGreatDoorPkRefb
import Derived.Test.YtbmglebipepdmaaGreatDoorPkPara
namespace Go.Proofs.YtbmglebipepdmaaGreatDoor
open Go.RowKit

def sw (b : Nat) (A : Option Addr) (n c : Nat) (L : aW) (w : World) (r : Dc × St) (e : Ending) (w' : World) : Prop :=
 ∃ v, e = .returned v ∧ fo w' (w.heap.size ≤ ·) r.1 v ∧ RSt b A n c L r.2 w' ∧ w.grownBy w' (some b)

attribute [local go_sem ↓] iC in
set_option maxRecDepth 100000 in
set_option maxHeartbeats 8000000 in
theorem rdecl_h {b : Nat} {A : Option Addr} {n c : Nat} {L : aW} {s : St} (hsy : lg L) (w : World) (h : RSt b A n c L s w) (hpp : s.pos < L.length) (h1 : isW L (⟨#[115, 105, 116, 101]⟩ : ByteArray) s = false) (h2 : isW L (⟨#[102, 97, 117, 108, 116, 115]⟩ : ByteArray) s = false) (h3 : isW L (⟨#[113, 117, 111, 114, 117, 109]⟩ : ByteArray) s = false) (h4 : isW L (⟨#[99, 111, 110, 102, 105, 103]⟩ : ByteArray) s = false) (h5 : isW L (⟨#[119, 105, 116, 110, 101, 115, 115]⟩ : ByteArray) s = false) (h6 : isW L (⟨#[99, 108, 105, 101, 110, 116]⟩ : ByteArray) s = false) (h7 : isW L (⟨#[99, 104, 97, 105, 110]⟩ : ByteArray) s = false) :
  Calls Tryz.prog 43 #[.pointer (some ⟨b, 0, none⟩)] w (sw b A n c L w (jk L 5 s)) := by
 have hbs := h.lt
 have Hh1 := Lib.hid h1
 have Hh2 := Lib.hid h2
 have Hh3 := Lib.hid h3
 have Hh4 := Lib.hid h4
 have Hh5 := Lib.hid h5
 have Hh6 := Lib.hid h6
 have Hh7 := Lib.hid h7
 clear h1 h2 h3 h4 h5 h6 h7
 have HH := Lib.hid h
 have HSY := Lib.hid hsy
 clear h hsy
 go_enter Tryz.func43, Tryz.ntmps43
 go_upto_region 1 with fail
 obtain ⟨Wa, hWa⟩ : ∃ Wa : World, Wa = w.alloc (.cells (iP 0) 41) := ⟨_, rfl⟩
 have hba : Below w.heap.size w Wa := by rw [hWa]; exact (Below.refl _ _).alloc (Nat.le_refl _) _
 have hsa : w.heap.size < Wa.heap.size := by rw [hWa]; simp
 have hra : Wa.heap[w.heap.size]? = some (.cells (iP 0) 41 (0, 0)) := by rw [hWa]; exact heap_alloc_new w _
 rw [← hWa]
 have HRa := Lib.hid hra
 clear hWa hra
 have qa := HH.out.below hba
 obtain ⟨g, o, rfl, hS, hgs, hbs2, k0, k1, k2, k3, k4, i1, i2, i3⟩ := rd_facts qa hpp
 obtain ⟨c0, c1, c2, cf⟩ := sI qa.blk
 have hln : (fU L s.pos : Int) = ((L[s.pos]'hpp).2 : Int) := by unfold fU; rw [List.getElem?_eq_getElem hpp]; rfl
 generalize hli : ((L[s.pos]'hpp).2 : Int) = li at k4 hln
 have HLI := Lib.hid hln
 clear hli hln cf k0 k1 k2 k3 c2
 go_cut [3] (fun s3 wx => s3 = .pointer (some ⟨Wa.heap.size, 0, none⟩) ∧ wx.heap[Wa.heap.size]? = some (.cells (iP li) 41 (0, 0)) ∧ Below Wa.heap.size Wa wx ∧ Wa.heap.size < wx.heap.size)
 case first =>
  have hst := fun (c : Array Value) (hc : c.size = 22) => jg Wa c hc li
  go_region_law (fail)
  all_goals
   go_wp2_with fail
   go_meet
   exact ⟨rfl, heap_alloc_new Wa _, ((Below.refl _ _).alloc (Nat.le_refl _) _).drew, by simp⟩
 case rest =>
  obtain ⟨rfl, hDz, hbz, hsz⟩ := hcut
  obtain ⟨wz, rfl⟩ : ∃ wz : World, wz = wc := ⟨_, rfl⟩
  have HRz := Lib.hid ((hbz.block _ hsa).trans HRa.out)
  have q0 := qa.below hbz
  have f0 := jr.refl b Wa.heap.size wz
  have HD0 := Lib.hid hDz
  have z0 : wz.heap.size ≤ wz.heap.size := Nat.le_refl _
  have hfz : w.grownBy wz (some b) := aj (aH hba) (aH hbz)
  clear hDz c0 c1 k4
  go_wp2_with fail
  have ht := aD (⟨#[115, 105, 116, 101]⟩ : ByteArray) wz q0
  rw [Hh1.out, aB Hh1.out] at ht
  refine ht.mono ?_
  clear ht
  rintro e W1 ⟨rfl, q1, g1⟩
  have z1 := g1.size
  have HD1 := Lib.hid (ah g1 HD0.out (by omega))
  have f1 := f0.call g1
  go_wp2_with fail
  have ht := aD (⟨#[102, 97, 117, 108, 116, 115]⟩ : ByteArray) W1 q1
  rw [Hh2.out, aB Hh2.out] at ht
  refine ht.mono ?_
  clear ht
  rintro e W2 ⟨rfl, q2, g2⟩
  have z2 := g2.size
  have HD2 := Lib.hid (ah g2 HD1.out (by omega))
  have f2 := f1.call g2
  go_wp2_with fail
  have ht := aD (⟨#[113, 117, 111, 114, 117, 109]⟩ : ByteArray) W2 q2
  rw [Hh3.out, aB Hh3.out] at ht
  refine ht.mono ?_
  clear ht
  rintro e W3 ⟨rfl, q3, g3⟩
  have z3 := g3.size
  have HD3 := Lib.hid (ah g3 HD2.out (by omega))
  have f3 := f2.call g3
  go_wp2_with fail
  have ht := aD (⟨#[99, 111, 110, 102, 105, 103]⟩ : ByteArray) W3 q3
  rw [Hh4.out, aB Hh4.out] at ht
  refine ht.mono ?_
  clear ht
  rintro e W4 ⟨rfl, q4, g4⟩
  have z4 := g4.size
  have HD4 := Lib.hid (ah g4 HD3.out (by omega))
  have f4 := f3.call g4
  go_wp2_with fail
  have ht := aD (⟨#[119, 105, 116, 110, 101, 115, 115]⟩ : ByteArray) W4 q4
  rw [Hh5.out, aB Hh5.out] at ht
  refine ht.mono ?_
  clear ht
  rintro e W5 ⟨rfl, q5, g5⟩
  have z5 := g5.size
  have HD5 := Lib.hid (ah g5 HD4.out (by omega))
  have f5 := f4.call g5
  go_wp2_with fail
  have ht := aD (⟨#[99, 108, 105, 101, 110, 116]⟩ : ByteArray) W5 q5
  rw [Hh6.out, aB Hh6.out] at ht
  refine ht.mono ?_
  clear ht
  rintro e W6 ⟨rfl, q6, g6⟩
  have z6 := g6.size
  have HD6 := Lib.hid (ah g6 HD5.out (by omega))
  have f6 := f5.call g6
  go_wp2_with fail
  have ht := aD (⟨#[99, 104, 97, 105, 110]⟩ : ByteArray) W6 q6
  rw [Hh7.out, aB Hh7.out] at ht
  refine ht.mono ?_
  clear ht
  rintro e W7 ⟨rfl, q7, g7⟩
  have z7 := g7.size
  have HD7 := Lib.hid (ah g7 HD6.out (by omega))
  have f7 := f6.call g7
  go_wp2_with fail
  refine (xJ 2 W7 q7).mono ?_
  rintro e W8 ⟨rfl, q8, g8⟩
  have z8 := g8.size
  have HD8 := Lib.hid (ah g8 HD7.out (by omega))
  have f8 := f7.call g8
  go_wp2_with fail
  refine (eB (⟨#[59]⟩ : ByteArray) W8 q8).mono ?_
  rintro e W9 ⟨rfl, q9, g9⟩
  have z9 := g9.size
  have HD9 := Lib.hid (ah g9 HD8.out (by omega))
  have f9 := f8.call g9
  have hrW : W9.heap[w.heap.size]? = some (.cells (iP 0) 41 (0, 0)) := (f9.block _ (by omega) (by omega) (by omega)).trans HRz.out
  have HRW := Lib.hid hrW
  clear hrW
  have HE := Lib.hid (decl_eq HLI.out (body_none (x := 5) (d := .zero li) Hh1.out Hh2.out Hh3.out Hh4.out Hh5.out Hh6.out Hh7.out))
  go_wp2_with (first | (with_reducible refine eD _ rfl (.tmp 3) rfl Wa.heap.size rfl _ HD9.out rfl ?_) | ((with_reducible refine eU _ rfl rfl (.tmp 2) (.tmp 122) rfl w.heap.size _ rfl rfl _ HRW.out rfl rfl (by simp [Value.oneCell']) ?_); intro WR hbR hgR))
  refine lT rfl rfl rfl hbR rfl ?_
  rw [HE.out]
  have hfr : w.grownBy W9 (some b) := ⟨f9.os.trans hfz.os, f9.tape.trans hfz.tape, f9.output.trans hfz.output, Nat.le_trans hfz.size f9.size, fun k hk hne => (f9.block k (by omega) (fun e => hne (by rw [e])) (by omega)).trans (hfz.block k hk hne)⟩
  refine ⟨_, rfl, ?_, q9.other (below_grown hgR (Nat.le_refl _) (by omega)) hbs, aR hfr (below_grown hgR (Nat.le_refl _) (by omega)) (Nat.le_refl _)⟩
  exact Bo (aL.empty _ _ _ _) (Nat.le_refl _) (aT.empty _ _ _ _ _) (Nat.le_refl _) (gH _ _) (gH _ _) (gH _ _)

end Go.Proofs.YtbmglebipepdmaaGreatDoor
namespace Go.Proofs.YtbmglebipepdmaaGreatDoor
open Go.RowKit

attribute [local go_sem ↓] iC in
set_option maxRecDepth 100000 in
set_option maxHeartbeats 8000000 in
theorem rdecl_e {b : Nat} {A : Option Addr} {n c : Nat} {L : aW} {s : St} (hsy : lg L) (w : World) (h : RSt b A n c L s w) (hpp : s.pos < L.length) (h1 : isW L (⟨#[115, 105, 116, 101]⟩ : ByteArray) s = false) (h2 : isW L (⟨#[102, 97, 117, 108, 116, 115]⟩ : ByteArray) s = false) (h3 : isW L (⟨#[113, 117, 111, 114, 117, 109]⟩ : ByteArray) s = false) (h4 : isW L (⟨#[99, 111, 110, 102, 105, 103]⟩ : ByteArray) s = false) (h5 : isW L (⟨#[119, 105, 116, 110, 101, 115, 115]⟩ : ByteArray) s = true) :
  Calls Tryz.prog 43 #[.pointer (some ⟨b, 0, none⟩)] w (sw b A n c L w (jk L 5 s)) := by
 have hbs := h.lt
 have Hh1 := Lib.hid h1
 have Hh2 := Lib.hid h2
 have Hh3 := Lib.hid h3
 have Hh4 := Lib.hid h4
 have Hh5 := Lib.hid h5
 clear h1 h2 h3 h4 h5
 have HH := Lib.hid h
 have HSY := Lib.hid hsy
 clear h hsy
 go_enter Tryz.func43, Tryz.ntmps43
 go_upto_region 1 with fail
 obtain ⟨Wa, hWa⟩ : ∃ Wa : World, Wa = w.alloc (.cells (iP 0) 41) := ⟨_, rfl⟩
 have hba : Below w.heap.size w Wa := by rw [hWa]; exact (Below.refl _ _).alloc (Nat.le_refl _) _
 have hsa : w.heap.size < Wa.heap.size := by rw [hWa]; simp
 have hra : Wa.heap[w.heap.size]? = some (.cells (iP 0) 41 (0, 0)) := by rw [hWa]; exact heap_alloc_new w _
 rw [← hWa]
 have HRa := Lib.hid hra
 clear hWa hra
 have qa := HH.out.below hba
 obtain ⟨g, o, rfl, hS, hgs, hbs2, k0, k1, k2, k3, k4, i1, i2, i3⟩ := rd_facts qa hpp
 obtain ⟨c0, c1, c2, cf⟩ := sI qa.blk
 have hln : (fU L s.pos : Int) = ((L[s.pos]'hpp).2 : Int) := by unfold fU; rw [List.getElem?_eq_getElem hpp]; rfl
 generalize hli : ((L[s.pos]'hpp).2 : Int) = li at k4 hln
 have HLI := Lib.hid hln
 clear hli hln cf k0 k1 k2 k3 c2
 go_cut [3] (fun s3 wx => s3 = .pointer (some ⟨Wa.heap.size, 0, none⟩) ∧ wx.heap[Wa.heap.size]? = some (.cells (iP li) 41 (0, 0)) ∧ Below Wa.heap.size Wa wx ∧ Wa.heap.size < wx.heap.size)
 case first =>
  have hst := fun (c : Array Value) (hc : c.size = 22) => jg Wa c hc li
  go_region_law (fail)
  all_goals
   go_wp2_with fail
   go_meet
   exact ⟨rfl, heap_alloc_new Wa _, ((Below.refl _ _).alloc (Nat.le_refl _) _).drew, by simp⟩
 case rest =>
  obtain ⟨rfl, hDz, hbz, hsz⟩ := hcut
  obtain ⟨wz, rfl⟩ : ∃ wz : World, wz = wc := ⟨_, rfl⟩
  have HRz := Lib.hid ((hbz.block _ hsa).trans HRa.out)
  have q0 := qa.below hbz
  have f0 := jr.refl b Wa.heap.size wz
  have HD0 := Lib.hid hDz
  have z0 : wz.heap.size ≤ wz.heap.size := Nat.le_refl _
  have hfz : w.grownBy wz (some b) := aj (aH hba) (aH hbz)
  clear hDz c0 c1 k4
  go_wp2_with fail
  have ht := aD (⟨#[115, 105, 116, 101]⟩ : ByteArray) wz q0
  rw [Hh1.out, aB Hh1.out] at ht
  refine ht.mono ?_
  clear ht
  rintro e W1 ⟨rfl, q1, g1⟩
  have z1 := g1.size
  have HD1 := Lib.hid (ah g1 HD0.out (by omega))
  have f1 := f0.call g1
  go_wp2_with fail
  have ht := aD (⟨#[102, 97, 117, 108, 116, 115]⟩ : ByteArray) W1 q1
  rw [Hh2.out, aB Hh2.out] at ht
  refine ht.mono ?_
  clear ht
  rintro e W2 ⟨rfl, q2, g2⟩
  have z2 := g2.size
  have HD2 := Lib.hid (ah g2 HD1.out (by omega))
  have f2 := f1.call g2
  go_wp2_with fail
  have ht := aD (⟨#[113, 117, 111, 114, 117, 109]⟩ : ByteArray) W2 q2
  rw [Hh3.out, aB Hh3.out] at ht
  refine ht.mono ?_
  clear ht
  rintro e W3 ⟨rfl, q3, g3⟩
  have z3 := g3.size
  have HD3 := Lib.hid (ah g3 HD2.out (by omega))
  have f3 := f2.call g3
  go_wp2_with fail
  have ht := aD (⟨#[99, 111, 110, 102, 105, 103]⟩ : ByteArray) W3 q3
  rw [Hh4.out, aB Hh4.out] at ht
  refine ht.mono ?_
  clear ht
  rintro e W4 ⟨rfl, q4, g4⟩
  have z4 := g4.size
  have HD4 := Lib.hid (ah g4 HD3.out (by omega))
  have f4 := f3.call g4
  go_wp2_with fail
  have ht := aD (⟨#[119, 105, 116, 110, 101, 115, 115]⟩ : ByteArray) W4 q4
  rw [Hh5.out] at ht
  refine ht.mono ?_
  clear ht
  rintro e W5 ⟨rfl, q5, g5⟩
  have z5 := g5.size
  have HD5 := Lib.hid (ah g5 HD4.out (by omega))
  have f5 := f4.call g5
  go_wp2_with fail
  refine (DC W5 q5).mono ?_
  rintro e W6 ⟨v6, rfl, hown6, q6, g6⟩
  have z6 := g6.size
  have HD6 := Lib.hid (ah g6 HD5.out (by omega))
  have f6 := f5.call g6
  obtain ⟨nA, nc, rfl, hnc⟩ := aS hown6
  have hsn := (aL.own hown6).mono (S' := (wz.heap.size ≤ ·)) (fun g hg _ => by omega) (by decide)
  clear hown6
  generalize hns : (kS L (taken L (⟨#[119, 105, 116, 110, 101, 115, 115]⟩ : ByteArray) s)).1 = ns at *
  have HNS := Lib.hid hns
  clear hns
  obtain ⟨a0, -, -, a3, -, -, -, -, -, -, -, -, -, -, -, -, -, -, -, -, -, -, af⟩ := lC HD6.out
  have af0 := af 0
  have af3 := af 3
  clear af
  go_wp2_with fail
  obtain ⟨W7, hW7⟩ : ∃ W7 : World, W7 = ((W6.setCell ⟨Wa.heap.size, 0, none⟩ (.int .i64 5)).setCell ⟨Wa.heap.size, 3, none⟩ (.slice nA ns.length nc)) := ⟨_, rfl⟩
  have g7 : W6.grownBy W7 (some Wa.heap.size) := by rw [hW7]; exact aF (aF (aJ _ _) _ _) _ _
  have hD7 : W7.heap[Wa.heap.size]? = some (.cells #[.int .i64 5, .int .i64 li, .string ⟨#[]⟩, .slice nA ns.length nc, .slice none 0 0, .int .i64 0, .string ⟨#[]⟩, .int .i64 0, .slice none 0 0, .slice none 0 0, .string ⟨#[]⟩, .int .i64 0, .string ⟨#[]⟩, .int .i64 0, .slice none 0 0, .slice none 0 0, .int .i64 0, .string ⟨#[]⟩, .int .i64 0, .slice none 0 0, .slice none 0 0, .string ⟨#[]⟩] 41 (0, 0)) := by rw [hW7]; exact aQ (aQ (HD6.out) _) _
  have hs7 : W7.heap.size = W6.heap.size := by rw [hW7]; simp
  rw [← hW7]
  have z7 : W6.heap.size ≤ W7.heap.size := by omega
  have HZ7 := Lib.hid hs7
  have HD7 := Lib.hid hD7
  have q7 := q6.other (below_grown g7 (Nat.le_refl _) (by omega)) (by omega)
  have f7 := f6.set g7
  have hsn := hsn.keep ((ax g7).mono fun g hg => by omega)
  clear hW7 hD7 hs7 a0 af0 a3 af3
  refine (eB (⟨#[59]⟩ : ByteArray) W7 q7).mono ?_
  rintro e W8 ⟨rfl, q8, g8⟩
  have z8 := g8.size
  have HD8 := Lib.hid (ah g8 HD7.out (by omega))
  have f8 := f7.call g8
  have hsn := hsn.keep ((ax g8).mono fun g hg => by omega)
  have hrW : W8.heap[w.heap.size]? = some (.cells (iP 0) 41 (0, 0)) := (f8.block _ (by omega) (by omega) (by omega)).trans HRz.out
  have HRW := Lib.hid hrW
  clear hrW
  have HE := Lib.hid (decl_eq HLI.out (GR (x := 5) (d := .zero li) Hh1.out Hh2.out Hh3.out Hh4.out Hh5.out))
  go_wp2_with (first | (with_reducible refine eD _ rfl (.tmp 3) rfl Wa.heap.size rfl _ HD8.out rfl ?_) | ((with_reducible refine eU _ rfl rfl (.tmp 2) (.tmp 122) rfl w.heap.size _ rfl rfl _ HRW.out rfl rfl (by simp [Value.oneCell']) ?_); intro WR hbR hgR))
  refine lT rfl rfl rfl hbR rfl ?_
  rw [HE.out, HNS.out]
  have hfr : w.grownBy W8 (some b) := ⟨f8.os.trans hfz.os, f8.tape.trans hfz.tape, f8.output.trans hfz.output, Nat.le_trans hfz.size f8.size, fun k hk hne => (f8.block k (by omega) (fun e => hne (by rw [e])) (by omega)).trans (hfz.block k hk hne)⟩
  have hsn := (hsn.keep ((ax hgR).mono fun g hg => by omega)).mono (S' := (w.heap.size ≤ ·)) (fun g hg _ => by omega) (by decide)
  refine ⟨_, rfl, ?_, q8.other (below_grown hgR (Nat.le_refl _) (by omega)) hbs, aR hfr (below_grown hgR (Nat.le_refl _) (by omega)) (Nat.le_refl _)⟩
  exact Bo (hsn) (hnc) (aT.empty _ _ _ _ _) (Nat.le_refl _) (gH _ _) (gH _ _) (gH _ _)

attribute [local go_sem ↓] iC in
set_option maxRecDepth 100000 in
set_option maxHeartbeats 8000000 in
theorem rdecl_g {b : Nat} {A : Option Addr} {n c : Nat} {L : aW} {s : St} (hsy : lg L) (w : World) (h : RSt b A n c L s w) (hpp : s.pos < L.length) (h1 : isW L (⟨#[115, 105, 116, 101]⟩ : ByteArray) s = false) (h2 : isW L (⟨#[102, 97, 117, 108, 116, 115]⟩ : ByteArray) s = false) (h3 : isW L (⟨#[113, 117, 111, 114, 117, 109]⟩ : ByteArray) s = false) (h4 : isW L (⟨#[99, 111, 110, 102, 105, 103]⟩ : ByteArray) s = false) (h5 : isW L (⟨#[119, 105, 116, 110, 101, 115, 115]⟩ : ByteArray) s = false) (h6 : isW L (⟨#[99, 108, 105, 101, 110, 116]⟩ : ByteArray) s = false) (h7 : isW L (⟨#[99, 104, 97, 105, 110]⟩ : ByteArray) s = true) :
  Calls Tryz.prog 43 #[.pointer (some ⟨b, 0, none⟩)] w (sw b A n c L w (jk L 5 s)) := by
 have hbs := h.lt
 have Hh1 := Lib.hid h1
 have Hh2 := Lib.hid h2
 have Hh3 := Lib.hid h3
 have Hh4 := Lib.hid h4
 have Hh5 := Lib.hid h5
 have Hh6 := Lib.hid h6
 have Hh7 := Lib.hid h7
 clear h1 h2 h3 h4 h5 h6 h7
 have HH := Lib.hid h
 have HSY := Lib.hid hsy
 clear h hsy
 go_enter Tryz.func43, Tryz.ntmps43
 go_upto_region 1 with fail
 obtain ⟨Wa, hWa⟩ : ∃ Wa : World, Wa = w.alloc (.cells (iP 0) 41) := ⟨_, rfl⟩
 have hba : Below w.heap.size w Wa := by rw [hWa]; exact (Below.refl _ _).alloc (Nat.le_refl _) _
 have hsa : w.heap.size < Wa.heap.size := by rw [hWa]; simp
 have hra : Wa.heap[w.heap.size]? = some (.cells (iP 0) 41 (0, 0)) := by rw [hWa]; exact heap_alloc_new w _
 rw [← hWa]
 have HRa := Lib.hid hra
 clear hWa hra
 have qa := HH.out.below hba
 obtain ⟨g, o, rfl, hS, hgs, hbs2, k0, k1, k2, k3, k4, i1, i2, i3⟩ := rd_facts qa hpp
 obtain ⟨c0, c1, c2, cf⟩ := sI qa.blk
 have hln : (fU L s.pos : Int) = ((L[s.pos]'hpp).2 : Int) := by unfold fU; rw [List.getElem?_eq_getElem hpp]; rfl
 generalize hli : ((L[s.pos]'hpp).2 : Int) = li at k4 hln
 have HLI := Lib.hid hln
 clear hli hln cf k0 k1 k2 k3 c2
 go_cut [3] (fun s3 wx => s3 = .pointer (some ⟨Wa.heap.size, 0, none⟩) ∧ wx.heap[Wa.heap.size]? = some (.cells (iP li) 41 (0, 0)) ∧ Below Wa.heap.size Wa wx ∧ Wa.heap.size < wx.heap.size)
 case first =>
  have hst := fun (c : Array Value) (hc : c.size = 22) => jg Wa c hc li
  go_region_law (fail)
  all_goals
   go_wp2_with fail
   go_meet
   exact ⟨rfl, heap_alloc_new Wa _, ((Below.refl _ _).alloc (Nat.le_refl _) _).drew, by simp⟩
 case rest =>
  obtain ⟨rfl, hDz, hbz, hsz⟩ := hcut
  obtain ⟨wz, rfl⟩ : ∃ wz : World, wz = wc := ⟨_, rfl⟩
  have HRz := Lib.hid ((hbz.block _ hsa).trans HRa.out)
  have q0 := qa.below hbz
  have f0 := jr.refl b Wa.heap.size wz
  have HD0 := Lib.hid hDz
  have z0 : wz.heap.size ≤ wz.heap.size := Nat.le_refl _
  have hfz : w.grownBy wz (some b) := aj (aH hba) (aH hbz)
  clear hDz c0 c1 k4
  go_wp2_with fail
  have ht := aD (⟨#[115, 105, 116, 101]⟩ : ByteArray) wz q0
  rw [Hh1.out, aB Hh1.out] at ht
  refine ht.mono ?_
  clear ht
  rintro e W1 ⟨rfl, q1, g1⟩
  have z1 := g1.size
  have HD1 := Lib.hid (ah g1 HD0.out (by omega))
  have f1 := f0.call g1
  go_wp2_with fail
  have ht := aD (⟨#[102, 97, 117, 108, 116, 115]⟩ : ByteArray) W1 q1
  rw [Hh2.out, aB Hh2.out] at ht
  refine ht.mono ?_
  clear ht
  rintro e W2 ⟨rfl, q2, g2⟩
  have z2 := g2.size
  have HD2 := Lib.hid (ah g2 HD1.out (by omega))
  have f2 := f1.call g2
  go_wp2_with fail
  have ht := aD (⟨#[113, 117, 111, 114, 117, 109]⟩ : ByteArray) W2 q2
  rw [Hh3.out, aB Hh3.out] at ht
  refine ht.mono ?_
  clear ht
  rintro e W3 ⟨rfl, q3, g3⟩
  have z3 := g3.size
  have HD3 := Lib.hid (ah g3 HD2.out (by omega))
  have f3 := f2.call g3
  go_wp2_with fail
  have ht := aD (⟨#[99, 111, 110, 102, 105, 103]⟩ : ByteArray) W3 q3
  rw [Hh4.out, aB Hh4.out] at ht
  refine ht.mono ?_
  clear ht
  rintro e W4 ⟨rfl, q4, g4⟩
  have z4 := g4.size
  have HD4 := Lib.hid (ah g4 HD3.out (by omega))
  have f4 := f3.call g4
  go_wp2_with fail
  have ht := aD (⟨#[119, 105, 116, 110, 101, 115, 115]⟩ : ByteArray) W4 q4
  rw [Hh5.out, aB Hh5.out] at ht
  refine ht.mono ?_
  clear ht
  rintro e W5 ⟨rfl, q5, g5⟩
  have z5 := g5.size
  have HD5 := Lib.hid (ah g5 HD4.out (by omega))
  have f5 := f4.call g5
  go_wp2_with fail
  have ht := aD (⟨#[99, 108, 105, 101, 110, 116]⟩ : ByteArray) W5 q5
  rw [Hh6.out, aB Hh6.out] at ht
  refine ht.mono ?_
  clear ht
  rintro e W6 ⟨rfl, q6, g6⟩
  have z6 := g6.size
  have HD6 := Lib.hid (ah g6 HD5.out (by omega))
  have f6 := f5.call g6
  go_wp2_with fail
  have ht := aD (⟨#[99, 104, 97, 105, 110]⟩ : ByteArray) W6 q6
  rw [Hh7.out] at ht
  refine ht.mono ?_
  clear ht
  rintro e W7 ⟨rfl, q7, g7⟩
  have z7 := g7.size
  have HD7 := Lib.hid (ah g7 HD6.out (by omega))
  have f7 := f6.call g7
  go_wp2_with fail
  refine (DC W7 q7).mono ?_
  rintro e W8 ⟨v8, rfl, mO, q8, g8⟩
  have z8 := g8.size
  have HD8 := Lib.hid (ah g8 HD7.out (by omega))
  have f8 := f7.call g8
  obtain ⟨nA, nc, rfl, hnc⟩ := aS mO
  have hsn := (aL.own mO).mono (S' := (wz.heap.size ≤ ·)) (fun g hg _ => by omega) (by decide)
  clear mO
  generalize hns : (kS L (taken L (⟨#[99, 104, 97, 105, 110]⟩ : ByteArray) s)).1 = ns at *
  have HNS := Lib.hid hns
  clear hns
  obtain ⟨a0, -, -, a3, -, -, -, -, -, -, -, -, -, -, -, -, -, -, -, -, -, -, af⟩ := lC HD8.out
  have af0 := af 0
  have af3 := af 3
  clear af
  go_wp2_with fail
  obtain ⟨W9, hW9⟩ : ∃ W9 : World, W9 = ((W8.setCell ⟨Wa.heap.size, 0, none⟩ (.int .i64 7)).setCell ⟨Wa.heap.size, 3, none⟩ (.slice nA ns.length nc)) := ⟨_, rfl⟩
  have g9 : W8.grownBy W9 (some Wa.heap.size) := by rw [hW9]; exact aF (aF (aJ _ _) _ _) _ _
  have hD9 : W9.heap[Wa.heap.size]? = some (.cells #[.int .i64 7, .int .i64 li, .string ⟨#[]⟩, .slice nA ns.length nc, .slice none 0 0, .int .i64 0, .string ⟨#[]⟩, .int .i64 0, .slice none 0 0, .slice none 0 0, .string ⟨#[]⟩, .int .i64 0, .string ⟨#[]⟩, .int .i64 0, .slice none 0 0, .slice none 0 0, .int .i64 0, .string ⟨#[]⟩, .int .i64 0, .slice none 0 0, .slice none 0 0, .string ⟨#[]⟩] 41 (0, 0)) := by rw [hW9]; exact aQ (aQ (HD8.out) _) _
  have hs9 : W9.heap.size = W8.heap.size := by rw [hW9]; simp
  rw [← hW9]
  have z9 : W8.heap.size ≤ W9.heap.size := by omega
  have HZ9 := Lib.hid hs9
  have HD9 := Lib.hid hD9
  have q9 := q8.other (below_grown g9 (Nat.le_refl _) (by omega)) (by omega)
  have f9 := f8.set g9
  have hsn := hsn.keep ((ax g9).mono fun g hg => by omega)
  clear hW9 hD9 hs9 a0 af0 a3 af3
  refine (eB (⟨#[59]⟩ : ByteArray) W9 q9).mono ?_
  rintro e W10 ⟨rfl, q10, g10⟩
  have z10 := g10.size
  have HD10 := Lib.hid (ah g10 HD9.out (by omega))
  have f10 := f9.call g10
  have hsn := hsn.keep ((ax g10).mono fun g hg => by omega)
  have hrW : W10.heap[w.heap.size]? = some (.cells (iP 0) 41 (0, 0)) := (f10.block _ (by omega) (by omega) (by omega)).trans HRz.out
  have HRW := Lib.hid hrW
  clear hrW
  have HE := Lib.hid (decl_eq HLI.out (MV (x := 5) (d := .zero li) Hh1.out Hh2.out Hh3.out Hh4.out Hh5.out Hh6.out Hh7.out))
  go_wp2_with (first | (with_reducible refine eD _ rfl (.tmp 3) rfl Wa.heap.size rfl _ HD10.out rfl ?_) | ((with_reducible refine eU _ rfl rfl (.tmp 2) (.tmp 122) rfl w.heap.size _ rfl rfl _ HRW.out rfl rfl (by simp [Value.oneCell']) ?_); intro WR hbR hgR))
  refine lT rfl rfl rfl hbR rfl ?_
  rw [HE.out, HNS.out]
  have hfr : w.grownBy W10 (some b) := ⟨f10.os.trans hfz.os, f10.tape.trans hfz.tape, f10.output.trans hfz.output, Nat.le_trans hfz.size f10.size, fun k hk hne => (f10.block k (by omega) (fun e => hne (by rw [e])) (by omega)).trans (hfz.block k hk hne)⟩
  have hsn := (hsn.keep ((ax hgR).mono fun g hg => by omega)).mono (S' := (w.heap.size ≤ ·)) (fun g hg _ => by omega) (by decide)
  refine ⟨_, rfl, ?_, q10.other (below_grown hgR (Nat.le_refl _) (by omega)) hbs, aR hfr (below_grown hgR (Nat.le_refl _) (by omega)) (Nat.le_refl _)⟩
  exact Bo (hsn) (hnc) (aT.empty _ _ _ _ _) (Nat.le_refl _) (gH _ _) (gH _ _) (gH _ _)

attribute [local go_sem ↓] iC in
set_option maxRecDepth 100000 in
set_option maxHeartbeats 8000000 in
theorem rdecl_a {b : Nat} {A : Option Addr} {n c : Nat} {L : aW} {s : St} (hsy : lg L) (w : World) (h : RSt b A n c L s w) (hpp : s.pos < L.length) (h1 : isW L (⟨#[115, 105, 116, 101]⟩ : ByteArray) s = true) :
  Calls Tryz.prog 43 #[.pointer (some ⟨b, 0, none⟩)] w (sw b A n c L w (jk L 5 s)) := by
 have hbs := h.lt
 have Hh1 := Lib.hid h1
 clear h1
 have HH := Lib.hid h
 have HSY := Lib.hid hsy
 clear h hsy
 go_enter Tryz.func43, Tryz.ntmps43
 go_upto_region 1 with fail
 obtain ⟨Wa, hWa⟩ : ∃ Wa : World, Wa = w.alloc (.cells (iP 0) 41) := ⟨_, rfl⟩
 have hba : Below w.heap.size w Wa := by rw [hWa]; exact (Below.refl _ _).alloc (Nat.le_refl _) _
 have hsa : w.heap.size < Wa.heap.size := by rw [hWa]; simp
 have hra : Wa.heap[w.heap.size]? = some (.cells (iP 0) 41 (0, 0)) := by rw [hWa]; exact heap_alloc_new w _
 rw [← hWa]
 have HRa := Lib.hid hra
 clear hWa hra
 have qa := HH.out.below hba
 obtain ⟨g, o, rfl, hS, hgs, hbs2, k0, k1, k2, k3, k4, i1, i2, i3⟩ := rd_facts qa hpp
 obtain ⟨c0, c1, c2, cf⟩ := sI qa.blk
 have hln : (fU L s.pos : Int) = ((L[s.pos]'hpp).2 : Int) := by unfold fU; rw [List.getElem?_eq_getElem hpp]; rfl
 generalize hli : ((L[s.pos]'hpp).2 : Int) = li at k4 hln
 have HLI := Lib.hid hln
 clear hli hln cf k0 k1 k2 k3 c2
 go_cut [3] (fun s3 wx => s3 = .pointer (some ⟨Wa.heap.size, 0, none⟩) ∧ wx.heap[Wa.heap.size]? = some (.cells (iP li) 41 (0, 0)) ∧ Below Wa.heap.size Wa wx ∧ Wa.heap.size < wx.heap.size)
 case first =>
  have hst := fun (c : Array Value) (hc : c.size = 22) => jg Wa c hc li
  go_region_law (fail)
  all_goals
   go_wp2_with fail
   go_meet
   exact ⟨rfl, heap_alloc_new Wa _, ((Below.refl _ _).alloc (Nat.le_refl _) _).drew, by simp⟩
 case rest =>
  obtain ⟨rfl, hDz, hbz, hsz⟩ := hcut
  obtain ⟨wz, rfl⟩ : ∃ wz : World, wz = wc := ⟨_, rfl⟩
  have HRz := Lib.hid ((hbz.block _ hsa).trans HRa.out)
  have q0 := qa.below hbz
  have f0 := jr.refl b Wa.heap.size wz
  have HD0 := Lib.hid hDz
  have z0 : wz.heap.size ≤ wz.heap.size := Nat.le_refl _
  have hfz : w.grownBy wz (some b) := aj (aH hba) (aH hbz)
  clear hDz c0 c1 k4
  go_wp2_with fail
  have ht := aD (⟨#[115, 105, 116, 101]⟩ : ByteArray) wz q0
  rw [Hh1.out] at ht
  refine ht.mono ?_
  clear ht
  rintro e W1 ⟨rfl, q1, g1⟩
  have z1 := g1.size
  have HD1 := Lib.hid (ah g1 HD0.out (by omega))
  have f1 := f0.call g1
  go_wp2_with fail
  refine (ja W1 q1).mono ?_
  rintro e W2 ⟨rfl, q2, g2⟩
  have z2 := g2.size
  have HD2 := Lib.hid (ah g2 HD1.out (by omega))
  have f2 := f1.call g2
  generalize hN2 : (bD L (taken L (⟨#[115, 105, 116, 101]⟩ : ByteArray) s)).1 = nm at *
  have HN2 := Lib.hid hN2
  clear hN2
  obtain ⟨a0, -, a2, -, -, -, -, -, -, -, -, -, -, -, -, -, -, -, -, -, -, -, af⟩ := lC HD2.out
  have af0 := af 0
  have af2 := af 2
  clear af
  go_wp2_with fail
  obtain ⟨W3, hW3⟩ : ∃ W3 : World, W3 = ((W2.setCell ⟨Wa.heap.size, 0, none⟩ (.int .i64 1)).setCell ⟨Wa.heap.size, 2, none⟩ (.string nm)) := ⟨_, rfl⟩
  have g3 : W2.grownBy W3 (some Wa.heap.size) := by rw [hW3]; exact aF (aF (aJ _ _) _ _) _ _
  have hD3 : W3.heap[Wa.heap.size]? = some (.cells #[.int .i64 1, .int .i64 li, .string nm, .slice none 0 0, .slice none 0 0, .int .i64 0, .string ⟨#[]⟩, .int .i64 0, .slice none 0 0, .slice none 0 0, .string ⟨#[]⟩, .int .i64 0, .string ⟨#[]⟩, .int .i64 0, .slice none 0 0, .slice none 0 0, .int .i64 0, .string ⟨#[]⟩, .int .i64 0, .slice none 0 0, .slice none 0 0, .string ⟨#[]⟩] 41 (0, 0)) := by rw [hW3]; exact aQ (aQ (HD2.out) _) _
  have hs3 : W3.heap.size = W2.heap.size := by rw [hW3]; simp
  rw [← hW3]
  have z3 : W2.heap.size ≤ W3.heap.size := by omega
  have HZ3 := Lib.hid hs3
  have HD3 := Lib.hid hD3
  have q3 := q2.other (below_grown g3 (Nat.le_refl _) (by omega)) (by omega)
  have f3 := f2.set g3
  clear hW3 hD3 hs3 a0 af0 a2 af2
  refine (su W3 q3).mono ?_
  rintro e W4 ⟨v4, rfl, ic, q4, g4⟩
  have z4 := g4.size
  have HD4 := Lib.hid (ah g4 HD3.out (by omega))
  have f4 := f3.call g4
  obtain ⟨nA, nc, rfl, hnc⟩ := aS ic
  have hsn := (aL.own ic).mono (S' := (wz.heap.size ≤ ·)) (fun g hg _ => by omega) (by decide)
  clear ic
  generalize hns : (bS L (bD L (taken L (⟨#[115, 105, 116, 101]⟩ : ByteArray) s)).2).1 = ns at *
  have HNS := Lib.hid hns
  clear hns
  obtain ⟨-, -, -, a3, -, -, -, -, -, -, -, -, -, -, -, -, -, -, -, -, -, -, af⟩ := lC HD4.out
  have af3 := af 3
  clear af
  go_wp2_with fail
  obtain ⟨W5, hW5⟩ : ∃ W5 : World, W5 = (W4.setCell ⟨Wa.heap.size, 3, none⟩ (.slice nA ns.length nc)) := ⟨_, rfl⟩
  have g5 : W4.grownBy W5 (some Wa.heap.size) := by rw [hW5]; exact aF (aJ _ _) _ _
  have hD5 : W5.heap[Wa.heap.size]? = some (.cells #[.int .i64 1, .int .i64 li, .string nm, .slice nA ns.length nc, .slice none 0 0, .int .i64 0, .string ⟨#[]⟩, .int .i64 0, .slice none 0 0, .slice none 0 0, .string ⟨#[]⟩, .int .i64 0, .string ⟨#[]⟩, .int .i64 0, .slice none 0 0, .slice none 0 0, .int .i64 0, .string ⟨#[]⟩, .int .i64 0, .slice none 0 0, .slice none 0 0, .string ⟨#[]⟩] 41 (0, 0)) := by rw [hW5]; exact aQ (HD4.out) _
  have hs5 : W5.heap.size = W4.heap.size := by rw [hW5]; simp
  rw [← hW5]
  have z5 : W4.heap.size ≤ W5.heap.size := by omega
  have HZ5 := Lib.hid hs5
  have HD5 := Lib.hid hD5
  have q5 := q4.other (below_grown g5 (Nat.le_refl _) (by omega)) (by omega)
  have f5 := f4.set g5
  have hsn := hsn.keep ((ax g5).mono fun g hg => by omega)
  clear hW5 hD5 hs5 a3 af3
  refine (eB (⟨#[59]⟩ : ByteArray) W5 q5).mono ?_
  rintro e W6 ⟨rfl, q6, g6⟩
  have z6 := g6.size
  have HD6 := Lib.hid (ah g6 HD5.out (by omega))
  have f6 := f5.call g6
  have hsn := hsn.keep ((ax g6).mono fun g hg => by omega)
  have hrW : W6.heap[w.heap.size]? = some (.cells (iP 0) 41 (0, 0)) := (f6.block _ (by omega) (by omega) (by omega)).trans HRz.out
  have HRW := Lib.hid hrW
  clear hrW
  have HE := Lib.hid (decl_eq HLI.out (body_site (x := 5) (d := .zero li) Hh1.out))
  go_wp2_with (first | (with_reducible refine eD _ rfl (.tmp 3) rfl Wa.heap.size rfl _ HD6.out rfl ?_) | ((with_reducible refine eU _ rfl rfl (.tmp 2) (.tmp 122) rfl w.heap.size _ rfl rfl _ HRW.out rfl rfl (by simp [Value.oneCell']) ?_); intro WR hbR hgR))
  refine lT rfl rfl rfl hbR rfl ?_
  rw [HE.out]
  unfold pSite
  rw [HNS.out, HN2.out]
  have hfr : w.grownBy W6 (some b) := ⟨f6.os.trans hfz.os, f6.tape.trans hfz.tape, f6.output.trans hfz.output, Nat.le_trans hfz.size f6.size, fun k hk hne => (f6.block k (by omega) (fun e => hne (by rw [e])) (by omega)).trans (hfz.block k hk hne)⟩
  have hsn := (hsn.keep ((ax hgR).mono fun g hg => by omega)).mono (S' := (w.heap.size ≤ ·)) (fun g hg _ => by omega) (by decide)
  refine ⟨_, rfl, ?_, q6.other (below_grown hgR (Nat.le_refl _) (by omega)) hbs, aR hfr (below_grown hgR (Nat.le_refl _) (by omega)) (Nat.le_refl _)⟩
  exact Bo (hsn) (hnc) (aT.empty _ _ _ _ _) (Nat.le_refl _) (gH _ _) (gH _ _) (gH _ _)

end Go.Proofs.YtbmglebipepdmaaGreatDoor
namespace Go.Proofs.YtbmglebipepdmaaGreatDoor
open Go.RowKit

attribute [local go_sem ↓] iC in
set_option maxRecDepth 100000 in
set_option maxHeartbeats 8000000 in
theorem rdecl_c {b : Nat} {A : Option Addr} {n c : Nat} {L : aW} {s : St} (hsy : lg L) (w : World) (h : RSt b A n c L s w) (hpp : s.pos < L.length) (h1 : isW L (⟨#[115, 105, 116, 101]⟩ : ByteArray) s = false) (h2 : isW L (⟨#[102, 97, 117, 108, 116, 115]⟩ : ByteArray) s = false) (h3 : isW L (⟨#[113, 117, 111, 114, 117, 109]⟩ : ByteArray) s = true) :
  Calls Tryz.prog 43 #[.pointer (some ⟨b, 0, none⟩)] w (sw b A n c L w (jk L 5 s)) := by
 have hbs := h.lt
 have Hh1 := Lib.hid h1
 have Hh2 := Lib.hid h2
 have Hh3 := Lib.hid h3
 clear h1 h2 h3
 have HH := Lib.hid h
 have HSY := Lib.hid hsy
 clear h hsy
 go_enter Tryz.func43, Tryz.ntmps43
 go_upto_region 1 with fail
 obtain ⟨Wa, hWa⟩ : ∃ Wa : World, Wa = w.alloc (.cells (iP 0) 41) := ⟨_, rfl⟩
 have hba : Below w.heap.size w Wa := by rw [hWa]; exact (Below.refl _ _).alloc (Nat.le_refl _) _
 have hsa : w.heap.size < Wa.heap.size := by rw [hWa]; simp
 have hra : Wa.heap[w.heap.size]? = some (.cells (iP 0) 41 (0, 0)) := by rw [hWa]; exact heap_alloc_new w _
 rw [← hWa]
 have HRa := Lib.hid hra
 clear hWa hra
 have qa := HH.out.below hba
 obtain ⟨g, o, rfl, hS, hgs, hbs2, k0, k1, k2, k3, k4, i1, i2, i3⟩ := rd_facts qa hpp
 obtain ⟨c0, c1, c2, cf⟩ := sI qa.blk
 have hln : (fU L s.pos : Int) = ((L[s.pos]'hpp).2 : Int) := by unfold fU; rw [List.getElem?_eq_getElem hpp]; rfl
 generalize hli : ((L[s.pos]'hpp).2 : Int) = li at k4 hln
 have HLI := Lib.hid hln
 clear hli hln cf k0 k1 k2 k3 c2
 go_cut [3] (fun s3 wx => s3 = .pointer (some ⟨Wa.heap.size, 0, none⟩) ∧ wx.heap[Wa.heap.size]? = some (.cells (iP li) 41 (0, 0)) ∧ Below Wa.heap.size Wa wx ∧ Wa.heap.size < wx.heap.size)
 case first =>
  have hst := fun (c : Array Value) (hc : c.size = 22) => jg Wa c hc li
  go_region_law (fail)
  all_goals
   go_wp2_with fail
   go_meet
   exact ⟨rfl, heap_alloc_new Wa _, ((Below.refl _ _).alloc (Nat.le_refl _) _).drew, by simp⟩
 case rest =>
  obtain ⟨rfl, hDz, hbz, hsz⟩ := hcut
  obtain ⟨wz, rfl⟩ : ∃ wz : World, wz = wc := ⟨_, rfl⟩
  have HRz := Lib.hid ((hbz.block _ hsa).trans HRa.out)
  have q0 := qa.below hbz
  have f0 := jr.refl b Wa.heap.size wz
  have HD0 := Lib.hid hDz
  have z0 : wz.heap.size ≤ wz.heap.size := Nat.le_refl _
  have hfz : w.grownBy wz (some b) := aj (aH hba) (aH hbz)
  clear hDz c0 c1 k4
  go_wp2_with fail
  have ht := aD (⟨#[115, 105, 116, 101]⟩ : ByteArray) wz q0
  rw [Hh1.out, aB Hh1.out] at ht
  refine ht.mono ?_
  clear ht
  rintro e W1 ⟨rfl, q1, g1⟩
  have z1 := g1.size
  have HD1 := Lib.hid (ah g1 HD0.out (by omega))
  have f1 := f0.call g1
  go_wp2_with fail
  have ht := aD (⟨#[102, 97, 117, 108, 116, 115]⟩ : ByteArray) W1 q1
  rw [Hh2.out, aB Hh2.out] at ht
  refine ht.mono ?_
  clear ht
  rintro e W2 ⟨rfl, q2, g2⟩
  have z2 := g2.size
  have HD2 := Lib.hid (ah g2 HD1.out (by omega))
  have f2 := f1.call g2
  go_wp2_with fail
  have ht := aD (⟨#[113, 117, 111, 114, 117, 109]⟩ : ByteArray) W2 q2
  rw [Hh3.out] at ht
  refine ht.mono ?_
  clear ht
  rintro e W3 ⟨rfl, q3, g3⟩
  have z3 := g3.size
  have HD3 := Lib.hid (ah g3 HD2.out (by omega))
  have f3 := f2.call g3
  go_wp2_with fail
  refine (ja W3 q3).mono ?_
  rintro e W4 ⟨rfl, q4, g4⟩
  have z4 := g4.size
  have HD4 := Lib.hid (ah g4 HD3.out (by omega))
  have f4 := f3.call g4
  generalize hN4 : (bD L (taken L (⟨#[113, 117, 111, 114, 117, 109]⟩ : ByteArray) s)).1 = nm at *
  have HN4 := Lib.hid hN4
  clear hN4
  obtain ⟨a0, -, a2, -, -, -, -, -, -, -, -, -, -, -, -, -, -, -, -, -, -, -, af⟩ := lC HD4.out
  have af0 := af 0
  have af2 := af 2
  clear af
  go_wp2_with fail
  obtain ⟨W5, hW5⟩ : ∃ W5 : World, W5 = ((W4.setCell ⟨Wa.heap.size, 0, none⟩ (.int .i64 3)).setCell ⟨Wa.heap.size, 2, none⟩ (.string nm)) := ⟨_, rfl⟩
  have g5 : W4.grownBy W5 (some Wa.heap.size) := by rw [hW5]; exact aF (aF (aJ _ _) _ _) _ _
  have hD5 : W5.heap[Wa.heap.size]? = some (.cells #[.int .i64 3, .int .i64 li, .string nm, .slice none 0 0, .slice none 0 0, .int .i64 0, .string ⟨#[]⟩, .int .i64 0, .slice none 0 0, .slice none 0 0, .string ⟨#[]⟩, .int .i64 0, .string ⟨#[]⟩, .int .i64 0, .slice none 0 0, .slice none 0 0, .int .i64 0, .string ⟨#[]⟩, .int .i64 0, .slice none 0 0, .slice none 0 0, .string ⟨#[]⟩] 41 (0, 0)) := by rw [hW5]; exact aQ (aQ (HD4.out) _) _
  have hs5 : W5.heap.size = W4.heap.size := by rw [hW5]; simp
  rw [← hW5]
  have z5 : W4.heap.size ≤ W5.heap.size := by omega
  have HZ5 := Lib.hid hs5
  have HD5 := Lib.hid hD5
  have q5 := q4.other (below_grown g5 (Nat.le_refl _) (by omega)) (by omega)
  have f5 := f4.set g5
  clear hW5 hD5 hs5 a0 af0 a2 af2
  refine (eB (⟨#[61]⟩ : ByteArray) W5 q5).mono ?_
  rintro e W6 ⟨rfl, q6, g6⟩
  have z6 := g6.size
  have HD6 := Lib.hid (ah g6 HD5.out (by omega))
  have f6 := f5.call g6
  go_wp2_with fail
  refine (ze HSY.out W6 q6).mono ?_
  rintro e W7 ⟨o1, m1, d1, wA1, wn1, wc1, kA1, kn1, kc1, rfl, htm1, q7, g7⟩
  have z7 := g7.size
  have HD7 := Lib.hid (ah g7 HD6.out (by omega))
  have f7 := f6.call g7
  have htm1 := htm1.mono (S' := (wz.heap.size ≤ ·)) (fun g hg _ => by omega)
  obtain ⟨-, -, -, -, -, a5, a6, a7, a8, a9, -, -, -, -, -, -, -, -, -, -, -, -, af⟩ := lC HD7.out
  have af5 := af 5
  have af6 := af 6
  have af7 := af 7
  have af8 := af 8
  have af9 := af 9
  clear af
  go_wp2_with fail
  obtain ⟨W8, hW8⟩ : ∃ W8 : World, W8 = (((((W7.setCell ⟨Wa.heap.size, 5, none⟩ (.int .i64 o1)).setCell ⟨Wa.heap.size, 6, none⟩ (.string m1)).setCell ⟨Wa.heap.size, 7, none⟩ (.int .i64 d1)).setCell ⟨Wa.heap.size, 8, none⟩ (.slice wA1 wn1 wc1)).setCell ⟨Wa.heap.size, 9, none⟩ (.slice kA1 kn1 kc1)) := ⟨_, rfl⟩
  have g8 : W7.grownBy W8 (some Wa.heap.size) := by rw [hW8]; exact aF (aF (aF (aF (aF (aJ _ _) _ _) _ _) _ _) _ _) _ _
  have hD8 : W8.heap[Wa.heap.size]? = some (.cells #[.int .i64 3, .int .i64 li, .string nm, .slice none 0 0, .slice none 0 0, .int .i64 o1, .string m1, .int .i64 d1, .slice wA1 wn1 wc1, .slice kA1 kn1 kc1, .string ⟨#[]⟩, .int .i64 0, .string ⟨#[]⟩, .int .i64 0, .slice none 0 0, .slice none 0 0, .int .i64 0, .string ⟨#[]⟩, .int .i64 0, .slice none 0 0, .slice none 0 0, .string ⟨#[]⟩] 41 (0, 0)) := by rw [hW8]; exact aQ (aQ (aQ (aQ (aQ (HD7.out) _) _) _) _) _
  have hs8 : W8.heap.size = W7.heap.size := by rw [hW8]; simp
  rw [← hW8]
  have z8 : W7.heap.size ≤ W8.heap.size := by omega
  have HZ8 := Lib.hid hs8
  have HD8 := Lib.hid hD8
  have q8 := q7.other (below_grown g8 (Nat.le_refl _) (by omega)) (by omega)
  have f8 := f7.set g8
  have htm1 := htm1.keep ((ax g8).mono fun g hg => by omega)
  clear hW8 hD8 hs8 a5 af5 a6 af6 a7 af7 a8 af8 a9 af9
  refine (eB (⟨#[59]⟩ : ByteArray) W8 q8).mono ?_
  rintro e W9 ⟨rfl, q9, g9⟩
  have z9 := g9.size
  have HD9 := Lib.hid (ah g9 HD8.out (by omega))
  have f9 := f8.call g9
  have htm1 := htm1.keep ((ax g9).mono fun g hg => by omega)
  have hrW : W9.heap[w.heap.size]? = some (.cells (iP 0) 41 (0, 0)) := (f9.block _ (by omega) (by omega) (by omega)).trans HRz.out
  have HRW := Lib.hid hrW
  clear hrW
  have HE := Lib.hid (decl_eq HLI.out (Jr (x := 5) (d := .zero li) Hh1.out Hh2.out Hh3.out))
  go_wp2_with (first | (with_reducible refine eD _ rfl (.tmp 3) rfl Wa.heap.size rfl _ HD9.out rfl ?_) | ((with_reducible refine eU _ rfl rfl (.tmp 2) (.tmp 122) rfl w.heap.size _ rfl rfl _ HRW.out rfl rfl (by simp [Value.oneCell']) ?_); intro WR hbR hgR))
  refine lT rfl rfl rfl hbR rfl ?_
  rw [HE.out]
  unfold Dx
  rw [HN4.out]
  have hfr : w.grownBy W9 (some b) := ⟨f9.os.trans hfz.os, f9.tape.trans hfz.tape, f9.output.trans hfz.output, Nat.le_trans hfz.size f9.size, fun k hk hne => (f9.block k (by omega) (fun e => hne (by rw [e])) (by omega)).trans (hfz.block k hk hne)⟩
  have htm1 := (htm1.keep ((ax hgR).mono fun g hg => by omega)).mono (S' := (w.heap.size ≤ ·)) (fun g hg _ => by omega)
  refine ⟨_, rfl, ?_, q9.other (below_grown hgR (Nat.le_refl _) (by omega)) hbs, aR hfr (below_grown hgR (Nat.le_refl _) (by omega)) (Nat.le_refl _)⟩
  exact Bo (aL.empty _ _ _ _) (Nat.le_refl _) (aT.empty _ _ _ _ _) (Nat.le_refl _) (htm1) (gH _ _) (gH _ _)

attribute [local go_sem ↓] iC in
set_option maxRecDepth 100000 in
set_option maxHeartbeats 8000000 in
theorem rdecl_d {b : Nat} {A : Option Addr} {n c : Nat} {L : aW} {s : St} (hsy : lg L) (w : World) (h : RSt b A n c L s w) (hpp : s.pos < L.length) (h1 : isW L (⟨#[115, 105, 116, 101]⟩ : ByteArray) s = false) (h2 : isW L (⟨#[102, 97, 117, 108, 116, 115]⟩ : ByteArray) s = false) (h3 : isW L (⟨#[113, 117, 111, 114, 117, 109]⟩ : ByteArray) s = false) (h4 : isW L (⟨#[99, 111, 110, 102, 105, 103]⟩ : ByteArray) s = true) (hc : isW L (⟨#[99, 114, 97, 115, 104]⟩ : ByteArray) (bD L (taken L (⟨#[99, 111, 110, 102, 105, 103]⟩ : ByteArray) s)).2 = true) :
  Calls Tryz.prog 43 #[.pointer (some ⟨b, 0, none⟩)] w (sw b A n c L w (jk L 5 s)) := by
 have hbs := h.lt
 have Hh1 := Lib.hid h1
 have Hh2 := Lib.hid h2
 have Hh3 := Lib.hid h3
 have Hh4 := Lib.hid h4
 have Hhc := Lib.hid hc
 clear h1 h2 h3 h4 hc
 have HH := Lib.hid h
 have HSY := Lib.hid hsy
 clear h hsy
 go_enter Tryz.func43, Tryz.ntmps43
 go_upto_region 1 with fail
 obtain ⟨Wa, hWa⟩ : ∃ Wa : World, Wa = w.alloc (.cells (iP 0) 41) := ⟨_, rfl⟩
 have hba : Below w.heap.size w Wa := by rw [hWa]; exact (Below.refl _ _).alloc (Nat.le_refl _) _
 have hsa : w.heap.size < Wa.heap.size := by rw [hWa]; simp
 have hra : Wa.heap[w.heap.size]? = some (.cells (iP 0) 41 (0, 0)) := by rw [hWa]; exact heap_alloc_new w _
 rw [← hWa]
 have HRa := Lib.hid hra
 clear hWa hra
 have qa := HH.out.below hba
 obtain ⟨g, o, rfl, hS, hgs, hbs2, k0, k1, k2, k3, k4, i1, i2, i3⟩ := rd_facts qa hpp
 obtain ⟨c0, c1, c2, cf⟩ := sI qa.blk
 have hln : (fU L s.pos : Int) = ((L[s.pos]'hpp).2 : Int) := by unfold fU; rw [List.getElem?_eq_getElem hpp]; rfl
 generalize hli : ((L[s.pos]'hpp).2 : Int) = li at k4 hln
 have HLI := Lib.hid hln
 clear hli hln cf k0 k1 k2 k3 c2
 go_cut [3] (fun s3 wx => s3 = .pointer (some ⟨Wa.heap.size, 0, none⟩) ∧ wx.heap[Wa.heap.size]? = some (.cells (iP li) 41 (0, 0)) ∧ Below Wa.heap.size Wa wx ∧ Wa.heap.size < wx.heap.size)
 case first =>
  have hst := fun (c : Array Value) (hc : c.size = 22) => jg Wa c hc li
  go_region_law (fail)
  all_goals
   go_wp2_with fail
   go_meet
   exact ⟨rfl, heap_alloc_new Wa _, ((Below.refl _ _).alloc (Nat.le_refl _) _).drew, by simp⟩
 case rest =>
  obtain ⟨rfl, hDz, hbz, hsz⟩ := hcut
  obtain ⟨wz, rfl⟩ : ∃ wz : World, wz = wc := ⟨_, rfl⟩
  have HRz := Lib.hid ((hbz.block _ hsa).trans HRa.out)
  have q0 := qa.below hbz
  have f0 := jr.refl b Wa.heap.size wz
  have HD0 := Lib.hid hDz
  have z0 : wz.heap.size ≤ wz.heap.size := Nat.le_refl _
  have hfz : w.grownBy wz (some b) := aj (aH hba) (aH hbz)
  clear hDz c0 c1 k4
  go_wp2_with fail
  have ht := aD (⟨#[115, 105, 116, 101]⟩ : ByteArray) wz q0
  rw [Hh1.out, aB Hh1.out] at ht
  refine ht.mono ?_
  clear ht
  rintro e W1 ⟨rfl, q1, g1⟩
  have z1 := g1.size
  have HD1 := Lib.hid (ah g1 HD0.out (by omega))
  have f1 := f0.call g1
  go_wp2_with fail
  have ht := aD (⟨#[102, 97, 117, 108, 116, 115]⟩ : ByteArray) W1 q1
  rw [Hh2.out, aB Hh2.out] at ht
  refine ht.mono ?_
  clear ht
  rintro e W2 ⟨rfl, q2, g2⟩
  have z2 := g2.size
  have HD2 := Lib.hid (ah g2 HD1.out (by omega))
  have f2 := f1.call g2
  go_wp2_with fail
  have ht := aD (⟨#[113, 117, 111, 114, 117, 109]⟩ : ByteArray) W2 q2
  rw [Hh3.out, aB Hh3.out] at ht
  refine ht.mono ?_
  clear ht
  rintro e W3 ⟨rfl, q3, g3⟩
  have z3 := g3.size
  have HD3 := Lib.hid (ah g3 HD2.out (by omega))
  have f3 := f2.call g3
  go_wp2_with fail
  have ht := aD (⟨#[99, 111, 110, 102, 105, 103]⟩ : ByteArray) W3 q3
  rw [Hh4.out] at ht
  refine ht.mono ?_
  clear ht
  rintro e W4 ⟨rfl, q4, g4⟩
  have z4 := g4.size
  have HD4 := Lib.hid (ah g4 HD3.out (by omega))
  have f4 := f3.call g4
  go_wp2_with fail
  refine (ja W4 q4).mono ?_
  rintro e W5 ⟨rfl, q5, g5⟩
  have z5 := g5.size
  have HD5 := Lib.hid (ah g5 HD4.out (by omega))
  have f5 := f4.call g5
  generalize hN5 : (bD L (taken L (⟨#[99, 111, 110, 102, 105, 103]⟩ : ByteArray) s)).1 = nm at *
  have HN5 := Lib.hid hN5
  clear hN5
  obtain ⟨a0, -, a2, -, -, -, -, -, -, -, a10, -, -, -, -, -, -, -, -, -, -, -, af⟩ := lC HD5.out
  have af0 := af 0
  have af2 := af 2
  have af10 := af 10
  clear af
  go_wp2_with fail
  obtain ⟨W6, hW6⟩ : ∃ W6 : World, W6 = (((W5.setCell ⟨Wa.heap.size, 0, none⟩ (.int .i64 4)).setCell ⟨Wa.heap.size, 2, none⟩ (.string nm)).setCell ⟨Wa.heap.size, 10, none⟩ (.string (⟨#[99, 114, 97, 115, 104]⟩ : ByteArray))) := ⟨_, rfl⟩
  have g6 : W5.grownBy W6 (some Wa.heap.size) := by rw [hW6]; exact aF (aF (aF (aJ _ _) _ _) _ _) _ _
  have hD6 : W6.heap[Wa.heap.size]? = some (.cells #[.int .i64 4, .int .i64 li, .string nm, .slice none 0 0, .slice none 0 0, .int .i64 0, .string ⟨#[]⟩, .int .i64 0, .slice none 0 0, .slice none 0 0, .string (⟨#[99, 114, 97, 115, 104]⟩ : ByteArray), .int .i64 0, .string ⟨#[]⟩, .int .i64 0, .slice none 0 0, .slice none 0 0, .int .i64 0, .string ⟨#[]⟩, .int .i64 0, .slice none 0 0, .slice none 0 0, .string ⟨#[]⟩] 41 (0, 0)) := by rw [hW6]; exact aQ (aQ (aQ (HD5.out) _) _) _
  have hs6 : W6.heap.size = W5.heap.size := by rw [hW6]; simp
  rw [← hW6]
  have z6 : W5.heap.size ≤ W6.heap.size := by omega
  have HZ6 := Lib.hid hs6
  have HD6 := Lib.hid hD6
  have q6 := q5.other (below_grown g6 (Nat.le_refl _) (by omega)) (by omega)
  have f6 := f5.set g6
  clear hW6 hD6 hs6 a0 af0 a2 af2 a10 af10
  have ht := aD (⟨#[99, 114, 97, 115, 104]⟩ : ByteArray) W6 q6
  rw [Hhc.out] at ht
  refine ht.mono ?_
  clear ht
  rintro e W7 ⟨rfl, q7, g7⟩
  have z7 := g7.size
  have HD7 := Lib.hid (ah g7 HD6.out (by omega))
  have f7 := f6.call g7
  go_wp2_with fail
  refine (eB (⟨#[114, 101, 97, 100]⟩ : ByteArray) W7 q7).mono ?_
  rintro e W8 ⟨rfl, q8, g8⟩
  have z8 := g8.size
  have HD8 := Lib.hid (ah g8 HD7.out (by omega))
  have f8 := f7.call g8
  go_wp2_with fail
  refine (ze HSY.out W8 q8).mono ?_
  rintro e W9 ⟨o2, m2, d2, wA2, wn2, wc2, kA2, kn2, kc2, rfl, om, q9, g9⟩
  have z9 := g9.size
  have HD9 := Lib.hid (ah g9 HD8.out (by omega))
  have f9 := f8.call g9
  have om := om.mono (S' := (wz.heap.size ≤ ·)) (fun g hg _ => by omega)
  obtain ⟨-, -, -, -, -, -, -, -, -, -, -, a11, a12, a13, a14, a15, -, -, -, -, -, -, af⟩ := lC HD9.out
  have af11 := af 11
  have af12 := af 12
  have af13 := af 13
  have af14 := af 14
  have af15 := af 15
  clear af
  go_wp2_with fail
  obtain ⟨W10, hW10⟩ : ∃ W10 : World, W10 = (((((W9.setCell ⟨Wa.heap.size, 11, none⟩ (.int .i64 o2)).setCell ⟨Wa.heap.size, 12, none⟩ (.string m2)).setCell ⟨Wa.heap.size, 13, none⟩ (.int .i64 d2)).setCell ⟨Wa.heap.size, 14, none⟩ (.slice wA2 wn2 wc2)).setCell ⟨Wa.heap.size, 15, none⟩ (.slice kA2 kn2 kc2)) := ⟨_, rfl⟩
  have g10 : W9.grownBy W10 (some Wa.heap.size) := by rw [hW10]; exact aF (aF (aF (aF (aF (aJ _ _) _ _) _ _) _ _) _ _) _ _
  have hD10 : W10.heap[Wa.heap.size]? = some (.cells #[.int .i64 4, .int .i64 li, .string nm, .slice none 0 0, .slice none 0 0, .int .i64 0, .string ⟨#[]⟩, .int .i64 0, .slice none 0 0, .slice none 0 0, .string (⟨#[99, 114, 97, 115, 104]⟩ : ByteArray), .int .i64 o2, .string m2, .int .i64 d2, .slice wA2 wn2 wc2, .slice kA2 kn2 kc2, .int .i64 0, .string ⟨#[]⟩, .int .i64 0, .slice none 0 0, .slice none 0 0, .string ⟨#[]⟩] 41 (0, 0)) := by rw [hW10]; exact aQ (aQ (aQ (aQ (aQ (HD9.out) _) _) _) _) _
  have hs10 : W10.heap.size = W9.heap.size := by rw [hW10]; simp
  rw [← hW10]
  have z10 : W9.heap.size ≤ W10.heap.size := by omega
  have HZ10 := Lib.hid hs10
  have HD10 := Lib.hid hD10
  have q10 := q9.other (below_grown g10 (Nat.le_refl _) (by omega)) (by omega)
  have f10 := f9.set g10
  have om := om.keep ((ax g10).mono fun g hg => by omega)
  clear hW10 hD10 hs10 a11 af11 a12 af12 a13 af13 a14 af14 a15 af15
  refine (eB (⟨#[119, 114, 105, 116, 101]⟩ : ByteArray) W10 q10).mono ?_
  rintro e W11 ⟨rfl, q11, g11⟩
  have z11 := g11.size
  have HD11 := Lib.hid (ah g11 HD10.out (by omega))
  have f11 := f10.call g11
  have om := om.keep ((ax g11).mono fun g hg => by omega)
  go_wp2_with fail
  refine (ze HSY.out W11 q11).mono ?_
  rintro e W12 ⟨o3, m3, d3, wA3, wn3, wc3, kA3, kn3, kc3, rfl, qZ, q12, g12⟩
  have z12 := g12.size
  have HD12 := Lib.hid (ah g12 HD11.out (by omega))
  have f12 := f11.call g12
  have om := om.keep ((ax g12).mono fun g hg => by omega)
  have qZ := qZ.mono (S' := (wz.heap.size ≤ ·)) (fun g hg _ => by omega)
  obtain ⟨-, -, -, -, -, -, -, -, -, -, -, -, -, -, -, -, a16, a17, a18, a19, a20, -, af⟩ := lC HD12.out
  have af16 := af 16
  have af17 := af 17
  have af18 := af 18
  have af19 := af 19
  have af20 := af 20
  clear af
  go_wp2_with fail
  obtain ⟨W13, hW13⟩ : ∃ W13 : World, W13 = (((((W12.setCell ⟨Wa.heap.size, 16, none⟩ (.int .i64 o3)).setCell ⟨Wa.heap.size, 17, none⟩ (.string m3)).setCell ⟨Wa.heap.size, 18, none⟩ (.int .i64 d3)).setCell ⟨Wa.heap.size, 19, none⟩ (.slice wA3 wn3 wc3)).setCell ⟨Wa.heap.size, 20, none⟩ (.slice kA3 kn3 kc3)) := ⟨_, rfl⟩
  have g13 : W12.grownBy W13 (some Wa.heap.size) := by rw [hW13]; exact aF (aF (aF (aF (aF (aJ _ _) _ _) _ _) _ _) _ _) _ _
  have hD13 : W13.heap[Wa.heap.size]? = some (.cells #[.int .i64 4, .int .i64 li, .string nm, .slice none 0 0, .slice none 0 0, .int .i64 0, .string ⟨#[]⟩, .int .i64 0, .slice none 0 0, .slice none 0 0, .string (⟨#[99, 114, 97, 115, 104]⟩ : ByteArray), .int .i64 o2, .string m2, .int .i64 d2, .slice wA2 wn2 wc2, .slice kA2 kn2 kc2, .int .i64 o3, .string m3, .int .i64 d3, .slice wA3 wn3 wc3, .slice kA3 kn3 kc3, .string ⟨#[]⟩] 41 (0, 0)) := by rw [hW13]; exact aQ (aQ (aQ (aQ (aQ (HD12.out) _) _) _) _) _
  have hs13 : W13.heap.size = W12.heap.size := by rw [hW13]; simp
  rw [← hW13]
  have z13 : W12.heap.size ≤ W13.heap.size := by omega
  have HZ13 := Lib.hid hs13
  have HD13 := Lib.hid hD13
  have q13 := q12.other (below_grown g13 (Nat.le_refl _) (by omega)) (by omega)
  have f13 := f12.set g13
  have om := om.keep ((ax g13).mono fun g hg => by omega)
  have qZ := qZ.keep ((ax g13).mono fun g hg => by omega)
  clear hW13 hD13 hs13 a16 af16 a17 af17 a18 af18 a19 af19 a20 af20
  refine (eB (⟨#[102, 97, 117, 108, 116, 115]⟩ : ByteArray) W13 q13).mono ?_
  rintro e W14 ⟨rfl, q14, g14⟩
  have z14 := g14.size
  have HD14 := Lib.hid (ah g14 HD13.out (by omega))
  have f14 := f13.call g14
  have om := om.keep ((ax g14).mono fun g hg => by omega)
  have qZ := qZ.keep ((ax g14).mono fun g hg => by omega)
  go_wp2_with fail
  refine (ja W14 q14).mono ?_
  rintro e W15 ⟨rfl, q15, g15⟩
  have z15 := g15.size
  have HD15 := Lib.hid (ah g15 HD14.out (by omega))
  have f15 := f14.call g15
  have om := om.keep ((ax g15).mono fun g hg => by omega)
  have qZ := qZ.keep ((ax g15).mono fun g hg => by omega)
  generalize hN15 : (bD L (need L (⟨#[102, 97, 117, 108, 116, 115]⟩ : ByteArray) (jc L (need L (⟨#[119, 114, 105, 116, 101]⟩ : ByteArray) (jc L (need L (⟨#[114, 101, 97, 100]⟩ : ByteArray) (taken L (⟨#[99, 114, 97, 115, 104]⟩ : ByteArray) (bD L (taken L (⟨#[99, 111, 110, 102, 105, 103]⟩ : ByteArray) s)).2))).2)).2)).1 = us at *
  have HN15 := Lib.hid hN15
  clear hN15
  obtain ⟨-, -, -, -, -, -, -, -, -, -, -, -, -, -, -, -, -, -, -, -, -, a21, af⟩ := lC HD15.out
  have af21 := af 21
  clear af
  go_wp2_with fail
  obtain ⟨W16, hW16⟩ : ∃ W16 : World, W16 = (W15.setCell ⟨Wa.heap.size, 21, none⟩ (.string us)) := ⟨_, rfl⟩
  have g16 : W15.grownBy W16 (some Wa.heap.size) := by rw [hW16]; exact aF (aJ _ _) _ _
  have hD16 : W16.heap[Wa.heap.size]? = some (.cells #[.int .i64 4, .int .i64 li, .string nm, .slice none 0 0, .slice none 0 0, .int .i64 0, .string ⟨#[]⟩, .int .i64 0, .slice none 0 0, .slice none 0 0, .string (⟨#[99, 114, 97, 115, 104]⟩ : ByteArray), .int .i64 o2, .string m2, .int .i64 d2, .slice wA2 wn2 wc2, .slice kA2 kn2 kc2, .int .i64 o3, .string m3, .int .i64 d3, .slice wA3 wn3 wc3, .slice kA3 kn3 kc3, .string us] 41 (0, 0)) := by rw [hW16]; exact aQ (HD15.out) _
  have hs16 : W16.heap.size = W15.heap.size := by rw [hW16]; simp
  rw [← hW16]
  have z16 : W15.heap.size ≤ W16.heap.size := by omega
  have HZ16 := Lib.hid hs16
  have HD16 := Lib.hid hD16
  have q16 := q15.other (below_grown g16 (Nat.le_refl _) (by omega)) (by omega)
  have f16 := f15.set g16
  have om := om.keep ((ax g16).mono fun g hg => by omega)
  have qZ := qZ.keep ((ax g16).mono fun g hg => by omega)
  clear hW16 hD16 hs16 a21 af21
  refine (eB (⟨#[59]⟩ : ByteArray) W16 q16).mono ?_
  rintro e W17 ⟨rfl, q17, g17⟩
  have z17 := g17.size
  have HD17 := Lib.hid (ah g17 HD16.out (by omega))
  have f17 := f16.call g17
  have om := om.keep ((ax g17).mono fun g hg => by omega)
  have qZ := qZ.keep ((ax g17).mono fun g hg => by omega)
  have hrW : W17.heap[w.heap.size]? = some (.cells (iP 0) 41 (0, 0)) := (f17.block _ (by omega) (by omega) (by omega)).trans HRz.out
  have HRW := Lib.hid hrW
  clear hrW
  have HE := Lib.hid (decl_eq HLI.out (AL (x := 5) (d := .zero li) Hh1.out Hh2.out Hh3.out Hh4.out))
  go_wp2_with (first | (with_reducible refine eD _ rfl (.tmp 3) rfl Wa.heap.size rfl _ HD17.out rfl ?_) | ((with_reducible refine eU _ rfl rfl (.tmp 2) (.tmp 122) rfl w.heap.size _ rfl rfl _ HRW.out rfl rfl (by simp [Value.oneCell']) ?_); intro WR hbR hgR))
  refine lT rfl rfl rfl hbR rfl ?_
  rw [HE.out]
  have hcf : uD L (Dc.zero li) (taken L (⟨#[99, 111, 110, 102, 105, 103]⟩ : ByteArray) s) = ({ Dc.zero li with kind := 4, name := nm, proto := (⟨#[99, 114, 97, 115, 104]⟩ : ByteArray), read := (jc L (need L (⟨#[114, 101, 97, 100]⟩ : ByteArray) (taken L (⟨#[99, 114, 97, 115, 104]⟩ : ByteArray) (bD L (taken L (⟨#[99, 111, 110, 102, 105, 103]⟩ : ByteArray) s)).2))).1, write := (jc L (need L (⟨#[119, 114, 105, 116, 101]⟩ : ByteArray) (jc L (need L (⟨#[114, 101, 97, 100]⟩ : ByteArray) (taken L (⟨#[99, 114, 97, 115, 104]⟩ : ByteArray) (bD L (taken L (⟨#[99, 111, 110, 102, 105, 103]⟩ : ByteArray) s)).2))).2)).1, use := us }, (bD L (need L (⟨#[102, 97, 117, 108, 116, 115]⟩ : ByteArray) (jc L (need L (⟨#[119, 114, 105, 116, 101]⟩ : ByteArray) (jc L (need L (⟨#[114, 101, 97, 100]⟩ : ByteArray) (taken L (⟨#[99, 114, 97, 115, 104]⟩ : ByteArray) (bD L (taken L (⟨#[99, 111, 110, 102, 105, 103]⟩ : ByteArray) s)).2))).2)).2)).2) := by
   unfold uD
   rw [cfg_crash Hhc.out, HN5.out, HN15.out]
  rw [hcf]
  have hfr : w.grownBy W17 (some b) := ⟨f17.os.trans hfz.os, f17.tape.trans hfz.tape, f17.output.trans hfz.output, Nat.le_trans hfz.size f17.size, fun k hk hne => (f17.block k (by omega) (fun e => hne (by rw [e])) (by omega)).trans (hfz.block k hk hne)⟩
  have om := (om.keep ((ax hgR).mono fun g hg => by omega)).mono (S' := (w.heap.size ≤ ·)) (fun g hg _ => by omega)
  have qZ := (qZ.keep ((ax hgR).mono fun g hg => by omega)).mono (S' := (w.heap.size ≤ ·)) (fun g hg _ => by omega)
  refine ⟨_, rfl, ?_, q17.other (below_grown hgR (Nat.le_refl _) (by omega)) hbs, aR hfr (below_grown hgR (Nat.le_refl _) (by omega)) (Nat.le_refl _)⟩
  exact Bo (aL.empty _ _ _ _) (Nat.le_refl _) (aT.empty _ _ _ _ _) (Nat.le_refl _) (gH _ _) (om) (qZ)

attribute [local go_sem ↓] iC in
set_option maxRecDepth 100000 in
set_option maxHeartbeats 8000000 in
theorem rdecl_j {b : Nat} {A : Option Addr} {n c : Nat} {L : aW} {s : St} (hsy : lg L) (w : World) (h : RSt b A n c L s w) (hpp : s.pos < L.length) (h1 : isW L (⟨#[115, 105, 116, 101]⟩ : ByteArray) s = false) (h2 : isW L (⟨#[102, 97, 117, 108, 116, 115]⟩ : ByteArray) s = false) (h3 : isW L (⟨#[113, 117, 111, 114, 117, 109]⟩ : ByteArray) s = false) (h4 : isW L (⟨#[99, 111, 110, 102, 105, 103]⟩ : ByteArray) s = true) (hc : isW L (⟨#[99, 114, 97, 115, 104]⟩ : ByteArray) (bD L (taken L (⟨#[99, 111, 110, 102, 105, 103]⟩ : ByteArray) s)).2 = false) :
  Calls Tryz.prog 43 #[.pointer (some ⟨b, 0, none⟩)] w (sw b A n c L w (jk L 5 s)) := by
 have hbs := h.lt
 have Hh1 := Lib.hid h1
 have Hh2 := Lib.hid h2
 have Hh3 := Lib.hid h3
 have Hh4 := Lib.hid h4
 have Hhc := Lib.hid hc
 clear h1 h2 h3 h4 hc
 have HH := Lib.hid h
 have HSY := Lib.hid hsy
 clear h hsy
 go_enter Tryz.func43, Tryz.ntmps43
 go_upto_region 1 with fail
 obtain ⟨Wa, hWa⟩ : ∃ Wa : World, Wa = w.alloc (.cells (iP 0) 41) := ⟨_, rfl⟩
 have hba : Below w.heap.size w Wa := by rw [hWa]; exact (Below.refl _ _).alloc (Nat.le_refl _) _
 have hsa : w.heap.size < Wa.heap.size := by rw [hWa]; simp
 have hra : Wa.heap[w.heap.size]? = some (.cells (iP 0) 41 (0, 0)) := by rw [hWa]; exact heap_alloc_new w _
 rw [← hWa]
 have HRa := Lib.hid hra
 clear hWa hra
 have qa := HH.out.below hba
 obtain ⟨g, o, rfl, hS, hgs, hbs2, k0, k1, k2, k3, k4, i1, i2, i3⟩ := rd_facts qa hpp
 obtain ⟨c0, c1, c2, cf⟩ := sI qa.blk
 have hln : (fU L s.pos : Int) = ((L[s.pos]'hpp).2 : Int) := by unfold fU; rw [List.getElem?_eq_getElem hpp]; rfl
 generalize hli : ((L[s.pos]'hpp).2 : Int) = li at k4 hln
 have HLI := Lib.hid hln
 clear hli hln cf k0 k1 k2 k3 c2
 go_cut [3] (fun s3 wx => s3 = .pointer (some ⟨Wa.heap.size, 0, none⟩) ∧ wx.heap[Wa.heap.size]? = some (.cells (iP li) 41 (0, 0)) ∧ Below Wa.heap.size Wa wx ∧ Wa.heap.size < wx.heap.size)
 case first =>
  have hst := fun (c : Array Value) (hc : c.size = 22) => jg Wa c hc li
  go_region_law (fail)
  all_goals
   go_wp2_with fail
   go_meet
   exact ⟨rfl, heap_alloc_new Wa _, ((Below.refl _ _).alloc (Nat.le_refl _) _).drew, by simp⟩
 case rest =>
  obtain ⟨rfl, hDz, hbz, hsz⟩ := hcut
  obtain ⟨wz, rfl⟩ : ∃ wz : World, wz = wc := ⟨_, rfl⟩
  have HRz := Lib.hid ((hbz.block _ hsa).trans HRa.out)
  have q0 := qa.below hbz
  have f0 := jr.refl b Wa.heap.size wz
  have HD0 := Lib.hid hDz
  have z0 : wz.heap.size ≤ wz.heap.size := Nat.le_refl _
  have hfz : w.grownBy wz (some b) := aj (aH hba) (aH hbz)
  clear hDz c0 c1 k4
  go_wp2_with fail
  have ht := aD (⟨#[115, 105, 116, 101]⟩ : ByteArray) wz q0
  rw [Hh1.out, aB Hh1.out] at ht
  refine ht.mono ?_
  clear ht
  rintro e W1 ⟨rfl, q1, g1⟩
  have z1 := g1.size
  have HD1 := Lib.hid (ah g1 HD0.out (by omega))
  have f1 := f0.call g1
  go_wp2_with fail
  have ht := aD (⟨#[102, 97, 117, 108, 116, 115]⟩ : ByteArray) W1 q1
  rw [Hh2.out, aB Hh2.out] at ht
  refine ht.mono ?_
  clear ht
  rintro e W2 ⟨rfl, q2, g2⟩
  have z2 := g2.size
  have HD2 := Lib.hid (ah g2 HD1.out (by omega))
  have f2 := f1.call g2
  go_wp2_with fail
  have ht := aD (⟨#[113, 117, 111, 114, 117, 109]⟩ : ByteArray) W2 q2
  rw [Hh3.out, aB Hh3.out] at ht
  refine ht.mono ?_
  clear ht
  rintro e W3 ⟨rfl, q3, g3⟩
  have z3 := g3.size
  have HD3 := Lib.hid (ah g3 HD2.out (by omega))
  have f3 := f2.call g3
  go_wp2_with fail
  have ht := aD (⟨#[99, 111, 110, 102, 105, 103]⟩ : ByteArray) W3 q3
  rw [Hh4.out] at ht
  refine ht.mono ?_
  clear ht
  rintro e W4 ⟨rfl, q4, g4⟩
  have z4 := g4.size
  have HD4 := Lib.hid (ah g4 HD3.out (by omega))
  have f4 := f3.call g4
  go_wp2_with fail
  refine (ja W4 q4).mono ?_
  rintro e W5 ⟨rfl, q5, g5⟩
  have z5 := g5.size
  have HD5 := Lib.hid (ah g5 HD4.out (by omega))
  have f5 := f4.call g5
  generalize hN5 : (bD L (taken L (⟨#[99, 111, 110, 102, 105, 103]⟩ : ByteArray) s)).1 = nm at *
  have HN5 := Lib.hid hN5
  clear hN5
  obtain ⟨a0, -, a2, -, -, -, -, -, -, -, a10, -, -, -, -, -, -, -, -, -, -, -, af⟩ := lC HD5.out
  have af0 := af 0
  have af2 := af 2
  have af10 := af 10
  clear af
  go_wp2_with fail
  obtain ⟨W6, hW6⟩ : ∃ W6 : World, W6 = (((W5.setCell ⟨Wa.heap.size, 0, none⟩ (.int .i64 4)).setCell ⟨Wa.heap.size, 2, none⟩ (.string nm)).setCell ⟨Wa.heap.size, 10, none⟩ (.string (⟨#[99, 114, 97, 115, 104]⟩ : ByteArray))) := ⟨_, rfl⟩
  have g6 : W5.grownBy W6 (some Wa.heap.size) := by rw [hW6]; exact aF (aF (aF (aJ _ _) _ _) _ _) _ _
  have hD6 : W6.heap[Wa.heap.size]? = some (.cells #[.int .i64 4, .int .i64 li, .string nm, .slice none 0 0, .slice none 0 0, .int .i64 0, .string ⟨#[]⟩, .int .i64 0, .slice none 0 0, .slice none 0 0, .string (⟨#[99, 114, 97, 115, 104]⟩ : ByteArray), .int .i64 0, .string ⟨#[]⟩, .int .i64 0, .slice none 0 0, .slice none 0 0, .int .i64 0, .string ⟨#[]⟩, .int .i64 0, .slice none 0 0, .slice none 0 0, .string ⟨#[]⟩] 41 (0, 0)) := by rw [hW6]; exact aQ (aQ (aQ (HD5.out) _) _) _
  have hs6 : W6.heap.size = W5.heap.size := by rw [hW6]; simp
  rw [← hW6]
  have z6 : W5.heap.size ≤ W6.heap.size := by omega
  have HZ6 := Lib.hid hs6
  have HD6 := Lib.hid hD6
  have q6 := q5.other (below_grown g6 (Nat.le_refl _) (by omega)) (by omega)
  have f6 := f5.set g6
  clear hW6 hD6 hs6 a0 af0 a2 af2 a10 af10
  have ht := aD (⟨#[99, 114, 97, 115, 104]⟩ : ByteArray) W6 q6
  rw [Hhc.out, aB Hhc.out] at ht
  refine ht.mono ?_
  clear ht
  rintro e W7 ⟨rfl, q7, g7⟩
  have z7 := g7.size
  have HD7 := Lib.hid (ah g7 HD6.out (by omega))
  have f7 := f6.call g7
  go_wp2_with fail
  refine (eB (⟨#[98, 121, 122, 97, 110, 116, 105, 110, 101]⟩ : ByteArray) W7 q7).mono ?_
  rintro e W8 ⟨rfl, q8, g8⟩
  have z8 := g8.size
  have HD8 := Lib.hid (ah g8 HD7.out (by omega))
  have f8 := f7.call g8
  obtain ⟨-, -, -, -, -, -, -, -, -, -, a10, -, -, -, -, -, -, -, -, -, -, -, af⟩ := lC HD8.out
  have af10 := af 10
  clear af
  go_wp2_with fail
  obtain ⟨W9, hW9⟩ : ∃ W9 : World, W9 = (W8.setCell ⟨Wa.heap.size, 10, none⟩ (.string (⟨#[98, 121, 122, 97, 110, 116, 105, 110, 101]⟩ : ByteArray))) := ⟨_, rfl⟩
  have g9 : W8.grownBy W9 (some Wa.heap.size) := by rw [hW9]; exact aF (aJ _ _) _ _
  have hD9 : W9.heap[Wa.heap.size]? = some (.cells #[.int .i64 4, .int .i64 li, .string nm, .slice none 0 0, .slice none 0 0, .int .i64 0, .string ⟨#[]⟩, .int .i64 0, .slice none 0 0, .slice none 0 0, .string (⟨#[98, 121, 122, 97, 110, 116, 105, 110, 101]⟩ : ByteArray), .int .i64 0, .string ⟨#[]⟩, .int .i64 0, .slice none 0 0, .slice none 0 0, .int .i64 0, .string ⟨#[]⟩, .int .i64 0, .slice none 0 0, .slice none 0 0, .string ⟨#[]⟩] 41 (0, 0)) := by rw [hW9]; exact aQ (HD8.out) _
  have hs9 : W9.heap.size = W8.heap.size := by rw [hW9]; simp
  rw [← hW9]
  have z9 : W8.heap.size ≤ W9.heap.size := by omega
  have HZ9 := Lib.hid hs9
  have HD9 := Lib.hid hD9
  have q9 := q8.other (below_grown g9 (Nat.le_refl _) (by omega)) (by omega)
  have f9 := f8.set g9
  clear hW9 hD9 hs9 a10 af10
  refine (eB (⟨#[114, 101, 97, 100]⟩ : ByteArray) W9 q9).mono ?_
  rintro e W10 ⟨rfl, q10, g10⟩
  have z10 := g10.size
  have HD10 := Lib.hid (ah g10 HD9.out (by omega))
  have f10 := f9.call g10
  go_wp2_with fail
  refine (ze HSY.out W10 q10).mono ?_
  rintro e W11 ⟨o2, m2, d2, wA2, wn2, wc2, kA2, kn2, kc2, rfl, om, q11, g11⟩
  have z11 := g11.size
  have HD11 := Lib.hid (ah g11 HD10.out (by omega))
  have f11 := f10.call g11
  have om := om.mono (S' := (wz.heap.size ≤ ·)) (fun g hg _ => by omega)
  obtain ⟨-, -, -, -, -, -, -, -, -, -, -, a11, a12, a13, a14, a15, -, -, -, -, -, -, af⟩ := lC HD11.out
  have af11 := af 11
  have af12 := af 12
  have af13 := af 13
  have af14 := af 14
  have af15 := af 15
  clear af
  go_wp2_with fail
  obtain ⟨W12, hW12⟩ : ∃ W12 : World, W12 = (((((W11.setCell ⟨Wa.heap.size, 11, none⟩ (.int .i64 o2)).setCell ⟨Wa.heap.size, 12, none⟩ (.string m2)).setCell ⟨Wa.heap.size, 13, none⟩ (.int .i64 d2)).setCell ⟨Wa.heap.size, 14, none⟩ (.slice wA2 wn2 wc2)).setCell ⟨Wa.heap.size, 15, none⟩ (.slice kA2 kn2 kc2)) := ⟨_, rfl⟩
  have g12 : W11.grownBy W12 (some Wa.heap.size) := by rw [hW12]; exact aF (aF (aF (aF (aF (aJ _ _) _ _) _ _) _ _) _ _) _ _
  have hD12 : W12.heap[Wa.heap.size]? = some (.cells #[.int .i64 4, .int .i64 li, .string nm, .slice none 0 0, .slice none 0 0, .int .i64 0, .string ⟨#[]⟩, .int .i64 0, .slice none 0 0, .slice none 0 0, .string (⟨#[98, 121, 122, 97, 110, 116, 105, 110, 101]⟩ : ByteArray), .int .i64 o2, .string m2, .int .i64 d2, .slice wA2 wn2 wc2, .slice kA2 kn2 kc2, .int .i64 0, .string ⟨#[]⟩, .int .i64 0, .slice none 0 0, .slice none 0 0, .string ⟨#[]⟩] 41 (0, 0)) := by rw [hW12]; exact aQ (aQ (aQ (aQ (aQ (HD11.out) _) _) _) _) _
  have hs12 : W12.heap.size = W11.heap.size := by rw [hW12]; simp
  rw [← hW12]
  have z12 : W11.heap.size ≤ W12.heap.size := by omega
  have HZ12 := Lib.hid hs12
  have HD12 := Lib.hid hD12
  have q12 := q11.other (below_grown g12 (Nat.le_refl _) (by omega)) (by omega)
  have f12 := f11.set g12
  have om := om.keep ((ax g12).mono fun g hg => by omega)
  clear hW12 hD12 hs12 a11 af11 a12 af12 a13 af13 a14 af14 a15 af15
  refine (eB (⟨#[119, 114, 105, 116, 101]⟩ : ByteArray) W12 q12).mono ?_
  rintro e W13 ⟨rfl, q13, g13⟩
  have z13 := g13.size
  have HD13 := Lib.hid (ah g13 HD12.out (by omega))
  have f13 := f12.call g13
  have om := om.keep ((ax g13).mono fun g hg => by omega)
  go_wp2_with fail
  refine (ze HSY.out W13 q13).mono ?_
  rintro e W14 ⟨o3, m3, d3, wA3, wn3, wc3, kA3, kn3, kc3, rfl, qZ, q14, g14⟩
  have z14 := g14.size
  have HD14 := Lib.hid (ah g14 HD13.out (by omega))
  have f14 := f13.call g14
  have om := om.keep ((ax g14).mono fun g hg => by omega)
  have qZ := qZ.mono (S' := (wz.heap.size ≤ ·)) (fun g hg _ => by omega)
  obtain ⟨-, -, -, -, -, -, -, -, -, -, -, -, -, -, -, -, a16, a17, a18, a19, a20, -, af⟩ := lC HD14.out
  have af16 := af 16
  have af17 := af 17
  have af18 := af 18
  have af19 := af 19
  have af20 := af 20
  clear af
  go_wp2_with fail
  obtain ⟨W15, hW15⟩ : ∃ W15 : World, W15 = (((((W14.setCell ⟨Wa.heap.size, 16, none⟩ (.int .i64 o3)).setCell ⟨Wa.heap.size, 17, none⟩ (.string m3)).setCell ⟨Wa.heap.size, 18, none⟩ (.int .i64 d3)).setCell ⟨Wa.heap.size, 19, none⟩ (.slice wA3 wn3 wc3)).setCell ⟨Wa.heap.size, 20, none⟩ (.slice kA3 kn3 kc3)) := ⟨_, rfl⟩
  have g15 : W14.grownBy W15 (some Wa.heap.size) := by rw [hW15]; exact aF (aF (aF (aF (aF (aJ _ _) _ _) _ _) _ _) _ _) _ _
  have hD15 : W15.heap[Wa.heap.size]? = some (.cells #[.int .i64 4, .int .i64 li, .string nm, .slice none 0 0, .slice none 0 0, .int .i64 0, .string ⟨#[]⟩, .int .i64 0, .slice none 0 0, .slice none 0 0, .string (⟨#[98, 121, 122, 97, 110, 116, 105, 110, 101]⟩ : ByteArray), .int .i64 o2, .string m2, .int .i64 d2, .slice wA2 wn2 wc2, .slice kA2 kn2 kc2, .int .i64 o3, .string m3, .int .i64 d3, .slice wA3 wn3 wc3, .slice kA3 kn3 kc3, .string ⟨#[]⟩] 41 (0, 0)) := by rw [hW15]; exact aQ (aQ (aQ (aQ (aQ (HD14.out) _) _) _) _) _
  have hs15 : W15.heap.size = W14.heap.size := by rw [hW15]; simp
  rw [← hW15]
  have z15 : W14.heap.size ≤ W15.heap.size := by omega
  have HZ15 := Lib.hid hs15
  have HD15 := Lib.hid hD15
  have q15 := q14.other (below_grown g15 (Nat.le_refl _) (by omega)) (by omega)
  have f15 := f14.set g15
  have om := om.keep ((ax g15).mono fun g hg => by omega)
  have qZ := qZ.keep ((ax g15).mono fun g hg => by omega)
  clear hW15 hD15 hs15 a16 af16 a17 af17 a18 af18 a19 af19 a20 af20
  refine (eB (⟨#[102, 97, 117, 108, 116, 115]⟩ : ByteArray) W15 q15).mono ?_
  rintro e W16 ⟨rfl, q16, g16⟩
  have z16 := g16.size
  have HD16 := Lib.hid (ah g16 HD15.out (by omega))
  have f16 := f15.call g16
  have om := om.keep ((ax g16).mono fun g hg => by omega)
  have qZ := qZ.keep ((ax g16).mono fun g hg => by omega)
  go_wp2_with fail
  refine (ja W16 q16).mono ?_
  rintro e W17 ⟨rfl, q17, g17⟩
  have z17 := g17.size
  have HD17 := Lib.hid (ah g17 HD16.out (by omega))
  have f17 := f16.call g17
  have om := om.keep ((ax g17).mono fun g hg => by omega)
  have qZ := qZ.keep ((ax g17).mono fun g hg => by omega)
  generalize hN17 : (bD L (need L (⟨#[102, 97, 117, 108, 116, 115]⟩ : ByteArray) (jc L (need L (⟨#[119, 114, 105, 116, 101]⟩ : ByteArray) (jc L (need L (⟨#[114, 101, 97, 100]⟩ : ByteArray) (need L (⟨#[98, 121, 122, 97, 110, 116, 105, 110, 101]⟩ : ByteArray) (bD L (taken L (⟨#[99, 111, 110, 102, 105, 103]⟩ : ByteArray) s)).2))).2)).2)).1 = us at *
  have HN17 := Lib.hid hN17
  clear hN17
  obtain ⟨-, -, -, -, -, -, -, -, -, -, -, -, -, -, -, -, -, -, -, -, -, a21, af⟩ := lC HD17.out
  have af21 := af 21
  clear af
  go_wp2_with fail
  obtain ⟨W18, hW18⟩ : ∃ W18 : World, W18 = (W17.setCell ⟨Wa.heap.size, 21, none⟩ (.string us)) := ⟨_, rfl⟩
  have g18 : W17.grownBy W18 (some Wa.heap.size) := by rw [hW18]; exact aF (aJ _ _) _ _
  have hD18 : W18.heap[Wa.heap.size]? = some (.cells #[.int .i64 4, .int .i64 li, .string nm, .slice none 0 0, .slice none 0 0, .int .i64 0, .string ⟨#[]⟩, .int .i64 0, .slice none 0 0, .slice none 0 0, .string (⟨#[98, 121, 122, 97, 110, 116, 105, 110, 101]⟩ : ByteArray), .int .i64 o2, .string m2, .int .i64 d2, .slice wA2 wn2 wc2, .slice kA2 kn2 kc2, .int .i64 o3, .string m3, .int .i64 d3, .slice wA3 wn3 wc3, .slice kA3 kn3 kc3, .string us] 41 (0, 0)) := by rw [hW18]; exact aQ (HD17.out) _
  have hs18 : W18.heap.size = W17.heap.size := by rw [hW18]; simp
  rw [← hW18]
  have z18 : W17.heap.size ≤ W18.heap.size := by omega
  have HZ18 := Lib.hid hs18
  have HD18 := Lib.hid hD18
  have q18 := q17.other (below_grown g18 (Nat.le_refl _) (by omega)) (by omega)
  have f18 := f17.set g18
  have om := om.keep ((ax g18).mono fun g hg => by omega)
  have qZ := qZ.keep ((ax g18).mono fun g hg => by omega)
  clear hW18 hD18 hs18 a21 af21
  refine (eB (⟨#[59]⟩ : ByteArray) W18 q18).mono ?_
  rintro e W19 ⟨rfl, q19, g19⟩
  have z19 := g19.size
  have HD19 := Lib.hid (ah g19 HD18.out (by omega))
  have f19 := f18.call g19
  have om := om.keep ((ax g19).mono fun g hg => by omega)
  have qZ := qZ.keep ((ax g19).mono fun g hg => by omega)
  have hrW : W19.heap[w.heap.size]? = some (.cells (iP 0) 41 (0, 0)) := (f19.block _ (by omega) (by omega) (by omega)).trans HRz.out
  have HRW := Lib.hid hrW
  clear hrW
  have HE := Lib.hid (decl_eq HLI.out (AL (x := 5) (d := .zero li) Hh1.out Hh2.out Hh3.out Hh4.out))
  go_wp2_with (first | (with_reducible refine eD _ rfl (.tmp 3) rfl Wa.heap.size rfl _ HD19.out rfl ?_) | ((with_reducible refine eU _ rfl rfl (.tmp 2) (.tmp 122) rfl w.heap.size _ rfl rfl _ HRW.out rfl rfl (by simp [Value.oneCell']) ?_); intro WR hbR hgR))
  refine lT rfl rfl rfl hbR rfl ?_
  rw [HE.out]
  have hcf : uD L (Dc.zero li) (taken L (⟨#[99, 111, 110, 102, 105, 103]⟩ : ByteArray) s) = ({ Dc.zero li with kind := 4, name := nm, proto := (⟨#[98, 121, 122, 97, 110, 116, 105, 110, 101]⟩ : ByteArray), read := (jc L (need L (⟨#[114, 101, 97, 100]⟩ : ByteArray) (need L (⟨#[98, 121, 122, 97, 110, 116, 105, 110, 101]⟩ : ByteArray) (bD L (taken L (⟨#[99, 111, 110, 102, 105, 103]⟩ : ByteArray) s)).2))).1, write := (jc L (need L (⟨#[119, 114, 105, 116, 101]⟩ : ByteArray) (jc L (need L (⟨#[114, 101, 97, 100]⟩ : ByteArray) (need L (⟨#[98, 121, 122, 97, 110, 116, 105, 110, 101]⟩ : ByteArray) (bD L (taken L (⟨#[99, 111, 110, 102, 105, 103]⟩ : ByteArray) s)).2))).2)).1, use := us }, (bD L (need L (⟨#[102, 97, 117, 108, 116, 115]⟩ : ByteArray) (jc L (need L (⟨#[119, 114, 105, 116, 101]⟩ : ByteArray) (jc L (need L (⟨#[114, 101, 97, 100]⟩ : ByteArray) (need L (⟨#[98, 121, 122, 97, 110, 116, 105, 110, 101]⟩ : ByteArray) (bD L (taken L (⟨#[99, 111, 110, 102, 105, 103]⟩ : ByteArray) s)).2))).2)).2)).2) := by
   unfold uD
   rw [cfg_byz Hhc.out, HN5.out, HN17.out]
  rw [hcf]
  have hfr : w.grownBy W19 (some b) := ⟨f19.os.trans hfz.os, f19.tape.trans hfz.tape, f19.output.trans hfz.output, Nat.le_trans hfz.size f19.size, fun k hk hne => (f19.block k (by omega) (fun e => hne (by rw [e])) (by omega)).trans (hfz.block k hk hne)⟩
  have om := (om.keep ((ax hgR).mono fun g hg => by omega)).mono (S' := (w.heap.size ≤ ·)) (fun g hg _ => by omega)
  have qZ := (qZ.keep ((ax hgR).mono fun g hg => by omega)).mono (S' := (w.heap.size ≤ ·)) (fun g hg _ => by omega)
  refine ⟨_, rfl, ?_, q19.other (below_grown hgR (Nat.le_refl _) (by omega)) hbs, aR hfr (below_grown hgR (Nat.le_refl _) (by omega)) (Nat.le_refl _)⟩
  exact Bo (aL.empty _ _ _ _) (Nat.le_refl _) (aT.empty _ _ _ _ _) (Nat.le_refl _) (gH _ _) (om) (qZ)

end Go.Proofs.YtbmglebipepdmaaGreatDoor
