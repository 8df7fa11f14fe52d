/- The contract of the parser's method declaration: witness, chain, none. The contract of the parser's method declaration: site, quorum, config. -/
import Derived.Test.YtipicaoinnblpaaGreatDoorPkParb
namespace Go.Proofs.YtipicaoinnblpaaGreatDoor
open Go.RowKit

attribute [local go_sem ↓] exec_storeD in
set_option maxRecDepth 100000 in
set_option maxHeartbeats 8000000 in
theorem decl_h {b : Nat} {A : Option Addr} {n c : Nat} {L : Toks} {ln : Nat → Nat} {s : St} (w : World) (h : PSt b A n c L ln s w) (hm : moreB L s = true) (h1 : isW L (⟨#[115, 105, 116, 101]⟩ : ByteArray) s = false) (h2 : isW L (⟨#[102, 97, 117, 108, 116, 115]⟩ : ByteArray) s = false) (h3 : isW L (⟨#[113, 117, 111, 114, 117, 109]⟩ : ByteArray) s = false) (h4 : isW L (⟨#[99, 111, 110, 102, 105, 103]⟩ : ByteArray) s = false) (h5 : isW L (⟨#[119, 105, 116, 110, 101, 115, 115]⟩ : ByteArray) s = false) (h6 : isW L (⟨#[99, 108, 105, 101, 110, 116]⟩ : ByteArray) s = false) (h7 : isW L (⟨#[99, 104, 97, 105, 110]⟩ : ByteArray) s = false) :
    Calls Tryz.prog 33 #[.pointer (some ⟨b, 0, none⟩)] w (DPost b A n c L ln w (pDecl L 4 s)) := by
  have hbs := h.lt
  obtain ⟨h00, hpp⟩ := more_ok hm
  have Hh1 := Lib.hid h1
  have Hh2 := Lib.hid h2
  have Hh3 := Lib.hid h3
  have Hh4 := Lib.hid h4
  have Hh5 := Lib.hid h5
  have Hh6 := Lib.hid h6
  have Hh7 := Lib.hid h7
  clear h1 h2 h3 h4 h5 h6 h7
  have HH := Lib.hid h
  have H00 := Lib.hid h00
  clear h h00 hm
  go_enter Tryz.func33, Tryz.ntmps33
  go_upto_region 1 with fail
  obtain ⟨Wa, hWa⟩ : ∃ Wa : World, Wa = w.alloc (.cells #[.int .i64 0, .int .i64 0, .string ⟨#[]⟩, .slice none 0 0, .slice none 0 0, .int .i64 0, .string ⟨#[]⟩, .int .i64 0, .slice none 0 0, .slice none 0 0, .string ⟨#[]⟩, .int .i64 0, .string ⟨#[]⟩, .int .i64 0, .slice none 0 0, .slice none 0 0, .int .i64 0, .string ⟨#[]⟩, .int .i64 0, .slice none 0 0, .slice none 0 0, .string ⟨#[]⟩] 54) := ⟨_, rfl⟩
  have hba : Below w.heap.size w Wa := by rw [hWa]; exact (Below.refl _ _).alloc (Nat.le_refl _) _
  have hsa : w.heap.size < Wa.heap.size := by rw [hWa]; simp
  have hra : Wa.heap[w.heap.size]? = some (.cells #[.int .i64 0, .int .i64 0, .string ⟨#[]⟩, .slice none 0 0, .slice none 0 0, .int .i64 0, .string ⟨#[]⟩, .int .i64 0, .slice none 0 0, .slice none 0 0, .string ⟨#[]⟩, .int .i64 0, .string ⟨#[]⟩, .int .i64 0, .slice none 0 0, .slice none 0 0, .int .i64 0, .string ⟨#[]⟩, .int .i64 0, .slice none 0 0, .slice none 0 0, .string ⟨#[]⟩] 54 (0, 0)) := by rw [hWa]; exact heap_alloc_new w _
  rw [← hWa]
  have HRa := Lib.hid hra
  clear hWa hra
  have qa := HH.out.below hba
  obtain ⟨g, o, l, rfl, hS, hgs, hbs2, hl, k0, k1, k2, k3, k4, i1, i2, i3⟩ := tok_facts qa hpp
  obtain ⟨c0, c1, c2, c3, cf⟩ := row4 hl
  have hln : (lineOf L s.pos : Int) = ((L[s.pos]'hpp).2 : Int) := by unfold lineOf; rw [List.getElem?_eq_getElem hpp]; rfl
  generalize hli : ((L[s.pos]'hpp).2 : Int) = li at k4 hln
  have HLI := Lib.hid hln
  clear hli hln hl cf k0 k1 k2 k3 c2 c3
  go_cut [3] (fun s3 wx => s3 = .pointer (some ⟨Wa.heap.size, 0, none⟩) ∧ wx.heap[Wa.heap.size]? = some (.cells #[.int .i64 0, .int .i64 li, .string ⟨#[]⟩, .slice none 0 0, .slice none 0 0, .int .i64 0, .string ⟨#[]⟩, .int .i64 0, .slice none 0 0, .slice none 0 0, .string ⟨#[]⟩, .int .i64 0, .string ⟨#[]⟩, .int .i64 0, .slice none 0 0, .slice none 0 0, .int .i64 0, .string ⟨#[]⟩, .int .i64 0, .slice none 0 0, .slice none 0 0, .string ⟨#[]⟩] 54 (0, 0)) ∧ Below Wa.heap.size Wa wx ∧ Wa.heap.size < wx.heap.size)
  case first =>
    have hst := fun (c : Array Value) (hc : c.size = 22) => run_storeD Wa c hc li
    go_region_law (fail)
    all_goals
      go_wp2_with fail
      go_meet
      exact ⟨rfl, heap_alloc_new Wa _, ((Below.refl _ _).alloc (Nat.le_refl _) _).drew, by simp⟩
  case rest =>
    obtain ⟨rfl, hDz, hbz, hsz⟩ := hcut
    obtain ⟨wz, rfl⟩ : ∃ wz : World, wz = wc := ⟨_, rfl⟩
    have HRz := Lib.hid ((hbz.block _ hsa).trans HRa.out)
    have q0 := qa.below hbz
    have f0 := Grown2.refl b Wa.heap.size wz
    have HD0 := Lib.hid hDz
    have z0 : wz.heap.size ≤ wz.heap.size := Nat.le_refl _
    have hfz : w.grownBy wz (some b) := grown_trans (grown_below hba) (grown_below hbz)
    clear hDz c0 c1 k4
    go_wp2_with fail
    have ht := take_any (⟨#[115, 105, 116, 101]⟩ : ByteArray) wz q0
    rw [Hh1.out, taken_not Hh1.out] at ht
    refine ht.mono ?_
    clear ht
    rintro e W1 ⟨rfl, q1, g1⟩
    have z1 := g1.size
    have HD1 := Lib.hid (grown_block g1 HD0.out (by omega))
    have f1 := f0.call g1
    go_wp2_with fail
    have ht := take_any (⟨#[102, 97, 117, 108, 116, 115]⟩ : ByteArray) W1 q1
    rw [Hh2.out, taken_not Hh2.out] at ht
    refine ht.mono ?_
    clear ht
    rintro e W2 ⟨rfl, q2, g2⟩
    have z2 := g2.size
    have HD2 := Lib.hid (grown_block g2 HD1.out (by omega))
    have f2 := f1.call g2
    go_wp2_with fail
    have ht := take_any (⟨#[113, 117, 111, 114, 117, 109]⟩ : ByteArray) W2 q2
    rw [Hh3.out, taken_not Hh3.out] at ht
    refine ht.mono ?_
    clear ht
    rintro e W3 ⟨rfl, q3, g3⟩
    have z3 := g3.size
    have HD3 := Lib.hid (grown_block g3 HD2.out (by omega))
    have f3 := f2.call g3
    go_wp2_with fail
    have ht := take_any (⟨#[99, 111, 110, 102, 105, 103]⟩ : ByteArray) W3 q3
    rw [Hh4.out, taken_not Hh4.out] at ht
    refine ht.mono ?_
    clear ht
    rintro e W4 ⟨rfl, q4, g4⟩
    have z4 := g4.size
    have HD4 := Lib.hid (grown_block g4 HD3.out (by omega))
    have f4 := f3.call g4
    go_wp2_with fail
    have ht := take_any (⟨#[119, 105, 116, 110, 101, 115, 115]⟩ : ByteArray) W4 q4
    rw [Hh5.out, taken_not Hh5.out] at ht
    refine ht.mono ?_
    clear ht
    rintro e W5 ⟨rfl, q5, g5⟩
    have z5 := g5.size
    have HD5 := Lib.hid (grown_block g5 HD4.out (by omega))
    have f5 := f4.call g5
    go_wp2_with fail
    have ht := take_any (⟨#[99, 108, 105, 101, 110, 116]⟩ : ByteArray) W5 q5
    rw [Hh6.out, taken_not Hh6.out] at ht
    refine ht.mono ?_
    clear ht
    rintro e W6 ⟨rfl, q6, g6⟩
    have z6 := g6.size
    have HD6 := Lib.hid (grown_block g6 HD5.out (by omega))
    have f6 := f5.call g6
    go_wp2_with fail
    have ht := take_any (⟨#[99, 104, 97, 105, 110]⟩ : ByteArray) W6 q6
    rw [Hh7.out, taken_not Hh7.out] at ht
    refine ht.mono ?_
    clear ht
    rintro e W7 ⟨rfl, q7, g7⟩
    have z7 := g7.size
    have HD7 := Lib.hid (grown_block g7 HD6.out (by omega))
    have f7 := f6.call g7
    go_wp2_with fail
    refine (fail_any 2 (by decide) W7 q7).mono ?_
    rintro e W8 ⟨rfl, q8, g8⟩
    have z8 := g8.size
    have HD8 := Lib.hid (grown_block g8 HD7.out (by omega))
    have f8 := f7.call g8
    go_wp2_with fail
    refine (need_any (⟨#[59]⟩ : ByteArray) _ (q8.below ((Below.refl _ _).alloc (Nat.le_refl _) _)) (heap_alloc_new W8 _) (by omega)).mono ?_
    rintro e W9 ⟨rfl, q9, g9x⟩
    have g9 := grown_trans (grown_alloc (grown_refl W8 (some b)) _) g9x
    clear g9x
    have z9 := g9.size
    have HD9 := Lib.hid (grown_block g9 HD8.out (by omega))
    have f9 := f8.call g9
    have hrW : W9.heap[w.heap.size]? = some (.cells #[.int .i64 0, .int .i64 0, .string ⟨#[]⟩, .slice none 0 0, .slice none 0 0, .int .i64 0, .string ⟨#[]⟩, .int .i64 0, .slice none 0 0, .slice none 0 0, .string ⟨#[]⟩, .int .i64 0, .string ⟨#[]⟩, .int .i64 0, .slice none 0 0, .slice none 0 0, .int .i64 0, .string ⟨#[]⟩, .int .i64 0, .slice none 0 0, .slice none 0 0, .string ⟨#[]⟩] 54 (0, 0)) := (f9.block _ (by omega) (by omega) (by omega)).trans HRz.out
    have HRW := Lib.hid hrW
    clear hrW
    have HE := Lib.hid (decl_eq HLI.out (body_none (x := 4) (d := .zero li) Hh1.out Hh2.out Hh3.out Hh4.out Hh5.out Hh6.out Hh7.out))
    go_wp2_with (first | (with_reducible refine load_decl _ rfl (.tmp 3) rfl Wa.heap.size rfl _ HD9.out rfl ?_) | ((with_reducible refine list_decl _ rfl rfl (.tmp 2) (.tmp 102) rfl w.heap.size _ rfl rfl _ HRW.out rfl rfl (by simp [Value.oneCell']) ?_); intro WR hbR hgR))
    refine ret_decl rfl rfl rfl hbR rfl ?_
    rw [HE.out]
    have hfr : w.grownBy W9 (some b) := ⟨f9.os.trans hfz.os, f9.tape.trans hfz.tape, f9.output.trans hfz.output, Nat.le_trans hfz.size f9.size, fun k hk hne => (f9.block k (by omega) (fun e => hne (by rw [e])) (by omega)).trans (hfz.block k hk hne)⟩
    refine ⟨_, rfl, ?_, q9.other (below_grown hgR (Nat.le_refl _) (by omega)) hbs, grown_from hfr (below_grown hgR (Nat.le_refl _) (by omega)) (Nat.le_refl _)⟩
    exact dc_mk (SeesIn.empty _ _ _ _) (Nat.le_refl _) (ListAt.empty _ _ _ _ _) (Nat.le_refl _) (tm_zero _ _) (tm_zero _ _) (tm_zero _ _)

attribute [local go_sem ↓] exec_storeD in
set_option maxRecDepth 100000 in
set_option maxHeartbeats 8000000 in
theorem decl_e {b : Nat} {A : Option Addr} {n c : Nat} {L : Toks} {ln : Nat → Nat} {s : St} (w : World) (h : PSt b A n c L ln s w) (hm : moreB L s = true) (h1 : isW L (⟨#[115, 105, 116, 101]⟩ : ByteArray) s = false) (h2 : isW L (⟨#[102, 97, 117, 108, 116, 115]⟩ : ByteArray) s = false) (h3 : isW L (⟨#[113, 117, 111, 114, 117, 109]⟩ : ByteArray) s = false) (h4 : isW L (⟨#[99, 111, 110, 102, 105, 103]⟩ : ByteArray) s = false) (h5 : isW L (⟨#[119, 105, 116, 110, 101, 115, 115]⟩ : ByteArray) s = true) :
    Calls Tryz.prog 33 #[.pointer (some ⟨b, 0, none⟩)] w (DPost b A n c L ln w (pDecl L 4 s)) := by
  have hbs := h.lt
  obtain ⟨h00, hpp⟩ := more_ok hm
  have Hh1 := Lib.hid h1
  have Hh2 := Lib.hid h2
  have Hh3 := Lib.hid h3
  have Hh4 := Lib.hid h4
  have Hh5 := Lib.hid h5
  clear h1 h2 h3 h4 h5
  have HH := Lib.hid h
  have H00 := Lib.hid h00
  clear h h00 hm
  go_enter Tryz.func33, Tryz.ntmps33
  go_upto_region 1 with fail
  obtain ⟨Wa, hWa⟩ : ∃ Wa : World, Wa = w.alloc (.cells #[.int .i64 0, .int .i64 0, .string ⟨#[]⟩, .slice none 0 0, .slice none 0 0, .int .i64 0, .string ⟨#[]⟩, .int .i64 0, .slice none 0 0, .slice none 0 0, .string ⟨#[]⟩, .int .i64 0, .string ⟨#[]⟩, .int .i64 0, .slice none 0 0, .slice none 0 0, .int .i64 0, .string ⟨#[]⟩, .int .i64 0, .slice none 0 0, .slice none 0 0, .string ⟨#[]⟩] 54) := ⟨_, rfl⟩
  have hba : Below w.heap.size w Wa := by rw [hWa]; exact (Below.refl _ _).alloc (Nat.le_refl _) _
  have hsa : w.heap.size < Wa.heap.size := by rw [hWa]; simp
  have hra : Wa.heap[w.heap.size]? = some (.cells #[.int .i64 0, .int .i64 0, .string ⟨#[]⟩, .slice none 0 0, .slice none 0 0, .int .i64 0, .string ⟨#[]⟩, .int .i64 0, .slice none 0 0, .slice none 0 0, .string ⟨#[]⟩, .int .i64 0, .string ⟨#[]⟩, .int .i64 0, .slice none 0 0, .slice none 0 0, .int .i64 0, .string ⟨#[]⟩, .int .i64 0, .slice none 0 0, .slice none 0 0, .string ⟨#[]⟩] 54 (0, 0)) := by rw [hWa]; exact heap_alloc_new w _
  rw [← hWa]
  have HRa := Lib.hid hra
  clear hWa hra
  have qa := HH.out.below hba
  obtain ⟨g, o, l, rfl, hS, hgs, hbs2, hl, k0, k1, k2, k3, k4, i1, i2, i3⟩ := tok_facts qa hpp
  obtain ⟨c0, c1, c2, c3, cf⟩ := row4 hl
  have hln : (lineOf L s.pos : Int) = ((L[s.pos]'hpp).2 : Int) := by unfold lineOf; rw [List.getElem?_eq_getElem hpp]; rfl
  generalize hli : ((L[s.pos]'hpp).2 : Int) = li at k4 hln
  have HLI := Lib.hid hln
  clear hli hln hl cf k0 k1 k2 k3 c2 c3
  go_cut [3] (fun s3 wx => s3 = .pointer (some ⟨Wa.heap.size, 0, none⟩) ∧ wx.heap[Wa.heap.size]? = some (.cells #[.int .i64 0, .int .i64 li, .string ⟨#[]⟩, .slice none 0 0, .slice none 0 0, .int .i64 0, .string ⟨#[]⟩, .int .i64 0, .slice none 0 0, .slice none 0 0, .string ⟨#[]⟩, .int .i64 0, .string ⟨#[]⟩, .int .i64 0, .slice none 0 0, .slice none 0 0, .int .i64 0, .string ⟨#[]⟩, .int .i64 0, .slice none 0 0, .slice none 0 0, .string ⟨#[]⟩] 54 (0, 0)) ∧ Below Wa.heap.size Wa wx ∧ Wa.heap.size < wx.heap.size)
  case first =>
    have hst := fun (c : Array Value) (hc : c.size = 22) => run_storeD Wa c hc li
    go_region_law (fail)
    all_goals
      go_wp2_with fail
      go_meet
      exact ⟨rfl, heap_alloc_new Wa _, ((Below.refl _ _).alloc (Nat.le_refl _) _).drew, by simp⟩
  case rest =>
    obtain ⟨rfl, hDz, hbz, hsz⟩ := hcut
    obtain ⟨wz, rfl⟩ : ∃ wz : World, wz = wc := ⟨_, rfl⟩
    have HRz := Lib.hid ((hbz.block _ hsa).trans HRa.out)
    have q0 := qa.below hbz
    have f0 := Grown2.refl b Wa.heap.size wz
    have HD0 := Lib.hid hDz
    have z0 : wz.heap.size ≤ wz.heap.size := Nat.le_refl _
    have hfz : w.grownBy wz (some b) := grown_trans (grown_below hba) (grown_below hbz)
    clear hDz c0 c1 k4
    go_wp2_with fail
    have ht := take_any (⟨#[115, 105, 116, 101]⟩ : ByteArray) wz q0
    rw [Hh1.out, taken_not Hh1.out] at ht
    refine ht.mono ?_
    clear ht
    rintro e W1 ⟨rfl, q1, g1⟩
    have z1 := g1.size
    have HD1 := Lib.hid (grown_block g1 HD0.out (by omega))
    have f1 := f0.call g1
    go_wp2_with fail
    have ht := take_any (⟨#[102, 97, 117, 108, 116, 115]⟩ : ByteArray) W1 q1
    rw [Hh2.out, taken_not Hh2.out] at ht
    refine ht.mono ?_
    clear ht
    rintro e W2 ⟨rfl, q2, g2⟩
    have z2 := g2.size
    have HD2 := Lib.hid (grown_block g2 HD1.out (by omega))
    have f2 := f1.call g2
    go_wp2_with fail
    have ht := take_any (⟨#[113, 117, 111, 114, 117, 109]⟩ : ByteArray) W2 q2
    rw [Hh3.out, taken_not Hh3.out] at ht
    refine ht.mono ?_
    clear ht
    rintro e W3 ⟨rfl, q3, g3⟩
    have z3 := g3.size
    have HD3 := Lib.hid (grown_block g3 HD2.out (by omega))
    have f3 := f2.call g3
    go_wp2_with fail
    have ht := take_any (⟨#[99, 111, 110, 102, 105, 103]⟩ : ByteArray) W3 q3
    rw [Hh4.out, taken_not Hh4.out] at ht
    refine ht.mono ?_
    clear ht
    rintro e W4 ⟨rfl, q4, g4⟩
    have z4 := g4.size
    have HD4 := Lib.hid (grown_block g4 HD3.out (by omega))
    have f4 := f3.call g4
    go_wp2_with fail
    have ht := take_any (⟨#[119, 105, 116, 110, 101, 115, 115]⟩ : ByteArray) W4 q4
    rw [Hh5.out] at ht
    refine ht.mono ?_
    clear ht
    rintro e W5 ⟨rfl, q5, g5⟩
    have z5 := g5.size
    have HD5 := Lib.hid (grown_block g5 HD4.out (by omega))
    have f5 := f4.call g5
    go_wp2_with fail
    refine (names_any W5 q5).mono ?_
    rintro e W6 ⟨v6, rfl, hown6, q6, g6⟩
    have z6 := g6.size
    have HD6 := Lib.hid (grown_block g6 HD5.out (by omega))
    have f6 := f5.call g6
    obtain ⟨nA, nc, rfl, hnc⟩ := own_slice hown6
    have hsn := (SeesIn.own hown6).mono (S' := (wz.heap.size ≤ ·)) (fun g hg _ => by omega) (by decide)
    clear hown6
    generalize hns : (pNames L (taken L (⟨#[119, 105, 116, 110, 101, 115, 115]⟩ : ByteArray) s)).1 = ns at *
    have HNS := Lib.hid hns
    clear hns
    obtain ⟨a0, -, -, a3, -, -, -, -, -, -, -, -, -, -, -, -, -, -, -, -, -, -, af⟩ := row22 HD6.out
    have af0 := af 0
    have af3 := af 3
    clear af
    go_wp2_with fail
    obtain ⟨W7, hW7⟩ : ∃ W7 : World, W7 = ((W6.setCell ⟨Wa.heap.size, 0, none⟩ (.int .i64 5)).setCell ⟨Wa.heap.size, 3, none⟩ (.slice nA ns.length nc)) := ⟨_, rfl⟩
    have g7 : W6.grownBy W7 (some Wa.heap.size) := by rw [hW7]; exact grown_set (grown_set (grown_refl _ _) _ _) _ _
    have hD7 : W7.heap[Wa.heap.size]? = some (.cells #[.int .i64 5, .int .i64 li, .string ⟨#[]⟩, .slice nA ns.length nc, .slice none 0 0, .int .i64 0, .string ⟨#[]⟩, .int .i64 0, .slice none 0 0, .slice none 0 0, .string ⟨#[]⟩, .int .i64 0, .string ⟨#[]⟩, .int .i64 0, .slice none 0 0, .slice none 0 0, .int .i64 0, .string ⟨#[]⟩, .int .i64 0, .slice none 0 0, .slice none 0 0, .string ⟨#[]⟩] 54 (0, 0)) := by rw [hW7]; exact row_set (row_set (HD6.out) _) _
    have hs7 : W7.heap.size = W6.heap.size := by rw [hW7]; simp
    rw [← hW7]
    have z7 : W6.heap.size ≤ W7.heap.size := by omega
    have HZ7 := Lib.hid hs7
    have HD7 := Lib.hid hD7
    have q7 := q6.other (below_grown g7 (Nat.le_refl _) (by omega)) (by omega)
    have f7 := f6.set g7
    have hsn := hsn.keep ((kept_grown g7).mono fun g hg => by omega)
    clear hW7 hD7 hs7 a0 af0 a3 af3
    refine (need_any (⟨#[59]⟩ : ByteArray) _ (q7.below ((Below.refl _ _).alloc (Nat.le_refl _) _)) (by have := heap_alloc_new W7 (.cells #[.string (⟨#[59]⟩ : ByteArray)] 9); rw [HZ7.out] at this; exact this) (by omega)).mono ?_
    rintro e W8 ⟨rfl, q8, g8x⟩
    have g8 := grown_trans (grown_alloc (grown_refl W7 (some b)) _) g8x
    clear g8x
    have z8 := g8.size
    have HD8 := Lib.hid (grown_block g8 HD7.out (by omega))
    have f8 := f7.call g8
    have hsn := hsn.keep ((kept_grown g8).mono fun g hg => by omega)
    have hrW : W8.heap[w.heap.size]? = some (.cells #[.int .i64 0, .int .i64 0, .string ⟨#[]⟩, .slice none 0 0, .slice none 0 0, .int .i64 0, .string ⟨#[]⟩, .int .i64 0, .slice none 0 0, .slice none 0 0, .string ⟨#[]⟩, .int .i64 0, .string ⟨#[]⟩, .int .i64 0, .slice none 0 0, .slice none 0 0, .int .i64 0, .string ⟨#[]⟩, .int .i64 0, .slice none 0 0, .slice none 0 0, .string ⟨#[]⟩] 54 (0, 0)) := (f8.block _ (by omega) (by omega) (by omega)).trans HRz.out
    have HRW := Lib.hid hrW
    clear hrW
    have HE := Lib.hid (decl_eq HLI.out (body_witness (x := 4) (d := .zero li) Hh1.out Hh2.out Hh3.out Hh4.out Hh5.out))
    go_wp2_with (first | (with_reducible refine load_decl _ rfl (.tmp 3) rfl Wa.heap.size rfl _ HD8.out rfl ?_) | ((with_reducible refine list_decl _ rfl rfl (.tmp 2) (.tmp 102) rfl w.heap.size _ rfl rfl _ HRW.out rfl rfl (by simp [Value.oneCell']) ?_); intro WR hbR hgR))
    refine ret_decl rfl rfl rfl hbR rfl ?_
    rw [HE.out, HNS.out]
    have hfr : w.grownBy W8 (some b) := ⟨f8.os.trans hfz.os, f8.tape.trans hfz.tape, f8.output.trans hfz.output, Nat.le_trans hfz.size f8.size, fun k hk hne => (f8.block k (by omega) (fun e => hne (by rw [e])) (by omega)).trans (hfz.block k hk hne)⟩
    have hsn := (hsn.keep ((kept_grown hgR).mono fun g hg => by omega)).mono (S' := (w.heap.size ≤ ·)) (fun g hg _ => by omega) (by decide)
    refine ⟨_, rfl, ?_, q8.other (below_grown hgR (Nat.le_refl _) (by omega)) hbs, grown_from hfr (below_grown hgR (Nat.le_refl _) (by omega)) (Nat.le_refl _)⟩
    exact dc_mk (hsn) (hnc) (ListAt.empty _ _ _ _ _) (Nat.le_refl _) (tm_zero _ _) (tm_zero _ _) (tm_zero _ _)

attribute [local go_sem ↓] exec_storeD in
set_option maxRecDepth 100000 in
set_option maxHeartbeats 8000000 in
theorem decl_g {b : Nat} {A : Option Addr} {n c : Nat} {L : Toks} {ln : Nat → Nat} {s : St} (w : World) (h : PSt b A n c L ln s w) (hm : moreB L s = true) (h1 : isW L (⟨#[115, 105, 116, 101]⟩ : ByteArray) s = false) (h2 : isW L (⟨#[102, 97, 117, 108, 116, 115]⟩ : ByteArray) s = false) (h3 : isW L (⟨#[113, 117, 111, 114, 117, 109]⟩ : ByteArray) s = false) (h4 : isW L (⟨#[99, 111, 110, 102, 105, 103]⟩ : ByteArray) s = false) (h5 : isW L (⟨#[119, 105, 116, 110, 101, 115, 115]⟩ : ByteArray) s = false) (h6 : isW L (⟨#[99, 108, 105, 101, 110, 116]⟩ : ByteArray) s = false) (h7 : isW L (⟨#[99, 104, 97, 105, 110]⟩ : ByteArray) s = true) :
    Calls Tryz.prog 33 #[.pointer (some ⟨b, 0, none⟩)] w (DPost b A n c L ln w (pDecl L 4 s)) := by
  have hbs := h.lt
  obtain ⟨h00, hpp⟩ := more_ok hm
  have Hh1 := Lib.hid h1
  have Hh2 := Lib.hid h2
  have Hh3 := Lib.hid h3
  have Hh4 := Lib.hid h4
  have Hh5 := Lib.hid h5
  have Hh6 := Lib.hid h6
  have Hh7 := Lib.hid h7
  clear h1 h2 h3 h4 h5 h6 h7
  have HH := Lib.hid h
  have H00 := Lib.hid h00
  clear h h00 hm
  go_enter Tryz.func33, Tryz.ntmps33
  go_upto_region 1 with fail
  obtain ⟨Wa, hWa⟩ : ∃ Wa : World, Wa = w.alloc (.cells #[.int .i64 0, .int .i64 0, .string ⟨#[]⟩, .slice none 0 0, .slice none 0 0, .int .i64 0, .string ⟨#[]⟩, .int .i64 0, .slice none 0 0, .slice none 0 0, .string ⟨#[]⟩, .int .i64 0, .string ⟨#[]⟩, .int .i64 0, .slice none 0 0, .slice none 0 0, .int .i64 0, .string ⟨#[]⟩, .int .i64 0, .slice none 0 0, .slice none 0 0, .string ⟨#[]⟩] 54) := ⟨_, rfl⟩
  have hba : Below w.heap.size w Wa := by rw [hWa]; exact (Below.refl _ _).alloc (Nat.le_refl _) _
  have hsa : w.heap.size < Wa.heap.size := by rw [hWa]; simp
  have hra : Wa.heap[w.heap.size]? = some (.cells #[.int .i64 0, .int .i64 0, .string ⟨#[]⟩, .slice none 0 0, .slice none 0 0, .int .i64 0, .string ⟨#[]⟩, .int .i64 0, .slice none 0 0, .slice none 0 0, .string ⟨#[]⟩, .int .i64 0, .string ⟨#[]⟩, .int .i64 0, .slice none 0 0, .slice none 0 0, .int .i64 0, .string ⟨#[]⟩, .int .i64 0, .slice none 0 0, .slice none 0 0, .string ⟨#[]⟩] 54 (0, 0)) := by rw [hWa]; exact heap_alloc_new w _
  rw [← hWa]
  have HRa := Lib.hid hra
  clear hWa hra
  have qa := HH.out.below hba
  obtain ⟨g, o, l, rfl, hS, hgs, hbs2, hl, k0, k1, k2, k3, k4, i1, i2, i3⟩ := tok_facts qa hpp
  obtain ⟨c0, c1, c2, c3, cf⟩ := row4 hl
  have hln : (lineOf L s.pos : Int) = ((L[s.pos]'hpp).2 : Int) := by unfold lineOf; rw [List.getElem?_eq_getElem hpp]; rfl
  generalize hli : ((L[s.pos]'hpp).2 : Int) = li at k4 hln
  have HLI := Lib.hid hln
  clear hli hln hl cf k0 k1 k2 k3 c2 c3
  go_cut [3] (fun s3 wx => s3 = .pointer (some ⟨Wa.heap.size, 0, none⟩) ∧ wx.heap[Wa.heap.size]? = some (.cells #[.int .i64 0, .int .i64 li, .string ⟨#[]⟩, .slice none 0 0, .slice none 0 0, .int .i64 0, .string ⟨#[]⟩, .int .i64 0, .slice none 0 0, .slice none 0 0, .string ⟨#[]⟩, .int .i64 0, .string ⟨#[]⟩, .int .i64 0, .slice none 0 0, .slice none 0 0, .int .i64 0, .string ⟨#[]⟩, .int .i64 0, .slice none 0 0, .slice none 0 0, .string ⟨#[]⟩] 54 (0, 0)) ∧ Below Wa.heap.size Wa wx ∧ Wa.heap.size < wx.heap.size)
  case first =>
    have hst := fun (c : Array Value) (hc : c.size = 22) => run_storeD Wa c hc li
    go_region_law (fail)
    all_goals
      go_wp2_with fail
      go_meet
      exact ⟨rfl, heap_alloc_new Wa _, ((Below.refl _ _).alloc (Nat.le_refl _) _).drew, by simp⟩
  case rest =>
    obtain ⟨rfl, hDz, hbz, hsz⟩ := hcut
    obtain ⟨wz, rfl⟩ : ∃ wz : World, wz = wc := ⟨_, rfl⟩
    have HRz := Lib.hid ((hbz.block _ hsa).trans HRa.out)
    have q0 := qa.below hbz
    have f0 := Grown2.refl b Wa.heap.size wz
    have HD0 := Lib.hid hDz
    have z0 : wz.heap.size ≤ wz.heap.size := Nat.le_refl _
    have hfz : w.grownBy wz (some b) := grown_trans (grown_below hba) (grown_below hbz)
    clear hDz c0 c1 k4
    go_wp2_with fail
    have ht := take_any (⟨#[115, 105, 116, 101]⟩ : ByteArray) wz q0
    rw [Hh1.out, taken_not Hh1.out] at ht
    refine ht.mono ?_
    clear ht
    rintro e W1 ⟨rfl, q1, g1⟩
    have z1 := g1.size
    have HD1 := Lib.hid (grown_block g1 HD0.out (by omega))
    have f1 := f0.call g1
    go_wp2_with fail
    have ht := take_any (⟨#[102, 97, 117, 108, 116, 115]⟩ : ByteArray) W1 q1
    rw [Hh2.out, taken_not Hh2.out] at ht
    refine ht.mono ?_
    clear ht
    rintro e W2 ⟨rfl, q2, g2⟩
    have z2 := g2.size
    have HD2 := Lib.hid (grown_block g2 HD1.out (by omega))
    have f2 := f1.call g2
    go_wp2_with fail
    have ht := take_any (⟨#[113, 117, 111, 114, 117, 109]⟩ : ByteArray) W2 q2
    rw [Hh3.out, taken_not Hh3.out] at ht
    refine ht.mono ?_
    clear ht
    rintro e W3 ⟨rfl, q3, g3⟩
    have z3 := g3.size
    have HD3 := Lib.hid (grown_block g3 HD2.out (by omega))
    have f3 := f2.call g3
    go_wp2_with fail
    have ht := take_any (⟨#[99, 111, 110, 102, 105, 103]⟩ : ByteArray) W3 q3
    rw [Hh4.out, taken_not Hh4.out] at ht
    refine ht.mono ?_
    clear ht
    rintro e W4 ⟨rfl, q4, g4⟩
    have z4 := g4.size
    have HD4 := Lib.hid (grown_block g4 HD3.out (by omega))
    have f4 := f3.call g4
    go_wp2_with fail
    have ht := take_any (⟨#[119, 105, 116, 110, 101, 115, 115]⟩ : ByteArray) W4 q4
    rw [Hh5.out, taken_not Hh5.out] at ht
    refine ht.mono ?_
    clear ht
    rintro e W5 ⟨rfl, q5, g5⟩
    have z5 := g5.size
    have HD5 := Lib.hid (grown_block g5 HD4.out (by omega))
    have f5 := f4.call g5
    go_wp2_with fail
    have ht := take_any (⟨#[99, 108, 105, 101, 110, 116]⟩ : ByteArray) W5 q5
    rw [Hh6.out, taken_not Hh6.out] at ht
    refine ht.mono ?_
    clear ht
    rintro e W6 ⟨rfl, q6, g6⟩
    have z6 := g6.size
    have HD6 := Lib.hid (grown_block g6 HD5.out (by omega))
    have f6 := f5.call g6
    go_wp2_with fail
    have ht := take_any (⟨#[99, 104, 97, 105, 110]⟩ : ByteArray) W6 q6
    rw [Hh7.out] at ht
    refine ht.mono ?_
    clear ht
    rintro e W7 ⟨rfl, q7, g7⟩
    have z7 := g7.size
    have HD7 := Lib.hid (grown_block g7 HD6.out (by omega))
    have f7 := f6.call g7
    go_wp2_with fail
    refine (names_any W7 q7).mono ?_
    rintro e W8 ⟨v8, rfl, hown8, q8, g8⟩
    have z8 := g8.size
    have HD8 := Lib.hid (grown_block g8 HD7.out (by omega))
    have f8 := f7.call g8
    obtain ⟨nA, nc, rfl, hnc⟩ := own_slice hown8
    have hsn := (SeesIn.own hown8).mono (S' := (wz.heap.size ≤ ·)) (fun g hg _ => by omega) (by decide)
    clear hown8
    generalize hns : (pNames L (taken L (⟨#[99, 104, 97, 105, 110]⟩ : ByteArray) s)).1 = ns at *
    have HNS := Lib.hid hns
    clear hns
    obtain ⟨a0, -, -, a3, -, -, -, -, -, -, -, -, -, -, -, -, -, -, -, -, -, -, af⟩ := row22 HD8.out
    have af0 := af 0
    have af3 := af 3
    clear af
    go_wp2_with fail
    obtain ⟨W9, hW9⟩ : ∃ W9 : World, W9 = ((W8.setCell ⟨Wa.heap.size, 0, none⟩ (.int .i64 7)).setCell ⟨Wa.heap.size, 3, none⟩ (.slice nA ns.length nc)) := ⟨_, rfl⟩
    have g9 : W8.grownBy W9 (some Wa.heap.size) := by rw [hW9]; exact grown_set (grown_set (grown_refl _ _) _ _) _ _
    have hD9 : W9.heap[Wa.heap.size]? = some (.cells #[.int .i64 7, .int .i64 li, .string ⟨#[]⟩, .slice nA ns.length nc, .slice none 0 0, .int .i64 0, .string ⟨#[]⟩, .int .i64 0, .slice none 0 0, .slice none 0 0, .string ⟨#[]⟩, .int .i64 0, .string ⟨#[]⟩, .int .i64 0, .slice none 0 0, .slice none 0 0, .int .i64 0, .string ⟨#[]⟩, .int .i64 0, .slice none 0 0, .slice none 0 0, .string ⟨#[]⟩] 54 (0, 0)) := by rw [hW9]; exact row_set (row_set (HD8.out) _) _
    have hs9 : W9.heap.size = W8.heap.size := by rw [hW9]; simp
    rw [← hW9]
    have z9 : W8.heap.size ≤ W9.heap.size := by omega
    have HZ9 := Lib.hid hs9
    have HD9 := Lib.hid hD9
    have q9 := q8.other (below_grown g9 (Nat.le_refl _) (by omega)) (by omega)
    have f9 := f8.set g9
    have hsn := hsn.keep ((kept_grown g9).mono fun g hg => by omega)
    clear hW9 hD9 hs9 a0 af0 a3 af3
    refine (need_any (⟨#[59]⟩ : ByteArray) _ (q9.below ((Below.refl _ _).alloc (Nat.le_refl _) _)) (by have := heap_alloc_new W9 (.cells #[.string (⟨#[59]⟩ : ByteArray)] 9); rw [HZ9.out] at this; exact this) (by omega)).mono ?_
    rintro e W10 ⟨rfl, q10, g10x⟩
    have g10 := grown_trans (grown_alloc (grown_refl W9 (some b)) _) g10x
    clear g10x
    have z10 := g10.size
    have HD10 := Lib.hid (grown_block g10 HD9.out (by omega))
    have f10 := f9.call g10
    have hsn := hsn.keep ((kept_grown g10).mono fun g hg => by omega)
    have hrW : W10.heap[w.heap.size]? = some (.cells #[.int .i64 0, .int .i64 0, .string ⟨#[]⟩, .slice none 0 0, .slice none 0 0, .int .i64 0, .string ⟨#[]⟩, .int .i64 0, .slice none 0 0, .slice none 0 0, .string ⟨#[]⟩, .int .i64 0, .string ⟨#[]⟩, .int .i64 0, .slice none 0 0, .slice none 0 0, .int .i64 0, .string ⟨#[]⟩, .int .i64 0, .slice none 0 0, .slice none 0 0, .string ⟨#[]⟩] 54 (0, 0)) := (f10.block _ (by omega) (by omega) (by omega)).trans HRz.out
    have HRW := Lib.hid hrW
    clear hrW
    have HE := Lib.hid (decl_eq HLI.out (body_chain (x := 4) (d := .zero li) Hh1.out Hh2.out Hh3.out Hh4.out Hh5.out Hh6.out Hh7.out))
    go_wp2_with (first | (with_reducible refine load_decl _ rfl (.tmp 3) rfl Wa.heap.size rfl _ HD10.out rfl ?_) | ((with_reducible refine list_decl _ rfl rfl (.tmp 2) (.tmp 102) rfl w.heap.size _ rfl rfl _ HRW.out rfl rfl (by simp [Value.oneCell']) ?_); intro WR hbR hgR))
    refine ret_decl rfl rfl rfl hbR rfl ?_
    rw [HE.out, HNS.out]
    have hfr : w.grownBy W10 (some b) := ⟨f10.os.trans hfz.os, f10.tape.trans hfz.tape, f10.output.trans hfz.output, Nat.le_trans hfz.size f10.size, fun k hk hne => (f10.block k (by omega) (fun e => hne (by rw [e])) (by omega)).trans (hfz.block k hk hne)⟩
    have hsn := (hsn.keep ((kept_grown hgR).mono fun g hg => by omega)).mono (S' := (w.heap.size ≤ ·)) (fun g hg _ => by omega) (by decide)
    refine ⟨_, rfl, ?_, q10.other (below_grown hgR (Nat.le_refl _) (by omega)) hbs, grown_from hfr (below_grown hgR (Nat.le_refl _) (by omega)) (Nat.le_refl _)⟩
    exact dc_mk (hsn) (hnc) (ListAt.empty _ _ _ _ _) (Nat.le_refl _) (tm_zero _ _) (tm_zero _ _) (tm_zero _ _)

end Go.Proofs.YtipicaoinnblpaaGreatDoor
namespace Go.Proofs.YtipicaoinnblpaaGreatDoor
open Go.RowKit

attribute [local go_sem ↓] exec_storeD in
set_option maxRecDepth 100000 in
set_option maxHeartbeats 8000000 in
theorem decl_a {b : Nat} {A : Option Addr} {n c : Nat} {L : Toks} {ln : Nat → Nat} {s : St} (w : World) (h : PSt b A n c L ln s w) (hm : moreB L s = true) (h1 : isW L (⟨#[115, 105, 116, 101]⟩ : ByteArray) s = true) :
    Calls Tryz.prog 33 #[.pointer (some ⟨b, 0, none⟩)] w (DPost b A n c L ln w (pDecl L 4 s)) := by
  have hbs := h.lt
  obtain ⟨h00, hpp⟩ := more_ok hm
  have Hh1 := Lib.hid h1
  clear h1
  have HH := Lib.hid h
  have H00 := Lib.hid h00
  clear h h00 hm
  go_enter Tryz.func33, Tryz.ntmps33
  go_upto_region 1 with fail
  obtain ⟨Wa, hWa⟩ : ∃ Wa : World, Wa = w.alloc (.cells #[.int .i64 0, .int .i64 0, .string ⟨#[]⟩, .slice none 0 0, .slice none 0 0, .int .i64 0, .string ⟨#[]⟩, .int .i64 0, .slice none 0 0, .slice none 0 0, .string ⟨#[]⟩, .int .i64 0, .string ⟨#[]⟩, .int .i64 0, .slice none 0 0, .slice none 0 0, .int .i64 0, .string ⟨#[]⟩, .int .i64 0, .slice none 0 0, .slice none 0 0, .string ⟨#[]⟩] 54) := ⟨_, rfl⟩
  have hba : Below w.heap.size w Wa := by rw [hWa]; exact (Below.refl _ _).alloc (Nat.le_refl _) _
  have hsa : w.heap.size < Wa.heap.size := by rw [hWa]; simp
  have hra : Wa.heap[w.heap.size]? = some (.cells #[.int .i64 0, .int .i64 0, .string ⟨#[]⟩, .slice none 0 0, .slice none 0 0, .int .i64 0, .string ⟨#[]⟩, .int .i64 0, .slice none 0 0, .slice none 0 0, .string ⟨#[]⟩, .int .i64 0, .string ⟨#[]⟩, .int .i64 0, .slice none 0 0, .slice none 0 0, .int .i64 0, .string ⟨#[]⟩, .int .i64 0, .slice none 0 0, .slice none 0 0, .string ⟨#[]⟩] 54 (0, 0)) := by rw [hWa]; exact heap_alloc_new w _
  rw [← hWa]
  have HRa := Lib.hid hra
  clear hWa hra
  have qa := HH.out.below hba
  obtain ⟨g, o, l, rfl, hS, hgs, hbs2, hl, k0, k1, k2, k3, k4, i1, i2, i3⟩ := tok_facts qa hpp
  obtain ⟨c0, c1, c2, c3, cf⟩ := row4 hl
  have hln : (lineOf L s.pos : Int) = ((L[s.pos]'hpp).2 : Int) := by unfold lineOf; rw [List.getElem?_eq_getElem hpp]; rfl
  generalize hli : ((L[s.pos]'hpp).2 : Int) = li at k4 hln
  have HLI := Lib.hid hln
  clear hli hln hl cf k0 k1 k2 k3 c2 c3
  go_cut [3] (fun s3 wx => s3 = .pointer (some ⟨Wa.heap.size, 0, none⟩) ∧ wx.heap[Wa.heap.size]? = some (.cells #[.int .i64 0, .int .i64 li, .string ⟨#[]⟩, .slice none 0 0, .slice none 0 0, .int .i64 0, .string ⟨#[]⟩, .int .i64 0, .slice none 0 0, .slice none 0 0, .string ⟨#[]⟩, .int .i64 0, .string ⟨#[]⟩, .int .i64 0, .slice none 0 0, .slice none 0 0, .int .i64 0, .string ⟨#[]⟩, .int .i64 0, .slice none 0 0, .slice none 0 0, .string ⟨#[]⟩] 54 (0, 0)) ∧ Below Wa.heap.size Wa wx ∧ Wa.heap.size < wx.heap.size)
  case first =>
    have hst := fun (c : Array Value) (hc : c.size = 22) => run_storeD Wa c hc li
    go_region_law (fail)
    all_goals
      go_wp2_with fail
      go_meet
      exact ⟨rfl, heap_alloc_new Wa _, ((Below.refl _ _).alloc (Nat.le_refl _) _).drew, by simp⟩
  case rest =>
    obtain ⟨rfl, hDz, hbz, hsz⟩ := hcut
    obtain ⟨wz, rfl⟩ : ∃ wz : World, wz = wc := ⟨_, rfl⟩
    have HRz := Lib.hid ((hbz.block _ hsa).trans HRa.out)
    have q0 := qa.below hbz
    have f0 := Grown2.refl b Wa.heap.size wz
    have HD0 := Lib.hid hDz
    have z0 : wz.heap.size ≤ wz.heap.size := Nat.le_refl _
    have hfz : w.grownBy wz (some b) := grown_trans (grown_below hba) (grown_below hbz)
    clear hDz c0 c1 k4
    go_wp2_with fail
    have ht := take_any (⟨#[115, 105, 116, 101]⟩ : ByteArray) wz q0
    rw [Hh1.out] at ht
    refine ht.mono ?_
    clear ht
    rintro e W1 ⟨rfl, q1, g1⟩
    have z1 := g1.size
    have HD1 := Lib.hid (grown_block g1 HD0.out (by omega))
    have f1 := f0.call g1
    go_wp2_with fail
    refine (name_any W1 q1).mono ?_
    rintro e W2 ⟨rfl, q2, g2⟩
    have z2 := g2.size
    have HD2 := Lib.hid (grown_block g2 HD1.out (by omega))
    have f2 := f1.call g2
    generalize hN2 : (pName L (taken L (⟨#[115, 105, 116, 101]⟩ : ByteArray) s)).1 = nm at *
    have HN2 := Lib.hid hN2
    clear hN2
    obtain ⟨a0, -, a2, -, -, -, -, -, -, -, -, -, -, -, -, -, -, -, -, -, -, -, af⟩ := row22 HD2.out
    have af0 := af 0
    have af2 := af 2
    clear af
    go_wp2_with fail
    obtain ⟨W3, hW3⟩ : ∃ W3 : World, W3 = ((W2.setCell ⟨Wa.heap.size, 0, none⟩ (.int .i64 1)).setCell ⟨Wa.heap.size, 2, none⟩ (.string nm)) := ⟨_, rfl⟩
    have g3 : W2.grownBy W3 (some Wa.heap.size) := by rw [hW3]; exact grown_set (grown_set (grown_refl _ _) _ _) _ _
    have hD3 : W3.heap[Wa.heap.size]? = some (.cells #[.int .i64 1, .int .i64 li, .string nm, .slice none 0 0, .slice none 0 0, .int .i64 0, .string ⟨#[]⟩, .int .i64 0, .slice none 0 0, .slice none 0 0, .string ⟨#[]⟩, .int .i64 0, .string ⟨#[]⟩, .int .i64 0, .slice none 0 0, .slice none 0 0, .int .i64 0, .string ⟨#[]⟩, .int .i64 0, .slice none 0 0, .slice none 0 0, .string ⟨#[]⟩] 54 (0, 0)) := by rw [hW3]; exact row_set (row_set (HD2.out) _) _
    have hs3 : W3.heap.size = W2.heap.size := by rw [hW3]; simp
    rw [← hW3]
    have z3 : W2.heap.size ≤ W3.heap.size := by omega
    have HZ3 := Lib.hid hs3
    have HD3 := Lib.hid hD3
    have q3 := q2.other (below_grown g3 (Nat.le_refl _) (by omega)) (by omega)
    have f3 := f2.set g3
    clear hW3 hD3 hs3 a0 af0 a2 af2
    refine (braces_any W3 q3).mono ?_
    rintro e W4 ⟨v4, rfl, hown4, q4, g4⟩
    have z4 := g4.size
    have HD4 := Lib.hid (grown_block g4 HD3.out (by omega))
    have f4 := f3.call g4
    obtain ⟨nA, nc, rfl, hnc⟩ := own_slice hown4
    have hsn := (SeesIn.own hown4).mono (S' := (wz.heap.size ≤ ·)) (fun g hg _ => by omega) (by decide)
    clear hown4
    generalize hns : (pBraces L (pName L (taken L (⟨#[115, 105, 116, 101]⟩ : ByteArray) s)).2).1 = ns at *
    have HNS := Lib.hid hns
    clear hns
    obtain ⟨-, -, -, a3, -, -, -, -, -, -, -, -, -, -, -, -, -, -, -, -, -, -, af⟩ := row22 HD4.out
    have af3 := af 3
    clear af
    go_wp2_with fail
    obtain ⟨W5, hW5⟩ : ∃ W5 : World, W5 = (W4.setCell ⟨Wa.heap.size, 3, none⟩ (.slice nA ns.length nc)) := ⟨_, rfl⟩
    have g5 : W4.grownBy W5 (some Wa.heap.size) := by rw [hW5]; exact grown_set (grown_refl _ _) _ _
    have hD5 : W5.heap[Wa.heap.size]? = some (.cells #[.int .i64 1, .int .i64 li, .string nm, .slice nA ns.length nc, .slice none 0 0, .int .i64 0, .string ⟨#[]⟩, .int .i64 0, .slice none 0 0, .slice none 0 0, .string ⟨#[]⟩, .int .i64 0, .string ⟨#[]⟩, .int .i64 0, .slice none 0 0, .slice none 0 0, .int .i64 0, .string ⟨#[]⟩, .int .i64 0, .slice none 0 0, .slice none 0 0, .string ⟨#[]⟩] 54 (0, 0)) := by rw [hW5]; exact row_set (HD4.out) _
    have hs5 : W5.heap.size = W4.heap.size := by rw [hW5]; simp
    rw [← hW5]
    have z5 : W4.heap.size ≤ W5.heap.size := by omega
    have HZ5 := Lib.hid hs5
    have HD5 := Lib.hid hD5
    have q5 := q4.other (below_grown g5 (Nat.le_refl _) (by omega)) (by omega)
    have f5 := f4.set g5
    have hsn := hsn.keep ((kept_grown g5).mono fun g hg => by omega)
    clear hW5 hD5 hs5 a3 af3
    refine (need_any (⟨#[59]⟩ : ByteArray) _ (q5.below ((Below.refl _ _).alloc (Nat.le_refl _) _)) (by have := heap_alloc_new W5 (.cells #[.string (⟨#[59]⟩ : ByteArray)] 9); rw [HZ5.out] at this; exact this) (by omega)).mono ?_
    rintro e W6 ⟨rfl, q6, g6x⟩
    have g6 := grown_trans (grown_alloc (grown_refl W5 (some b)) _) g6x
    clear g6x
    have z6 := g6.size
    have HD6 := Lib.hid (grown_block g6 HD5.out (by omega))
    have f6 := f5.call g6
    have hsn := hsn.keep ((kept_grown g6).mono fun g hg => by omega)
    have hrW : W6.heap[w.heap.size]? = some (.cells #[.int .i64 0, .int .i64 0, .string ⟨#[]⟩, .slice none 0 0, .slice none 0 0, .int .i64 0, .string ⟨#[]⟩, .int .i64 0, .slice none 0 0, .slice none 0 0, .string ⟨#[]⟩, .int .i64 0, .string ⟨#[]⟩, .int .i64 0, .slice none 0 0, .slice none 0 0, .int .i64 0, .string ⟨#[]⟩, .int .i64 0, .slice none 0 0, .slice none 0 0, .string ⟨#[]⟩] 54 (0, 0)) := (f6.block _ (by omega) (by omega) (by omega)).trans HRz.out
    have HRW := Lib.hid hrW
    clear hrW
    have HE := Lib.hid (decl_eq HLI.out (body_site (x := 4) (d := .zero li) Hh1.out))
    go_wp2_with (first | (with_reducible refine load_decl _ rfl (.tmp 3) rfl Wa.heap.size rfl _ HD6.out rfl ?_) | ((with_reducible refine list_decl _ rfl rfl (.tmp 2) (.tmp 102) rfl w.heap.size _ rfl rfl _ HRW.out rfl rfl (by simp [Value.oneCell']) ?_); intro WR hbR hgR))
    refine ret_decl rfl rfl rfl hbR rfl ?_
    rw [HE.out]
    unfold pSite
    rw [HNS.out, HN2.out]
    have hfr : w.grownBy W6 (some b) := ⟨f6.os.trans hfz.os, f6.tape.trans hfz.tape, f6.output.trans hfz.output, Nat.le_trans hfz.size f6.size, fun k hk hne => (f6.block k (by omega) (fun e => hne (by rw [e])) (by omega)).trans (hfz.block k hk hne)⟩
    have hsn := (hsn.keep ((kept_grown hgR).mono fun g hg => by omega)).mono (S' := (w.heap.size ≤ ·)) (fun g hg _ => by omega) (by decide)
    refine ⟨_, rfl, ?_, q6.other (below_grown hgR (Nat.le_refl _) (by omega)) hbs, grown_from hfr (below_grown hgR (Nat.le_refl _) (by omega)) (Nat.le_refl _)⟩
    exact dc_mk (hsn) (hnc) (ListAt.empty _ _ _ _ _) (Nat.le_refl _) (tm_zero _ _) (tm_zero _ _) (tm_zero _ _)

attribute [local go_sem ↓] exec_storeD in
set_option maxRecDepth 100000 in
set_option maxHeartbeats 8000000 in
theorem decl_c {b : Nat} {A : Option Addr} {n c : Nat} {L : Toks} {ln : Nat → Nat} {s : St} (w : World) (h : PSt b A n c L ln s w) (hm : moreB L s = true) (h1 : isW L (⟨#[115, 105, 116, 101]⟩ : ByteArray) s = false) (h2 : isW L (⟨#[102, 97, 117, 108, 116, 115]⟩ : ByteArray) s = false) (h3 : isW L (⟨#[113, 117, 111, 114, 117, 109]⟩ : ByteArray) s = true) :
    Calls Tryz.prog 33 #[.pointer (some ⟨b, 0, none⟩)] w (DPost b A n c L ln w (pDecl L 4 s)) := by
  have hbs := h.lt
  obtain ⟨h00, hpp⟩ := more_ok hm
  have Hh1 := Lib.hid h1
  have Hh2 := Lib.hid h2
  have Hh3 := Lib.hid h3
  clear h1 h2 h3
  have HH := Lib.hid h
  have H00 := Lib.hid h00
  clear h h00 hm
  go_enter Tryz.func33, Tryz.ntmps33
  go_upto_region 1 with fail
  obtain ⟨Wa, hWa⟩ : ∃ Wa : World, Wa = w.alloc (.cells #[.int .i64 0, .int .i64 0, .string ⟨#[]⟩, .slice none 0 0, .slice none 0 0, .int .i64 0, .string ⟨#[]⟩, .int .i64 0, .slice none 0 0, .slice none 0 0, .string ⟨#[]⟩, .int .i64 0, .string ⟨#[]⟩, .int .i64 0, .slice none 0 0, .slice none 0 0, .int .i64 0, .string ⟨#[]⟩, .int .i64 0, .slice none 0 0, .slice none 0 0, .string ⟨#[]⟩] 54) := ⟨_, rfl⟩
  have hba : Below w.heap.size w Wa := by rw [hWa]; exact (Below.refl _ _).alloc (Nat.le_refl _) _
  have hsa : w.heap.size < Wa.heap.size := by rw [hWa]; simp
  have hra : Wa.heap[w.heap.size]? = some (.cells #[.int .i64 0, .int .i64 0, .string ⟨#[]⟩, .slice none 0 0, .slice none 0 0, .int .i64 0, .string ⟨#[]⟩, .int .i64 0, .slice none 0 0, .slice none 0 0, .string ⟨#[]⟩, .int .i64 0, .string ⟨#[]⟩, .int .i64 0, .slice none 0 0, .slice none 0 0, .int .i64 0, .string ⟨#[]⟩, .int .i64 0, .slice none 0 0, .slice none 0 0, .string ⟨#[]⟩] 54 (0, 0)) := by rw [hWa]; exact heap_alloc_new w _
  rw [← hWa]
  have HRa := Lib.hid hra
  clear hWa hra
  have qa := HH.out.below hba
  obtain ⟨g, o, l, rfl, hS, hgs, hbs2, hl, k0, k1, k2, k3, k4, i1, i2, i3⟩ := tok_facts qa hpp
  obtain ⟨c0, c1, c2, c3, cf⟩ := row4 hl
  have hln : (lineOf L s.pos : Int) = ((L[s.pos]'hpp).2 : Int) := by unfold lineOf; rw [List.getElem?_eq_getElem hpp]; rfl
  generalize hli : ((L[s.pos]'hpp).2 : Int) = li at k4 hln
  have HLI := Lib.hid hln
  clear hli hln hl cf k0 k1 k2 k3 c2 c3
  go_cut [3] (fun s3 wx => s3 = .pointer (some ⟨Wa.heap.size, 0, none⟩) ∧ wx.heap[Wa.heap.size]? = some (.cells #[.int .i64 0, .int .i64 li, .string ⟨#[]⟩, .slice none 0 0, .slice none 0 0, .int .i64 0, .string ⟨#[]⟩, .int .i64 0, .slice none 0 0, .slice none 0 0, .string ⟨#[]⟩, .int .i64 0, .string ⟨#[]⟩, .int .i64 0, .slice none 0 0, .slice none 0 0, .int .i64 0, .string ⟨#[]⟩, .int .i64 0, .slice none 0 0, .slice none 0 0, .string ⟨#[]⟩] 54 (0, 0)) ∧ Below Wa.heap.size Wa wx ∧ Wa.heap.size < wx.heap.size)
  case first =>
    have hst := fun (c : Array Value) (hc : c.size = 22) => run_storeD Wa c hc li
    go_region_law (fail)
    all_goals
      go_wp2_with fail
      go_meet
      exact ⟨rfl, heap_alloc_new Wa _, ((Below.refl _ _).alloc (Nat.le_refl _) _).drew, by simp⟩
  case rest =>
    obtain ⟨rfl, hDz, hbz, hsz⟩ := hcut
    obtain ⟨wz, rfl⟩ : ∃ wz : World, wz = wc := ⟨_, rfl⟩
    have HRz := Lib.hid ((hbz.block _ hsa).trans HRa.out)
    have q0 := qa.below hbz
    have f0 := Grown2.refl b Wa.heap.size wz
    have HD0 := Lib.hid hDz
    have z0 : wz.heap.size ≤ wz.heap.size := Nat.le_refl _
    have hfz : w.grownBy wz (some b) := grown_trans (grown_below hba) (grown_below hbz)
    clear hDz c0 c1 k4
    go_wp2_with fail
    have ht := take_any (⟨#[115, 105, 116, 101]⟩ : ByteArray) wz q0
    rw [Hh1.out, taken_not Hh1.out] at ht
    refine ht.mono ?_
    clear ht
    rintro e W1 ⟨rfl, q1, g1⟩
    have z1 := g1.size
    have HD1 := Lib.hid (grown_block g1 HD0.out (by omega))
    have f1 := f0.call g1
    go_wp2_with fail
    have ht := take_any (⟨#[102, 97, 117, 108, 116, 115]⟩ : ByteArray) W1 q1
    rw [Hh2.out, taken_not Hh2.out] at ht
    refine ht.mono ?_
    clear ht
    rintro e W2 ⟨rfl, q2, g2⟩
    have z2 := g2.size
    have HD2 := Lib.hid (grown_block g2 HD1.out (by omega))
    have f2 := f1.call g2
    go_wp2_with fail
    have ht := take_any (⟨#[113, 117, 111, 114, 117, 109]⟩ : ByteArray) W2 q2
    rw [Hh3.out] at ht
    refine ht.mono ?_
    clear ht
    rintro e W3 ⟨rfl, q3, g3⟩
    have z3 := g3.size
    have HD3 := Lib.hid (grown_block g3 HD2.out (by omega))
    have f3 := f2.call g3
    go_wp2_with fail
    refine (name_any W3 q3).mono ?_
    rintro e W4 ⟨rfl, q4, g4⟩
    have z4 := g4.size
    have HD4 := Lib.hid (grown_block g4 HD3.out (by omega))
    have f4 := f3.call g4
    generalize hN4 : (pName L (taken L (⟨#[113, 117, 111, 114, 117, 109]⟩ : ByteArray) s)).1 = nm at *
    have HN4 := Lib.hid hN4
    clear hN4
    obtain ⟨a0, -, a2, -, -, -, -, -, -, -, -, -, -, -, -, -, -, -, -, -, -, -, af⟩ := row22 HD4.out
    have af0 := af 0
    have af2 := af 2
    clear af
    go_wp2_with fail
    obtain ⟨W5, hW5⟩ : ∃ W5 : World, W5 = ((W4.setCell ⟨Wa.heap.size, 0, none⟩ (.int .i64 3)).setCell ⟨Wa.heap.size, 2, none⟩ (.string nm)) := ⟨_, rfl⟩
    have g5 : W4.grownBy W5 (some Wa.heap.size) := by rw [hW5]; exact grown_set (grown_set (grown_refl _ _) _ _) _ _
    have hD5 : W5.heap[Wa.heap.size]? = some (.cells #[.int .i64 3, .int .i64 li, .string nm, .slice none 0 0, .slice none 0 0, .int .i64 0, .string ⟨#[]⟩, .int .i64 0, .slice none 0 0, .slice none 0 0, .string ⟨#[]⟩, .int .i64 0, .string ⟨#[]⟩, .int .i64 0, .slice none 0 0, .slice none 0 0, .int .i64 0, .string ⟨#[]⟩, .int .i64 0, .slice none 0 0, .slice none 0 0, .string ⟨#[]⟩] 54 (0, 0)) := by rw [hW5]; exact row_set (row_set (HD4.out) _) _
    have hs5 : W5.heap.size = W4.heap.size := by rw [hW5]; simp
    rw [← hW5]
    have z5 : W4.heap.size ≤ W5.heap.size := by omega
    have HZ5 := Lib.hid hs5
    have HD5 := Lib.hid hD5
    have q5 := q4.other (below_grown g5 (Nat.le_refl _) (by omega)) (by omega)
    have f5 := f4.set g5
    clear hW5 hD5 hs5 a0 af0 a2 af2
    refine (need_any (⟨#[61]⟩ : ByteArray) _ (q5.below ((Below.refl _ _).alloc (Nat.le_refl _) _)) (by have := heap_alloc_new W5 (.cells #[.string (⟨#[61]⟩ : ByteArray)] 9); rw [HZ5.out] at this; exact this) (by omega)).mono ?_
    rintro e W6 ⟨rfl, q6, g6x⟩
    have g6 := grown_trans (grown_alloc (grown_refl W5 (some b)) _) g6x
    clear g6x
    have z6 := g6.size
    have HD6 := Lib.hid (grown_block g6 HD5.out (by omega))
    have f6 := f5.call g6
    go_wp2_with fail
    refine (term_any W6 q6).mono ?_
    rintro e W7 ⟨o1, m1, d1, wA1, wn1, wc1, kA1, kn1, kc1, rfl, htm1, q7, g7⟩
    have z7 := g7.size
    have HD7 := Lib.hid (grown_block g7 HD6.out (by omega))
    have f7 := f6.call g7
    have htm1 := htm1.mono (S' := (wz.heap.size ≤ ·)) (fun g hg _ => by omega)
    obtain ⟨-, -, -, -, -, a5, a6, a7, a8, a9, -, -, -, -, -, -, -, -, -, -, -, -, af⟩ := row22 HD7.out
    have af5 := af 5
    have af6 := af 6
    have af7 := af 7
    have af8 := af 8
    have af9 := af 9
    clear af
    go_wp2_with fail
    obtain ⟨W8, hW8⟩ : ∃ W8 : World, W8 = (((((W7.setCell ⟨Wa.heap.size, 5, none⟩ (.int .i64 o1)).setCell ⟨Wa.heap.size, 6, none⟩ (.string m1)).setCell ⟨Wa.heap.size, 7, none⟩ (.int .i64 d1)).setCell ⟨Wa.heap.size, 8, none⟩ (.slice wA1 wn1 wc1)).setCell ⟨Wa.heap.size, 9, none⟩ (.slice kA1 kn1 kc1)) := ⟨_, rfl⟩
    have g8 : W7.grownBy W8 (some Wa.heap.size) := by rw [hW8]; exact grown_set (grown_set (grown_set (grown_set (grown_set (grown_refl _ _) _ _) _ _) _ _) _ _) _ _
    have hD8 : W8.heap[Wa.heap.size]? = some (.cells #[.int .i64 3, .int .i64 li, .string nm, .slice none 0 0, .slice none 0 0, .int .i64 o1, .string m1, .int .i64 d1, .slice wA1 wn1 wc1, .slice kA1 kn1 kc1, .string ⟨#[]⟩, .int .i64 0, .string ⟨#[]⟩, .int .i64 0, .slice none 0 0, .slice none 0 0, .int .i64 0, .string ⟨#[]⟩, .int .i64 0, .slice none 0 0, .slice none 0 0, .string ⟨#[]⟩] 54 (0, 0)) := by rw [hW8]; exact row_set (row_set (row_set (row_set (row_set (HD7.out) _) _) _) _) _
    have hs8 : W8.heap.size = W7.heap.size := by rw [hW8]; simp
    rw [← hW8]
    have z8 : W7.heap.size ≤ W8.heap.size := by omega
    have HZ8 := Lib.hid hs8
    have HD8 := Lib.hid hD8
    have q8 := q7.other (below_grown g8 (Nat.le_refl _) (by omega)) (by omega)
    have f8 := f7.set g8
    have htm1 := htm1.keep ((kept_grown g8).mono fun g hg => by omega)
    clear hW8 hD8 hs8 a5 af5 a6 af6 a7 af7 a8 af8 a9 af9
    refine (need_any (⟨#[59]⟩ : ByteArray) _ (q8.below ((Below.refl _ _).alloc (Nat.le_refl _) _)) (by have := heap_alloc_new W8 (.cells #[.string (⟨#[59]⟩ : ByteArray)] 9); rw [HZ8.out] at this; exact this) (by omega)).mono ?_
    rintro e W9 ⟨rfl, q9, g9x⟩
    have g9 := grown_trans (grown_alloc (grown_refl W8 (some b)) _) g9x
    clear g9x
    have z9 := g9.size
    have HD9 := Lib.hid (grown_block g9 HD8.out (by omega))
    have f9 := f8.call g9
    have htm1 := htm1.keep ((kept_grown g9).mono fun g hg => by omega)
    have hrW : W9.heap[w.heap.size]? = some (.cells #[.int .i64 0, .int .i64 0, .string ⟨#[]⟩, .slice none 0 0, .slice none 0 0, .int .i64 0, .string ⟨#[]⟩, .int .i64 0, .slice none 0 0, .slice none 0 0, .string ⟨#[]⟩, .int .i64 0, .string ⟨#[]⟩, .int .i64 0, .slice none 0 0, .slice none 0 0, .int .i64 0, .string ⟨#[]⟩, .int .i64 0, .slice none 0 0, .slice none 0 0, .string ⟨#[]⟩] 54 (0, 0)) := (f9.block _ (by omega) (by omega) (by omega)).trans HRz.out
    have HRW := Lib.hid hrW
    clear hrW
    have HE := Lib.hid (decl_eq HLI.out (body_quorum (x := 4) (d := .zero li) Hh1.out Hh2.out Hh3.out))
    go_wp2_with (first | (with_reducible refine load_decl _ rfl (.tmp 3) rfl Wa.heap.size rfl _ HD9.out rfl ?_) | ((with_reducible refine list_decl _ rfl rfl (.tmp 2) (.tmp 102) rfl w.heap.size _ rfl rfl _ HRW.out rfl rfl (by simp [Value.oneCell']) ?_); intro WR hbR hgR))
    refine ret_decl rfl rfl rfl hbR rfl ?_
    rw [HE.out]
    unfold pQuorum
    rw [HN4.out]
    have hfr : w.grownBy W9 (some b) := ⟨f9.os.trans hfz.os, f9.tape.trans hfz.tape, f9.output.trans hfz.output, Nat.le_trans hfz.size f9.size, fun k hk hne => (f9.block k (by omega) (fun e => hne (by rw [e])) (by omega)).trans (hfz.block k hk hne)⟩
    have htm1 := (htm1.keep ((kept_grown hgR).mono fun g hg => by omega)).mono (S' := (w.heap.size ≤ ·)) (fun g hg _ => by omega)
    refine ⟨_, rfl, ?_, q9.other (below_grown hgR (Nat.le_refl _) (by omega)) hbs, grown_from hfr (below_grown hgR (Nat.le_refl _) (by omega)) (Nat.le_refl _)⟩
    exact dc_mk (SeesIn.empty _ _ _ _) (Nat.le_refl _) (ListAt.empty _ _ _ _ _) (Nat.le_refl _) (htm1) (tm_zero _ _) (tm_zero _ _)

attribute [local go_sem ↓] exec_storeD in
set_option maxRecDepth 100000 in
set_option maxHeartbeats 8000000 in
theorem decl_d {b : Nat} {A : Option Addr} {n c : Nat} {L : Toks} {ln : Nat → Nat} {s : St} (w : World) (h : PSt b A n c L ln s w) (hm : moreB L s = true) (h1 : isW L (⟨#[115, 105, 116, 101]⟩ : ByteArray) s = false) (h2 : isW L (⟨#[102, 97, 117, 108, 116, 115]⟩ : ByteArray) s = false) (h3 : isW L (⟨#[113, 117, 111, 114, 117, 109]⟩ : ByteArray) s = false) (h4 : isW L (⟨#[99, 111, 110, 102, 105, 103]⟩ : ByteArray) s = true) :
    Calls Tryz.prog 33 #[.pointer (some ⟨b, 0, none⟩)] w (DPost b A n c L ln w (pDecl L 4 s)) := by
  have hbs := h.lt
  obtain ⟨h00, hpp⟩ := more_ok hm
  have Hh1 := Lib.hid h1
  have Hh2 := Lib.hid h2
  have Hh3 := Lib.hid h3
  have Hh4 := Lib.hid h4
  clear h1 h2 h3 h4
  have HH := Lib.hid h
  have H00 := Lib.hid h00
  clear h h00 hm
  go_enter Tryz.func33, Tryz.ntmps33
  go_upto_region 1 with fail
  obtain ⟨Wa, hWa⟩ : ∃ Wa : World, Wa = w.alloc (.cells #[.int .i64 0, .int .i64 0, .string ⟨#[]⟩, .slice none 0 0, .slice none 0 0, .int .i64 0, .string ⟨#[]⟩, .int .i64 0, .slice none 0 0, .slice none 0 0, .string ⟨#[]⟩, .int .i64 0, .string ⟨#[]⟩, .int .i64 0, .slice none 0 0, .slice none 0 0, .int .i64 0, .string ⟨#[]⟩, .int .i64 0, .slice none 0 0, .slice none 0 0, .string ⟨#[]⟩] 54) := ⟨_, rfl⟩
  have hba : Below w.heap.size w Wa := by rw [hWa]; exact (Below.refl _ _).alloc (Nat.le_refl _) _
  have hsa : w.heap.size < Wa.heap.size := by rw [hWa]; simp
  have hra : Wa.heap[w.heap.size]? = some (.cells #[.int .i64 0, .int .i64 0, .string ⟨#[]⟩, .slice none 0 0, .slice none 0 0, .int .i64 0, .string ⟨#[]⟩, .int .i64 0, .slice none 0 0, .slice none 0 0, .string ⟨#[]⟩, .int .i64 0, .string ⟨#[]⟩, .int .i64 0, .slice none 0 0, .slice none 0 0, .int .i64 0, .string ⟨#[]⟩, .int .i64 0, .slice none 0 0, .slice none 0 0, .string ⟨#[]⟩] 54 (0, 0)) := by rw [hWa]; exact heap_alloc_new w _
  rw [← hWa]
  have HRa := Lib.hid hra
  clear hWa hra
  have qa := HH.out.below hba
  obtain ⟨g, o, l, rfl, hS, hgs, hbs2, hl, k0, k1, k2, k3, k4, i1, i2, i3⟩ := tok_facts qa hpp
  obtain ⟨c0, c1, c2, c3, cf⟩ := row4 hl
  have hln : (lineOf L s.pos : Int) = ((L[s.pos]'hpp).2 : Int) := by unfold lineOf; rw [List.getElem?_eq_getElem hpp]; rfl
  generalize hli : ((L[s.pos]'hpp).2 : Int) = li at k4 hln
  have HLI := Lib.hid hln
  clear hli hln hl cf k0 k1 k2 k3 c2 c3
  go_cut [3] (fun s3 wx => s3 = .pointer (some ⟨Wa.heap.size, 0, none⟩) ∧ wx.heap[Wa.heap.size]? = some (.cells #[.int .i64 0, .int .i64 li, .string ⟨#[]⟩, .slice none 0 0, .slice none 0 0, .int .i64 0, .string ⟨#[]⟩, .int .i64 0, .slice none 0 0, .slice none 0 0, .string ⟨#[]⟩, .int .i64 0, .string ⟨#[]⟩, .int .i64 0, .slice none 0 0, .slice none 0 0, .int .i64 0, .string ⟨#[]⟩, .int .i64 0, .slice none 0 0, .slice none 0 0, .string ⟨#[]⟩] 54 (0, 0)) ∧ Below Wa.heap.size Wa wx ∧ Wa.heap.size < wx.heap.size)
  case first =>
    have hst := fun (c : Array Value) (hc : c.size = 22) => run_storeD Wa c hc li
    go_region_law (fail)
    all_goals
      go_wp2_with fail
      go_meet
      exact ⟨rfl, heap_alloc_new Wa _, ((Below.refl _ _).alloc (Nat.le_refl _) _).drew, by simp⟩
  case rest =>
    obtain ⟨rfl, hDz, hbz, hsz⟩ := hcut
    obtain ⟨wz, rfl⟩ : ∃ wz : World, wz = wc := ⟨_, rfl⟩
    have HRz := Lib.hid ((hbz.block _ hsa).trans HRa.out)
    have q0 := qa.below hbz
    have f0 := Grown2.refl b Wa.heap.size wz
    have HD0 := Lib.hid hDz
    have z0 : wz.heap.size ≤ wz.heap.size := Nat.le_refl _
    have hfz : w.grownBy wz (some b) := grown_trans (grown_below hba) (grown_below hbz)
    clear hDz c0 c1 k4
    go_wp2_with fail
    have ht := take_any (⟨#[115, 105, 116, 101]⟩ : ByteArray) wz q0
    rw [Hh1.out, taken_not Hh1.out] at ht
    refine ht.mono ?_
    clear ht
    rintro e W1 ⟨rfl, q1, g1⟩
    have z1 := g1.size
    have HD1 := Lib.hid (grown_block g1 HD0.out (by omega))
    have f1 := f0.call g1
    go_wp2_with fail
    have ht := take_any (⟨#[102, 97, 117, 108, 116, 115]⟩ : ByteArray) W1 q1
    rw [Hh2.out, taken_not Hh2.out] at ht
    refine ht.mono ?_
    clear ht
    rintro e W2 ⟨rfl, q2, g2⟩
    have z2 := g2.size
    have HD2 := Lib.hid (grown_block g2 HD1.out (by omega))
    have f2 := f1.call g2
    go_wp2_with fail
    have ht := take_any (⟨#[113, 117, 111, 114, 117, 109]⟩ : ByteArray) W2 q2
    rw [Hh3.out, taken_not Hh3.out] at ht
    refine ht.mono ?_
    clear ht
    rintro e W3 ⟨rfl, q3, g3⟩
    have z3 := g3.size
    have HD3 := Lib.hid (grown_block g3 HD2.out (by omega))
    have f3 := f2.call g3
    go_wp2_with fail
    have ht := take_any (⟨#[99, 111, 110, 102, 105, 103]⟩ : ByteArray) W3 q3
    rw [Hh4.out] at ht
    refine ht.mono ?_
    clear ht
    rintro e W4 ⟨rfl, q4, g4⟩
    have z4 := g4.size
    have HD4 := Lib.hid (grown_block g4 HD3.out (by omega))
    have f4 := f3.call g4
    go_wp2_with fail
    refine (name_any W4 q4).mono ?_
    rintro e W5 ⟨rfl, q5, g5⟩
    have z5 := g5.size
    have HD5 := Lib.hid (grown_block g5 HD4.out (by omega))
    have f5 := f4.call g5
    generalize hN5 : (pName L (taken L (⟨#[99, 111, 110, 102, 105, 103]⟩ : ByteArray) s)).1 = nm at *
    have HN5 := Lib.hid hN5
    clear hN5
    obtain ⟨a0, -, a2, -, -, -, -, -, -, -, -, -, -, -, -, -, -, -, -, -, -, -, af⟩ := row22 HD5.out
    have af0 := af 0
    have af2 := af 2
    clear af
    go_wp2_with fail
    obtain ⟨W6, hW6⟩ : ∃ W6 : World, W6 = ((W5.setCell ⟨Wa.heap.size, 0, none⟩ (.int .i64 4)).setCell ⟨Wa.heap.size, 2, none⟩ (.string nm)) := ⟨_, rfl⟩
    have g6 : W5.grownBy W6 (some Wa.heap.size) := by rw [hW6]; exact grown_set (grown_set (grown_refl _ _) _ _) _ _
    have hD6 : W6.heap[Wa.heap.size]? = some (.cells #[.int .i64 4, .int .i64 li, .string nm, .slice none 0 0, .slice none 0 0, .int .i64 0, .string ⟨#[]⟩, .int .i64 0, .slice none 0 0, .slice none 0 0, .string ⟨#[]⟩, .int .i64 0, .string ⟨#[]⟩, .int .i64 0, .slice none 0 0, .slice none 0 0, .int .i64 0, .string ⟨#[]⟩, .int .i64 0, .slice none 0 0, .slice none 0 0, .string ⟨#[]⟩] 54 (0, 0)) := by rw [hW6]; exact row_set (row_set (HD5.out) _) _
    have hs6 : W6.heap.size = W5.heap.size := by rw [hW6]; simp
    rw [← hW6]
    have z6 : W5.heap.size ≤ W6.heap.size := by omega
    have HZ6 := Lib.hid hs6
    have HD6 := Lib.hid hD6
    have q6 := q5.other (below_grown g6 (Nat.le_refl _) (by omega)) (by omega)
    have f6 := f5.set g6
    clear hW6 hD6 hs6 a0 af0 a2 af2
    refine (cfg_any W6 q6 4 li nm HD6.out (by omega) { Dc.zero li with kind := 4, name := nm }).mono ?_
    rintro e W7 ⟨o2, m2, d2, wA2, wn2, wc2, kA2, kn2, kc2, o3, m3, d3, wA3, wn3, wc3, kA3, kn3, kc3, rfl, hD7, htm2, htm3, q7, f7x⟩
    have z7 := f7x.size
    have f7 : Grown2 b Wa.heap.size wz W7 := ⟨f7x.os.trans f6.os, f7x.tape.trans f6.tape, f7x.output.trans f6.output, Nat.le_trans f6.size f7x.size, fun k hk h1 h2 => (f7x.block k (by have := f6.size; omega) h1 h2).trans (f6.block k hk h1 h2)⟩
    have htm2 := htm2.mono (S' := (wz.heap.size ≤ ·)) (fun g hg _ => by omega)
    have htm3 := htm3.mono (S' := (wz.heap.size ≤ ·)) (fun g hg _ => by omega)
    generalize hpr : (pCfg L { Dc.zero li with kind := 4, name := nm } (pName L (taken L (⟨#[99, 111, 110, 102, 105, 103]⟩ : ByteArray) s)).2).1.proto = pr at *
    generalize hus : (pCfg L { Dc.zero li with kind := 4, name := nm } (pName L (taken L (⟨#[99, 111, 110, 102, 105, 103]⟩ : ByteArray) s)).2).1.use = us at *
    have HD7 := Lib.hid hD7
    have HPR := Lib.hid hpr
    have HUS := Lib.hid hus
    clear hD7 f7x hpr hus
    go_wp2_with fail
    refine (need_any (⟨#[59]⟩ : ByteArray) _ (q7.below ((Below.refl _ _).alloc (Nat.le_refl _) _)) (heap_alloc_new W7 _) (by omega)).mono ?_
    rintro e W8 ⟨rfl, q8, g8x⟩
    have g8 := grown_trans (grown_alloc (grown_refl W7 (some b)) _) g8x
    clear g8x
    have z8 := g8.size
    have HD8 := Lib.hid (grown_block g8 HD7.out (by omega))
    have f8 := f7.call g8
    have htm2 := htm2.keep ((kept_grown g8).mono fun g hg => by omega)
    have htm3 := htm3.keep ((kept_grown g8).mono fun g hg => by omega)
    have hrW : W8.heap[w.heap.size]? = some (.cells #[.int .i64 0, .int .i64 0, .string ⟨#[]⟩, .slice none 0 0, .slice none 0 0, .int .i64 0, .string ⟨#[]⟩, .int .i64 0, .slice none 0 0, .slice none 0 0, .string ⟨#[]⟩, .int .i64 0, .string ⟨#[]⟩, .int .i64 0, .slice none 0 0, .slice none 0 0, .int .i64 0, .string ⟨#[]⟩, .int .i64 0, .slice none 0 0, .slice none 0 0, .string ⟨#[]⟩] 54 (0, 0)) := (f8.block _ (by omega) (by omega) (by omega)).trans HRz.out
    have HRW := Lib.hid hrW
    clear hrW
    have HE := Lib.hid (decl_eq HLI.out (body_config (x := 4) (d := .zero li) Hh1.out Hh2.out Hh3.out Hh4.out))
    go_wp2_with (first | (with_reducible refine load_decl _ rfl (.tmp 3) rfl Wa.heap.size rfl _ HD8.out rfl ?_) | ((with_reducible refine list_decl _ rfl rfl (.tmp 2) (.tmp 102) rfl w.heap.size _ rfl rfl _ HRW.out rfl rfl (by simp [Value.oneCell']) ?_); intro WR hbR hgR))
    refine ret_decl rfl rfl rfl hbR rfl ?_
    rw [HE.out]
    unfold pConfig
    rw [HN5.out]
    have hfr : w.grownBy W8 (some b) := ⟨f8.os.trans hfz.os, f8.tape.trans hfz.tape, f8.output.trans hfz.output, Nat.le_trans hfz.size f8.size, fun k hk hne => (f8.block k (by omega) (fun e => hne (by rw [e])) (by omega)).trans (hfz.block k hk hne)⟩
    have htm2 := (htm2.keep ((kept_grown hgR).mono fun g hg => by omega)).mono (S' := (w.heap.size ≤ ·)) (fun g hg _ => by omega)
    have htm3 := (htm3.keep ((kept_grown hgR).mono fun g hg => by omega)).mono (S' := (w.heap.size ≤ ·)) (fun g hg _ => by omega)
    refine ⟨_, rfl, ?_, q8.other (below_grown hgR (Nat.le_refl _) (by omega)) hbs, grown_from hfr (below_grown hgR (Nat.le_refl _) (by omega)) (Nat.le_refl _)⟩
    have hd : (pCfg L { Dc.zero li with kind := 4, name := nm } (pName L (taken L (⟨#[99, 111, 110, 102, 105, 103]⟩ : ByteArray) s)).2).1 = { Dc.zero li with kind := 4, name := nm, proto := pr, read := (pCfg L { Dc.zero li with kind := 4, name := nm } (pName L (taken L (⟨#[99, 111, 110, 102, 105, 103]⟩ : ByteArray) s)).2).1.read, write := (pCfg L { Dc.zero li with kind := 4, name := nm } (pName L (taken L (⟨#[99, 111, 110, 102, 105, 103]⟩ : ByteArray) s)).2).1.write, use := us } := by rw [← HPR.out, ← HUS.out]; rfl
    rw [hd]
    exact dc_mk (SeesIn.empty _ _ _ _) (Nat.le_refl _) (ListAt.empty _ _ _ _ _) (Nat.le_refl _) (tm_zero _ _) (htm2) (htm3)

end Go.Proofs.YtipicaoinnblpaaGreatDoor
