/- The contract of the parser's method declaration: client. The contract of the parser's method declaration: faults; and all kinds together. -/
import Derived.Test.YtipicaoinnblpaaGreatDoorPkParb
import Derived.Test.YtipicaoinnblpaaGreatDoorPkParc
namespace Go.Proofs.YtipicaoinnblpaaGreatDoor
open Go.RowKit

attribute [local go_sem ↓] exec_storeD in
set_option maxRecDepth 100000 in
set_option maxHeartbeats 8000000 in
theorem decl_f {b : Nat} {A : Option Addr} {n c : Nat} {L : Toks} {ln : Nat → Nat} {s : St} (w : World) (h : PSt b A n c L ln s w) (hm : moreB L s = true) (h1 : isW L (⟨#[115, 105, 116, 101]⟩ : ByteArray) s = false) (h2 : isW L (⟨#[102, 97, 117, 108, 116, 115]⟩ : ByteArray) s = false) (h3 : isW L (⟨#[113, 117, 111, 114, 117, 109]⟩ : ByteArray) s = false) (h4 : isW L (⟨#[99, 111, 110, 102, 105, 103]⟩ : ByteArray) s = false) (h5 : isW L (⟨#[119, 105, 116, 110, 101, 115, 115]⟩ : ByteArray) s = false) (h6 : isW L (⟨#[99, 108, 105, 101, 110, 116]⟩ : ByteArray) s = true) (h9 : isW L (⟨#[102, 97, 117, 108, 116, 115]⟩ : ByteArray) (pName L (taken L (⟨#[99, 108, 105, 101, 110, 116]⟩ : ByteArray) s)).2 = true) :
    Calls Tryz.prog 33 #[.pointer (some ⟨b, 0, none⟩)] w (DPost b A n c L ln w (pDecl L 4 s)) := by
  have hbs := h.lt
  obtain ⟨h00, hpp⟩ := more_ok hm
  have Hh1 := Lib.hid h1
  have Hh2 := Lib.hid h2
  have Hh3 := Lib.hid h3
  have Hh4 := Lib.hid h4
  have Hh5 := Lib.hid h5
  have Hh6 := Lib.hid h6
  have Hh9 := Lib.hid h9
  clear h1 h2 h3 h4 h5 h6 h9
  have HH := Lib.hid h
  have H00 := Lib.hid h00
  clear h h00 hm
  go_enter Tryz.func33, Tryz.ntmps33
  go_upto_region 1 with fail
  obtain ⟨Wa, hWa⟩ : ∃ Wa : World, Wa = w.alloc (.cells #[.int .i64 0, .int .i64 0, .string ⟨#[]⟩, .slice none 0 0, .slice none 0 0, .int .i64 0, .string ⟨#[]⟩, .int .i64 0, .slice none 0 0, .slice none 0 0, .string ⟨#[]⟩, .int .i64 0, .string ⟨#[]⟩, .int .i64 0, .slice none 0 0, .slice none 0 0, .int .i64 0, .string ⟨#[]⟩, .int .i64 0, .slice none 0 0, .slice none 0 0, .string ⟨#[]⟩] 54) := ⟨_, rfl⟩
  have hba : Below w.heap.size w Wa := by rw [hWa]; exact (Below.refl _ _).alloc (Nat.le_refl _) _
  have hsa : w.heap.size < Wa.heap.size := by rw [hWa]; simp
  have hra : Wa.heap[w.heap.size]? = some (.cells #[.int .i64 0, .int .i64 0, .string ⟨#[]⟩, .slice none 0 0, .slice none 0 0, .int .i64 0, .string ⟨#[]⟩, .int .i64 0, .slice none 0 0, .slice none 0 0, .string ⟨#[]⟩, .int .i64 0, .string ⟨#[]⟩, .int .i64 0, .slice none 0 0, .slice none 0 0, .int .i64 0, .string ⟨#[]⟩, .int .i64 0, .slice none 0 0, .slice none 0 0, .string ⟨#[]⟩] 54 (0, 0)) := by rw [hWa]; exact heap_alloc_new w _
  rw [← hWa]
  have HRa := Lib.hid hra
  clear hWa hra
  have qa := HH.out.below hba
  obtain ⟨g, o, l, rfl, hS, hgs, hbs2, hl, k0, k1, k2, k3, k4, i1, i2, i3⟩ := tok_facts qa hpp
  obtain ⟨c0, c1, c2, c3, cf⟩ := row4 hl
  have hln : (lineOf L s.pos : Int) = ((L[s.pos]'hpp).2 : Int) := by unfold lineOf; rw [List.getElem?_eq_getElem hpp]; rfl
  generalize hli : ((L[s.pos]'hpp).2 : Int) = li at k4 hln
  have HLI := Lib.hid hln
  clear hli hln hl cf k0 k1 k2 k3 c2 c3
  go_cut [3] (fun s3 wx => s3 = .pointer (some ⟨Wa.heap.size, 0, none⟩) ∧ wx.heap[Wa.heap.size]? = some (.cells #[.int .i64 0, .int .i64 li, .string ⟨#[]⟩, .slice none 0 0, .slice none 0 0, .int .i64 0, .string ⟨#[]⟩, .int .i64 0, .slice none 0 0, .slice none 0 0, .string ⟨#[]⟩, .int .i64 0, .string ⟨#[]⟩, .int .i64 0, .slice none 0 0, .slice none 0 0, .int .i64 0, .string ⟨#[]⟩, .int .i64 0, .slice none 0 0, .slice none 0 0, .string ⟨#[]⟩] 54 (0, 0)) ∧ Below Wa.heap.size Wa wx ∧ Wa.heap.size < wx.heap.size)
  case first =>
    have hst := fun (c : Array Value) (hc : c.size = 22) => run_storeD Wa c hc li
    go_region_law (fail)
    all_goals
      go_wp2_with fail
      go_meet
      exact ⟨rfl, heap_alloc_new Wa _, ((Below.refl _ _).alloc (Nat.le_refl _) _).drew, by simp⟩
  case rest =>
    obtain ⟨rfl, hDz, hbz, hsz⟩ := hcut
    obtain ⟨wz, rfl⟩ : ∃ wz : World, wz = wc := ⟨_, rfl⟩
    have HRz := Lib.hid ((hbz.block _ hsa).trans HRa.out)
    have q0 := qa.below hbz
    have f0 := Grown2.refl b Wa.heap.size wz
    have HD0 := Lib.hid hDz
    have z0 : wz.heap.size ≤ wz.heap.size := Nat.le_refl _
    have hfz : w.grownBy wz (some b) := grown_trans (grown_below hba) (grown_below hbz)
    clear hDz c0 c1 k4
    go_wp2_with fail
    have ht := take_any (⟨#[115, 105, 116, 101]⟩ : ByteArray) wz q0
    rw [Hh1.out, taken_not Hh1.out] at ht
    refine ht.mono ?_
    clear ht
    rintro e W1 ⟨rfl, q1, g1⟩
    have z1 := g1.size
    have HD1 := Lib.hid (grown_block g1 HD0.out (by omega))
    have f1 := f0.call g1
    go_wp2_with fail
    have ht := take_any (⟨#[102, 97, 117, 108, 116, 115]⟩ : ByteArray) W1 q1
    rw [Hh2.out, taken_not Hh2.out] at ht
    refine ht.mono ?_
    clear ht
    rintro e W2 ⟨rfl, q2, g2⟩
    have z2 := g2.size
    have HD2 := Lib.hid (grown_block g2 HD1.out (by omega))
    have f2 := f1.call g2
    go_wp2_with fail
    have ht := take_any (⟨#[113, 117, 111, 114, 117, 109]⟩ : ByteArray) W2 q2
    rw [Hh3.out, taken_not Hh3.out] at ht
    refine ht.mono ?_
    clear ht
    rintro e W3 ⟨rfl, q3, g3⟩
    have z3 := g3.size
    have HD3 := Lib.hid (grown_block g3 HD2.out (by omega))
    have f3 := f2.call g3
    go_wp2_with fail
    have ht := take_any (⟨#[99, 111, 110, 102, 105, 103]⟩ : ByteArray) W3 q3
    rw [Hh4.out, taken_not Hh4.out] at ht
    refine ht.mono ?_
    clear ht
    rintro e W4 ⟨rfl, q4, g4⟩
    have z4 := g4.size
    have HD4 := Lib.hid (grown_block g4 HD3.out (by omega))
    have f4 := f3.call g4
    go_wp2_with fail
    have ht := take_any (⟨#[119, 105, 116, 110, 101, 115, 115]⟩ : ByteArray) W4 q4
    rw [Hh5.out, taken_not Hh5.out] at ht
    refine ht.mono ?_
    clear ht
    rintro e W5 ⟨rfl, q5, g5⟩
    have z5 := g5.size
    have HD5 := Lib.hid (grown_block g5 HD4.out (by omega))
    have f5 := f4.call g5
    go_wp2_with fail
    have ht := take_any (⟨#[99, 108, 105, 101, 110, 116]⟩ : ByteArray) W5 q5
    rw [Hh6.out] at ht
    refine ht.mono ?_
    clear ht
    rintro e W6 ⟨rfl, q6, g6⟩
    have z6 := g6.size
    have HD6 := Lib.hid (grown_block g6 HD5.out (by omega))
    have f6 := f5.call g6
    go_wp2_with fail
    refine (name_any W6 q6).mono ?_
    rintro e W7 ⟨rfl, q7, g7⟩
    have z7 := g7.size
    have HD7 := Lib.hid (grown_block g7 HD6.out (by omega))
    have f7 := f6.call g7
    generalize hN7 : (pName L (taken L (⟨#[99, 108, 105, 101, 110, 116]⟩ : ByteArray) s)).1 = nm at *
    have HN7 := Lib.hid hN7
    clear hN7
    obtain ⟨a0, -, a2, -, -, -, -, -, -, -, -, -, -, -, -, -, -, -, -, -, -, -, af⟩ := row22 HD7.out
    have af0 := af 0
    have af2 := af 2
    clear af
    go_wp2_with fail
    obtain ⟨W8, hW8⟩ : ∃ W8 : World, W8 = ((W7.setCell ⟨Wa.heap.size, 0, none⟩ (.int .i64 6)).setCell ⟨Wa.heap.size, 2, none⟩ (.string nm)) := ⟨_, rfl⟩
    have g8 : W7.grownBy W8 (some Wa.heap.size) := by rw [hW8]; exact grown_set (grown_set (grown_refl _ _) _ _) _ _
    have hD8 : W8.heap[Wa.heap.size]? = some (.cells #[.int .i64 6, .int .i64 li, .string nm, .slice none 0 0, .slice none 0 0, .int .i64 0, .string ⟨#[]⟩, .int .i64 0, .slice none 0 0, .slice none 0 0, .string ⟨#[]⟩, .int .i64 0, .string ⟨#[]⟩, .int .i64 0, .slice none 0 0, .slice none 0 0, .int .i64 0, .string ⟨#[]⟩, .int .i64 0, .slice none 0 0, .slice none 0 0, .string ⟨#[]⟩] 54 (0, 0)) := by rw [hW8]; exact row_set (row_set (HD7.out) _) _
    have hs8 : W8.heap.size = W7.heap.size := by rw [hW8]; simp
    rw [← hW8]
    have z8 : W7.heap.size ≤ W8.heap.size := by omega
    have HZ8 := Lib.hid hs8
    have HD8 := Lib.hid hD8
    have q8 := q7.other (below_grown g8 (Nat.le_refl _) (by omega)) (by omega)
    have f8 := f7.set g8
    clear hW8 hD8 hs8 a0 af0 a2 af2
    have ht := take_any (⟨#[102, 97, 117, 108, 116, 115]⟩ : ByteArray) W8 q8
    rw [Hh9.out] at ht
    refine ht.mono ?_
    clear ht
    rintro e W9 ⟨rfl, q9, g9⟩
    have z9 := g9.size
    have HD9 := Lib.hid (grown_block g9 HD8.out (by omega))
    have f9 := f8.call g9
    go_wp2_with fail
    refine (name_any W9 q9).mono ?_
    rintro e W10 ⟨rfl, q10, g10⟩
    have z10 := g10.size
    have HD10 := Lib.hid (grown_block g10 HD9.out (by omega))
    have f10 := f9.call g10
    generalize hN10 : (pName L (taken L (⟨#[102, 97, 117, 108, 116, 115]⟩ : ByteArray) (pName L (taken L (⟨#[99, 108, 105, 101, 110, 116]⟩ : ByteArray) s)).2)).1 = us at *
    have HN10 := Lib.hid hN10
    clear hN10
    obtain ⟨-, -, -, -, -, -, -, -, -, -, -, -, -, -, -, -, -, -, -, -, -, a21, af⟩ := row22 HD10.out
    have af21 := af 21
    clear af
    go_wp2_with fail
    obtain ⟨W11, hW11⟩ : ∃ W11 : World, W11 = (W10.setCell ⟨Wa.heap.size, 21, none⟩ (.string us)) := ⟨_, rfl⟩
    have g11 : W10.grownBy W11 (some Wa.heap.size) := by rw [hW11]; exact grown_set (grown_refl _ _) _ _
    have hD11 : W11.heap[Wa.heap.size]? = some (.cells #[.int .i64 6, .int .i64 li, .string nm, .slice none 0 0, .slice none 0 0, .int .i64 0, .string ⟨#[]⟩, .int .i64 0, .slice none 0 0, .slice none 0 0, .string ⟨#[]⟩, .int .i64 0, .string ⟨#[]⟩, .int .i64 0, .slice none 0 0, .slice none 0 0, .int .i64 0, .string ⟨#[]⟩, .int .i64 0, .slice none 0 0, .slice none 0 0, .string us] 54 (0, 0)) := by rw [hW11]; exact row_set (HD10.out) _
    have hs11 : W11.heap.size = W10.heap.size := by rw [hW11]; simp
    rw [← hW11]
    have z11 : W10.heap.size ≤ W11.heap.size := by omega
    have HZ11 := Lib.hid hs11
    have HD11 := Lib.hid hD11
    have q11 := q10.other (below_grown g11 (Nat.le_refl _) (by omega)) (by omega)
    have f11 := f10.set g11
    clear hW11 hD11 hs11 a21 af21
    refine (need_any (⟨#[59]⟩ : ByteArray) _ (q11.below ((Below.refl _ _).alloc (Nat.le_refl _) _)) (by have := heap_alloc_new W11 (.cells #[.string (⟨#[59]⟩ : ByteArray)] 9); rw [HZ11.out] at this; exact this) (by omega)).mono ?_
    rintro e W12 ⟨rfl, q12, g12x⟩
    have g12 := grown_trans (grown_alloc (grown_refl W11 (some b)) _) g12x
    clear g12x
    have z12 := g12.size
    have HD12 := Lib.hid (grown_block g12 HD11.out (by omega))
    have f12 := f11.call g12
    have hrW : W12.heap[w.heap.size]? = some (.cells #[.int .i64 0, .int .i64 0, .string ⟨#[]⟩, .slice none 0 0, .slice none 0 0, .int .i64 0, .string ⟨#[]⟩, .int .i64 0, .slice none 0 0, .slice none 0 0, .string ⟨#[]⟩, .int .i64 0, .string ⟨#[]⟩, .int .i64 0, .slice none 0 0, .slice none 0 0, .int .i64 0, .string ⟨#[]⟩, .int .i64 0, .slice none 0 0, .slice none 0 0, .string ⟨#[]⟩] 54 (0, 0)) := (f12.block _ (by omega) (by omega) (by omega)).trans HRz.out
    have HRW := Lib.hid hrW
    clear hrW
    have HE := Lib.hid (decl_eq HLI.out (body_client (x := 4) (d := .zero li) Hh1.out Hh2.out Hh3.out Hh4.out Hh5.out Hh6.out))
    go_wp2_with (first | (with_reducible refine load_decl _ rfl (.tmp 3) rfl Wa.heap.size rfl _ HD12.out rfl ?_) | ((with_reducible refine list_decl _ rfl rfl (.tmp 2) (.tmp 102) rfl w.heap.size _ rfl rfl _ HRW.out rfl rfl (by simp [Value.oneCell']) ?_); intro WR hbR hgR))
    refine ret_decl rfl rfl rfl hbR rfl ?_
    rw [HE.out]
    have hcl : pClient L (Dc.zero li) (taken L (⟨#[99, 108, 105, 101, 110, 116]⟩ : ByteArray) s) = ({ Dc.zero li with kind := 6, name := nm, use := us }, (pName L (taken L (⟨#[102, 97, 117, 108, 116, 115]⟩ : ByteArray) (pName L (taken L (⟨#[99, 108, 105, 101, 110, 116]⟩ : ByteArray) s)).2)).2) := by
      unfold pClient
      rw [if_pos Hh9.out, HN7.out, ← HN10.out]
      have e9 : taken L (⟨#[102, 97, 117, 108, 116, 115]⟩ : ByteArray) (pName L (taken L (⟨#[99, 108, 105, 101, 110, 116]⟩ : ByteArray) s)).2 = adv (pName L (taken L (⟨#[99, 108, 105, 101, 110, 116]⟩ : ByteArray) s)).2 := by rw [taken, if_pos Hh9.out]
      rw [e9]
    rw [hcl]
    have hfr : w.grownBy W12 (some b) := ⟨f12.os.trans hfz.os, f12.tape.trans hfz.tape, f12.output.trans hfz.output, Nat.le_trans hfz.size f12.size, fun k hk hne => (f12.block k (by omega) (fun e => hne (by rw [e])) (by omega)).trans (hfz.block k hk hne)⟩
    refine ⟨_, rfl, ?_, q12.other (below_grown hgR (Nat.le_refl _) (by omega)) hbs, grown_from hfr (below_grown hgR (Nat.le_refl _) (by omega)) (Nat.le_refl _)⟩
    exact dc_mk (SeesIn.empty _ _ _ _) (Nat.le_refl _) (ListAt.empty _ _ _ _ _) (Nat.le_refl _) (tm_zero _ _) (tm_zero _ _) (tm_zero _ _)

attribute [local go_sem ↓] exec_storeD in
set_option maxRecDepth 100000 in
set_option maxHeartbeats 8000000 in
theorem decl_i {b : Nat} {A : Option Addr} {n c : Nat} {L : Toks} {ln : Nat → Nat} {s : St} (w : World) (h : PSt b A n c L ln s w) (hm : moreB L s = true) (h1 : isW L (⟨#[115, 105, 116, 101]⟩ : ByteArray) s = false) (h2 : isW L (⟨#[102, 97, 117, 108, 116, 115]⟩ : ByteArray) s = false) (h3 : isW L (⟨#[113, 117, 111, 114, 117, 109]⟩ : ByteArray) s = false) (h4 : isW L (⟨#[99, 111, 110, 102, 105, 103]⟩ : ByteArray) s = false) (h5 : isW L (⟨#[119, 105, 116, 110, 101, 115, 115]⟩ : ByteArray) s = false) (h6 : isW L (⟨#[99, 108, 105, 101, 110, 116]⟩ : ByteArray) s = true) (h9 : isW L (⟨#[102, 97, 117, 108, 116, 115]⟩ : ByteArray) (pName L (taken L (⟨#[99, 108, 105, 101, 110, 116]⟩ : ByteArray) s)).2 = false) :
    Calls Tryz.prog 33 #[.pointer (some ⟨b, 0, none⟩)] w (DPost b A n c L ln w (pDecl L 4 s)) := by
  have hbs := h.lt
  obtain ⟨h00, hpp⟩ := more_ok hm
  have Hh1 := Lib.hid h1
  have Hh2 := Lib.hid h2
  have Hh3 := Lib.hid h3
  have Hh4 := Lib.hid h4
  have Hh5 := Lib.hid h5
  have Hh6 := Lib.hid h6
  have Hh9 := Lib.hid h9
  clear h1 h2 h3 h4 h5 h6 h9
  have HH := Lib.hid h
  have H00 := Lib.hid h00
  clear h h00 hm
  go_enter Tryz.func33, Tryz.ntmps33
  go_upto_region 1 with fail
  obtain ⟨Wa, hWa⟩ : ∃ Wa : World, Wa = w.alloc (.cells #[.int .i64 0, .int .i64 0, .string ⟨#[]⟩, .slice none 0 0, .slice none 0 0, .int .i64 0, .string ⟨#[]⟩, .int .i64 0, .slice none 0 0, .slice none 0 0, .string ⟨#[]⟩, .int .i64 0, .string ⟨#[]⟩, .int .i64 0, .slice none 0 0, .slice none 0 0, .int .i64 0, .string ⟨#[]⟩, .int .i64 0, .slice none 0 0, .slice none 0 0, .string ⟨#[]⟩] 54) := ⟨_, rfl⟩
  have hba : Below w.heap.size w Wa := by rw [hWa]; exact (Below.refl _ _).alloc (Nat.le_refl _) _
  have hsa : w.heap.size < Wa.heap.size := by rw [hWa]; simp
  have hra : Wa.heap[w.heap.size]? = some (.cells #[.int .i64 0, .int .i64 0, .string ⟨#[]⟩, .slice none 0 0, .slice none 0 0, .int .i64 0, .string ⟨#[]⟩, .int .i64 0, .slice none 0 0, .slice none 0 0, .string ⟨#[]⟩, .int .i64 0, .string ⟨#[]⟩, .int .i64 0, .slice none 0 0, .slice none 0 0, .int .i64 0, .string ⟨#[]⟩, .int .i64 0, .slice none 0 0, .slice none 0 0, .string ⟨#[]⟩] 54 (0, 0)) := by rw [hWa]; exact heap_alloc_new w _
  rw [← hWa]
  have HRa := Lib.hid hra
  clear hWa hra
  have qa := HH.out.below hba
  obtain ⟨g, o, l, rfl, hS, hgs, hbs2, hl, k0, k1, k2, k3, k4, i1, i2, i3⟩ := tok_facts qa hpp
  obtain ⟨c0, c1, c2, c3, cf⟩ := row4 hl
  have hln : (lineOf L s.pos : Int) = ((L[s.pos]'hpp).2 : Int) := by unfold lineOf; rw [List.getElem?_eq_getElem hpp]; rfl
  generalize hli : ((L[s.pos]'hpp).2 : Int) = li at k4 hln
  have HLI := Lib.hid hln
  clear hli hln hl cf k0 k1 k2 k3 c2 c3
  go_cut [3] (fun s3 wx => s3 = .pointer (some ⟨Wa.heap.size, 0, none⟩) ∧ wx.heap[Wa.heap.size]? = some (.cells #[.int .i64 0, .int .i64 li, .string ⟨#[]⟩, .slice none 0 0, .slice none 0 0, .int .i64 0, .string ⟨#[]⟩, .int .i64 0, .slice none 0 0, .slice none 0 0, .string ⟨#[]⟩, .int .i64 0, .string ⟨#[]⟩, .int .i64 0, .slice none 0 0, .slice none 0 0, .int .i64 0, .string ⟨#[]⟩, .int .i64 0, .slice none 0 0, .slice none 0 0, .string ⟨#[]⟩] 54 (0, 0)) ∧ Below Wa.heap.size Wa wx ∧ Wa.heap.size < wx.heap.size)
  case first =>
    have hst := fun (c : Array Value) (hc : c.size = 22) => run_storeD Wa c hc li
    go_region_law (fail)
    all_goals
      go_wp2_with fail
      go_meet
      exact ⟨rfl, heap_alloc_new Wa _, ((Below.refl _ _).alloc (Nat.le_refl _) _).drew, by simp⟩
  case rest =>
    obtain ⟨rfl, hDz, hbz, hsz⟩ := hcut
    obtain ⟨wz, rfl⟩ : ∃ wz : World, wz = wc := ⟨_, rfl⟩
    have HRz := Lib.hid ((hbz.block _ hsa).trans HRa.out)
    have q0 := qa.below hbz
    have f0 := Grown2.refl b Wa.heap.size wz
    have HD0 := Lib.hid hDz
    have z0 : wz.heap.size ≤ wz.heap.size := Nat.le_refl _
    have hfz : w.grownBy wz (some b) := grown_trans (grown_below hba) (grown_below hbz)
    clear hDz c0 c1 k4
    go_wp2_with fail
    have ht := take_any (⟨#[115, 105, 116, 101]⟩ : ByteArray) wz q0
    rw [Hh1.out, taken_not Hh1.out] at ht
    refine ht.mono ?_
    clear ht
    rintro e W1 ⟨rfl, q1, g1⟩
    have z1 := g1.size
    have HD1 := Lib.hid (grown_block g1 HD0.out (by omega))
    have f1 := f0.call g1
    go_wp2_with fail
    have ht := take_any (⟨#[102, 97, 117, 108, 116, 115]⟩ : ByteArray) W1 q1
    rw [Hh2.out, taken_not Hh2.out] at ht
    refine ht.mono ?_
    clear ht
    rintro e W2 ⟨rfl, q2, g2⟩
    have z2 := g2.size
    have HD2 := Lib.hid (grown_block g2 HD1.out (by omega))
    have f2 := f1.call g2
    go_wp2_with fail
    have ht := take_any (⟨#[113, 117, 111, 114, 117, 109]⟩ : ByteArray) W2 q2
    rw [Hh3.out, taken_not Hh3.out] at ht
    refine ht.mono ?_
    clear ht
    rintro e W3 ⟨rfl, q3, g3⟩
    have z3 := g3.size
    have HD3 := Lib.hid (grown_block g3 HD2.out (by omega))
    have f3 := f2.call g3
    go_wp2_with fail
    have ht := take_any (⟨#[99, 111, 110, 102, 105, 103]⟩ : ByteArray) W3 q3
    rw [Hh4.out, taken_not Hh4.out] at ht
    refine ht.mono ?_
    clear ht
    rintro e W4 ⟨rfl, q4, g4⟩
    have z4 := g4.size
    have HD4 := Lib.hid (grown_block g4 HD3.out (by omega))
    have f4 := f3.call g4
    go_wp2_with fail
    have ht := take_any (⟨#[119, 105, 116, 110, 101, 115, 115]⟩ : ByteArray) W4 q4
    rw [Hh5.out, taken_not Hh5.out] at ht
    refine ht.mono ?_
    clear ht
    rintro e W5 ⟨rfl, q5, g5⟩
    have z5 := g5.size
    have HD5 := Lib.hid (grown_block g5 HD4.out (by omega))
    have f5 := f4.call g5
    go_wp2_with fail
    have ht := take_any (⟨#[99, 108, 105, 101, 110, 116]⟩ : ByteArray) W5 q5
    rw [Hh6.out] at ht
    refine ht.mono ?_
    clear ht
    rintro e W6 ⟨rfl, q6, g6⟩
    have z6 := g6.size
    have HD6 := Lib.hid (grown_block g6 HD5.out (by omega))
    have f6 := f5.call g6
    go_wp2_with fail
    refine (name_any W6 q6).mono ?_
    rintro e W7 ⟨rfl, q7, g7⟩
    have z7 := g7.size
    have HD7 := Lib.hid (grown_block g7 HD6.out (by omega))
    have f7 := f6.call g7
    generalize hN7 : (pName L (taken L (⟨#[99, 108, 105, 101, 110, 116]⟩ : ByteArray) s)).1 = nm at *
    have HN7 := Lib.hid hN7
    clear hN7
    obtain ⟨a0, -, a2, -, -, -, -, -, -, -, -, -, -, -, -, -, -, -, -, -, -, -, af⟩ := row22 HD7.out
    have af0 := af 0
    have af2 := af 2
    clear af
    go_wp2_with fail
    obtain ⟨W8, hW8⟩ : ∃ W8 : World, W8 = ((W7.setCell ⟨Wa.heap.size, 0, none⟩ (.int .i64 6)).setCell ⟨Wa.heap.size, 2, none⟩ (.string nm)) := ⟨_, rfl⟩
    have g8 : W7.grownBy W8 (some Wa.heap.size) := by rw [hW8]; exact grown_set (grown_set (grown_refl _ _) _ _) _ _
    have hD8 : W8.heap[Wa.heap.size]? = some (.cells #[.int .i64 6, .int .i64 li, .string nm, .slice none 0 0, .slice none 0 0, .int .i64 0, .string ⟨#[]⟩, .int .i64 0, .slice none 0 0, .slice none 0 0, .string ⟨#[]⟩, .int .i64 0, .string ⟨#[]⟩, .int .i64 0, .slice none 0 0, .slice none 0 0, .int .i64 0, .string ⟨#[]⟩, .int .i64 0, .slice none 0 0, .slice none 0 0, .string ⟨#[]⟩] 54 (0, 0)) := by rw [hW8]; exact row_set (row_set (HD7.out) _) _
    have hs8 : W8.heap.size = W7.heap.size := by rw [hW8]; simp
    rw [← hW8]
    have z8 : W7.heap.size ≤ W8.heap.size := by omega
    have HZ8 := Lib.hid hs8
    have HD8 := Lib.hid hD8
    have q8 := q7.other (below_grown g8 (Nat.le_refl _) (by omega)) (by omega)
    have f8 := f7.set g8
    clear hW8 hD8 hs8 a0 af0 a2 af2
    have ht := take_any (⟨#[102, 97, 117, 108, 116, 115]⟩ : ByteArray) W8 q8
    rw [Hh9.out, taken_not Hh9.out] at ht
    refine ht.mono ?_
    clear ht
    rintro e W9 ⟨rfl, q9, g9⟩
    have z9 := g9.size
    have HD9 := Lib.hid (grown_block g9 HD8.out (by omega))
    have f9 := f8.call g9
    go_wp2_with fail
    refine (need_any (⟨#[59]⟩ : ByteArray) _ (q9.below ((Below.refl _ _).alloc (Nat.le_refl _) _)) (heap_alloc_new W9 _) (by omega)).mono ?_
    rintro e W10 ⟨rfl, q10, g10x⟩
    have g10 := grown_trans (grown_alloc (grown_refl W9 (some b)) _) g10x
    clear g10x
    have z10 := g10.size
    have HD10 := Lib.hid (grown_block g10 HD9.out (by omega))
    have f10 := f9.call g10
    have hrW : W10.heap[w.heap.size]? = some (.cells #[.int .i64 0, .int .i64 0, .string ⟨#[]⟩, .slice none 0 0, .slice none 0 0, .int .i64 0, .string ⟨#[]⟩, .int .i64 0, .slice none 0 0, .slice none 0 0, .string ⟨#[]⟩, .int .i64 0, .string ⟨#[]⟩, .int .i64 0, .slice none 0 0, .slice none 0 0, .int .i64 0, .string ⟨#[]⟩, .int .i64 0, .slice none 0 0, .slice none 0 0, .string ⟨#[]⟩] 54 (0, 0)) := (f10.block _ (by omega) (by omega) (by omega)).trans HRz.out
    have HRW := Lib.hid hrW
    clear hrW
    have HE := Lib.hid (decl_eq HLI.out (body_client (x := 4) (d := .zero li) Hh1.out Hh2.out Hh3.out Hh4.out Hh5.out Hh6.out))
    go_wp2_with (first | (with_reducible refine load_decl _ rfl (.tmp 3) rfl Wa.heap.size rfl _ HD10.out rfl ?_) | ((with_reducible refine list_decl _ rfl rfl (.tmp 2) (.tmp 102) rfl w.heap.size _ rfl rfl _ HRW.out rfl rfl (by simp [Value.oneCell']) ?_); intro WR hbR hgR))
    refine ret_decl rfl rfl rfl hbR rfl ?_
    rw [HE.out]
    have hcl : pClient L (Dc.zero li) (taken L (⟨#[99, 108, 105, 101, 110, 116]⟩ : ByteArray) s) = ({ Dc.zero li with kind := 6, name := nm }, (pName L (taken L (⟨#[99, 108, 105, 101, 110, 116]⟩ : ByteArray) s)).2) := by
      unfold pClient
      rw [Hh9.out, if_neg (by simp), HN7.out]
    rw [hcl]
    have hfr : w.grownBy W10 (some b) := ⟨f10.os.trans hfz.os, f10.tape.trans hfz.tape, f10.output.trans hfz.output, Nat.le_trans hfz.size f10.size, fun k hk hne => (f10.block k (by omega) (fun e => hne (by rw [e])) (by omega)).trans (hfz.block k hk hne)⟩
    refine ⟨_, rfl, ?_, q10.other (below_grown hgR (Nat.le_refl _) (by omega)) hbs, grown_from hfr (below_grown hgR (Nat.le_refl _) (by omega)) (Nat.le_refl _)⟩
    exact dc_mk (SeesIn.empty _ _ _ _) (Nat.le_refl _) (ListAt.empty _ _ _ _ _) (Nat.le_refl _) (tm_zero _ _) (tm_zero _ _) (tm_zero _ _)

end Go.Proofs.YtipicaoinnblpaaGreatDoor
namespace Go.Proofs.YtipicaoinnblpaaGreatDoor
open Go.RowKit

/-- A list of faults as it is read. -/
def FlAt (w : World) (S : Nat → Prop) (A : Option Addr) (l : List Ft) : Prop := ListAt (FtAt w S) w S 6 A l
theorem FlAt.keep {w w' : World} {S : Nat → Prop} {A : Option Addr} {l : List Ft} (h : FlAt w S A l) (hk : Kept S w w') : FlAt w' S A l := ListAt.keep h hk (fun _ _ h => h.keep hk)
theorem FlAt.mono {w : World} {S S' : Nat → Prop} {A : Option Addr} {l : List Ft} (h : FlAt w S A l) (hS : ∀ g, S g → g < w.heap.size → S' g) : FlAt w S' A l := ListAt.mono h hS (by decide) (fun _ _ h => h.mono hS)
theorem faultsGo_step {L : Toks} {x : Int} {f : Nat} {acc : List Ft} {s : St} (h : isW L (⟨#[124]⟩ : ByteArray) s = true) : faultsGo L x (f + 1) acc s = faultsGo L x f (acc ++ [(pFault L x (taken L (⟨#[124]⟩ : ByteArray) s)).1]) (pFault L x (taken L (⟨#[124]⟩ : ByteArray) s)).2 := by
  have e : taken L (⟨#[124]⟩ : ByteArray) s = adv s := by unfold taken; rw [if_pos h]
  rw [faultsGo, if_pos h, e]
theorem faultsGo_stop {L : Toks} {x : Int} {f : Nat} {acc : List Ft} {s : St} (h : isW L (⟨#[124]⟩ : ByteArray) s = false) : faultsGo L x f acc s = (acc, s) := by
  cases f with
  | zero => rfl
  | succ f => rw [faultsGo, h]; rfl
/-- A fault appended at a step of a region that draws its order; it lies in block g. -/
theorem step_fault (w : World) {ops : Array Oper} {o : Oper} {a : Act} {K : Act → World → Prop} {Q : Exit → Act → World → Prop} {E : Prop} (hgd : o.guard = none) (s x : Operand)
    (ho : o.op = .call { callee := .builtin .append, args := #[s, x], argTypes := #[52, 52] })
    (base : Nat) (v : Value) (n : Nat) (xs : List Value) (hown : w.ownsRow base 97 6 v n xs) (hs : a.eval s = v)
    (g k : Nat) (op : Int) (f1 : ByteArray) (by_ cr : Int) (bA : Option Addr) (bn bc : Nat) (cA : Option Addr) (cn cc : Nat)
    (hblk : w.heap[g]? = some (.cells #[.int .i64 op, .string f1, .int .i64 by_, .int .i64 cr, .slice bA bn bc, .slice cA cn cc] 97 (0, 0))) (hx : a.eval x = .slice (some ⟨g, 0, none⟩) 1 k)
    (hlim : n ≤ 100000000000) (hbase : base ≤ w.heap.size)
    (h : ∀ v' w', w'.ownsRow base 97 6 v' (n + 1) (xs ++ [.int .i64 op, .string f1, .int .i64 by_, .int .i64 cr, .slice bA bn bc, .slice cA cn cc]) → w.grownBy w' v.ownBlock → (v'.ownBlock = v.ownBlock ∨ v'.ownBlock = some w.heap.size) → K (a.put o.dst v') w') :
    if Region.wanted o (yielded ops a.tmps) = true then Oper.wp Tryz.prog o a w K Q else E := by
  obtain ⟨i0, hi, hz0, hz1, hz2⟩ := info_parts info_fault
  have hcell : ∀ j u, [Value.int .i64 op, .string f1, .int .i64 by_, .int .i64 cr, .slice bA bn bc, .slice cA cn cc][j]? = some u → w.cell? ((⟨g, 0, none⟩ : Addr).add j) = some u := by
    intro j u hu
    have hadd : (⟨g, 0, none⟩ : Addr).add j = ⟨g, j, none⟩ := by unfold Addr.add; split <;> simp_all
    rw [hadd, cell_of_row _ g j _ _ (0, 0) hblk]
    simpa using hu
  refine step_append_lies w hgd s x _ ho base 97 i0 _ 6 88 Tryz.underlying52 hi hz0 hz1 hz2 rfl (by decide) v n xs hs hown ⟨g, 0, none⟩ 1 k _ hx rfl hcell (by simp [Value.oneCell']) (by omega) (by unfold maxLen; omega) (by omega) hbase w.heap.size rfl ?_
  intro g' cap w' h2 h3 h4 _
  refine h _ w' h2 h3 ?_
  rcases h4 with h4 | h4
  · exact Or.inl h4.symm
  · exact Or.inr (by rw [h4]; rfl)
theorem Grown2.from {b d base : Nat} {w W W' : World} (h : Grown2 b d w W) (hb : Below base W W') (hs : w.heap.size ≤ base) : Grown2 b d w W' :=
  ⟨hb.os.trans h.os, hb.tape.trans h.tape, hb.output.trans h.output, Nat.le_trans h.size hb.size, fun k hk h1 h2 => (hb.block k (by omega)).trans (h.block k hk h1 h2)⟩

attribute [local go_sem ↓] exec_storeD in
set_option maxRecDepth 100000 in
set_option maxHeartbeats 8000000 in
theorem decl_b {b : Nat} {A : Option Addr} {n c : Nat} {L : Toks} {ln : Nat → Nat} {s : St} (w : World) (h : PSt b A n c L ln s w) (hm : moreB L s = true) (h1 : isW L (⟨#[115, 105, 116, 101]⟩ : ByteArray) s = false) (h2 : isW L (⟨#[102, 97, 117, 108, 116, 115]⟩ : ByteArray) s = true) :
    Calls Tryz.prog 33 #[.pointer (some ⟨b, 0, none⟩)] w (DPost b A n c L ln w (pDecl L 4 s)) := by
  have hbs := h.lt
  obtain ⟨h00, hpp⟩ := more_ok hm
  have Hh1 := Lib.hid h1
  have Hh2 := Lib.hid h2
  clear h1 h2
  have HH := Lib.hid h
  have H00 := Lib.hid h00
  clear h h00 hm
  go_enter Tryz.func33, Tryz.ntmps33
  go_upto_region 1 with fail
  obtain ⟨Wa, hWa⟩ : ∃ Wa : World, Wa = w.alloc (.cells #[.int .i64 0, .int .i64 0, .string ⟨#[]⟩, .slice none 0 0, .slice none 0 0, .int .i64 0, .string ⟨#[]⟩, .int .i64 0, .slice none 0 0, .slice none 0 0, .string ⟨#[]⟩, .int .i64 0, .string ⟨#[]⟩, .int .i64 0, .slice none 0 0, .slice none 0 0, .int .i64 0, .string ⟨#[]⟩, .int .i64 0, .slice none 0 0, .slice none 0 0, .string ⟨#[]⟩] 54) := ⟨_, rfl⟩
  have hba : Below w.heap.size w Wa := by rw [hWa]; exact (Below.refl _ _).alloc (Nat.le_refl _) _
  have hsa : w.heap.size < Wa.heap.size := by rw [hWa]; simp
  have hra : Wa.heap[w.heap.size]? = some (.cells #[.int .i64 0, .int .i64 0, .string ⟨#[]⟩, .slice none 0 0, .slice none 0 0, .int .i64 0, .string ⟨#[]⟩, .int .i64 0, .slice none 0 0, .slice none 0 0, .string ⟨#[]⟩, .int .i64 0, .string ⟨#[]⟩, .int .i64 0, .slice none 0 0, .slice none 0 0, .int .i64 0, .string ⟨#[]⟩, .int .i64 0, .slice none 0 0, .slice none 0 0, .string ⟨#[]⟩] 54 (0, 0)) := by rw [hWa]; exact heap_alloc_new w _
  rw [← hWa]
  have HRa := Lib.hid hra
  clear hWa hra
  have qa := HH.out.below hba
  obtain ⟨g, o, l, rfl, hS, hgs, hbs2, hl, k0, k1, k2, k3, k4, i1, i2, i3⟩ := tok_facts qa hpp
  obtain ⟨c0, c1, c2, c3, cf⟩ := row4 hl
  have hln : (lineOf L s.pos : Int) = ((L[s.pos]'hpp).2 : Int) := by unfold lineOf; rw [List.getElem?_eq_getElem hpp]; rfl
  generalize hli : ((L[s.pos]'hpp).2 : Int) = li at k4 hln
  have HLI := Lib.hid hln
  clear hli hln hl cf k0 k1 k2 k3 c2 c3
  go_cut [3] (fun s3 wx => s3 = .pointer (some ⟨Wa.heap.size, 0, none⟩) ∧ wx.heap[Wa.heap.size]? = some (.cells #[.int .i64 0, .int .i64 li, .string ⟨#[]⟩, .slice none 0 0, .slice none 0 0, .int .i64 0, .string ⟨#[]⟩, .int .i64 0, .slice none 0 0, .slice none 0 0, .string ⟨#[]⟩, .int .i64 0, .string ⟨#[]⟩, .int .i64 0, .slice none 0 0, .slice none 0 0, .int .i64 0, .string ⟨#[]⟩, .int .i64 0, .slice none 0 0, .slice none 0 0, .string ⟨#[]⟩] 54 (0, 0)) ∧ Below Wa.heap.size Wa wx ∧ Wa.heap.size < wx.heap.size)
  case first =>
    have hst := fun (c : Array Value) (hc : c.size = 22) => run_storeD Wa c hc li
    go_region_law (fail)
    all_goals
      go_wp2_with fail
      go_meet
      exact ⟨rfl, heap_alloc_new Wa _, ((Below.refl _ _).alloc (Nat.le_refl _) _).drew, by simp⟩
  case rest =>
    obtain ⟨rfl, hDz, hbz, hsz⟩ := hcut
    obtain ⟨wz, rfl⟩ : ∃ wz : World, wz = wc := ⟨_, rfl⟩
    have HRz := Lib.hid ((hbz.block _ hsa).trans HRa.out)
    have q0 := qa.below hbz
    have f0 := Grown2.refl b Wa.heap.size wz
    have HD0 := Lib.hid hDz
    have z0 : wz.heap.size ≤ wz.heap.size := Nat.le_refl _
    have hfz : w.grownBy wz (some b) := grown_trans (grown_below hba) (grown_below hbz)
    clear hDz c0 c1 k4
    go_wp2_with fail
    have ht := take_any (⟨#[115, 105, 116, 101]⟩ : ByteArray) wz q0
    rw [Hh1.out, taken_not Hh1.out] at ht
    refine ht.mono ?_
    clear ht
    rintro e W1 ⟨rfl, q1, g1⟩
    have z1 := g1.size
    have HD1 := Lib.hid (grown_block g1 HD0.out (by omega))
    have f1 := f0.call g1
    go_wp2_with fail
    have ht := take_any (⟨#[102, 97, 117, 108, 116, 115]⟩ : ByteArray) W1 q1
    rw [Hh2.out] at ht
    refine ht.mono ?_
    clear ht
    rintro e W2 ⟨rfl, q2, g2⟩
    have z2 := g2.size
    have HD2 := Lib.hid (grown_block g2 HD1.out (by omega))
    have f2 := f1.call g2
    go_wp2_with fail
    refine (name_any W2 q2).mono ?_
    rintro e W3 ⟨rfl, q3, g3⟩
    have z3 := g3.size
    have HD3 := Lib.hid (grown_block g3 HD2.out (by omega))
    have f3 := f2.call g3
    generalize hN3 : (pName L (taken L (⟨#[102, 97, 117, 108, 116, 115]⟩ : ByteArray) s)).1 = nm at *
    have HN3 := Lib.hid hN3
    clear hN3
    obtain ⟨a0, -, a2, -, -, -, -, -, -, -, -, -, -, -, -, -, -, -, -, -, -, -, af⟩ := row22 HD3.out
    have af0 := af 0
    have af2 := af 2
    clear af
    go_wp2_with fail
    obtain ⟨W4, hW4⟩ : ∃ W4 : World, W4 = ((W3.setCell ⟨Wa.heap.size, 0, none⟩ (.int .i64 2)).setCell ⟨Wa.heap.size, 2, none⟩ (.string nm)) := ⟨_, rfl⟩
    have g4 : W3.grownBy W4 (some Wa.heap.size) := by rw [hW4]; exact grown_set (grown_set (grown_refl _ _) _ _) _ _
    have hD4 : W4.heap[Wa.heap.size]? = some (.cells #[.int .i64 2, .int .i64 li, .string nm, .slice none 0 0, .slice none 0 0, .int .i64 0, .string ⟨#[]⟩, .int .i64 0, .slice none 0 0, .slice none 0 0, .string ⟨#[]⟩, .int .i64 0, .string ⟨#[]⟩, .int .i64 0, .slice none 0 0, .slice none 0 0, .int .i64 0, .string ⟨#[]⟩, .int .i64 0, .slice none 0 0, .slice none 0 0, .string ⟨#[]⟩] 54 (0, 0)) := by rw [hW4]; exact row_set (row_set (HD3.out) _) _
    have hs4 : W4.heap.size = W3.heap.size := by rw [hW4]; simp
    rw [← hW4]
    have z4 : W3.heap.size ≤ W4.heap.size := by omega
    have HZ4 := Lib.hid hs4
    have HD4 := Lib.hid hD4
    have q4 := q3.other (below_grown g4 (Nat.le_refl _) (by omega)) (by omega)
    have f4 := f3.set g4
    clear hW4 hD4 hs4 a0 af0 a2 af2
    refine (need_any (⟨#[61]⟩ : ByteArray) _ (q4.below ((Below.refl _ _).alloc (Nat.le_refl _) _)) (by have := heap_alloc_new W4 (.cells #[.string (⟨#[61]⟩ : ByteArray)] 9); rw [HZ4.out] at this; exact this) (by omega)).mono ?_
    rintro e W5 ⟨rfl, q5, g5x⟩
    have g5 := grown_trans (grown_alloc (grown_refl W4 (some b)) _) g5x
    clear g5x
    have z5 := g5.size
    have HD5 := Lib.hid (grown_block g5 HD4.out (by omega))
    have f5 := f4.call g5
    go_wp2_with fail
    refine (fault_any W5 q5).mono ?_
    rintro e W6 ⟨op, f1, by_, cr, bA, bn, bc, cA, cn, cc, rfl, hft, q6, g6⟩
    have z6 := g6.size
    have HD6 := Lib.hid (grown_block g6 HD5.out (by omega))
    have f6 := f5.call g6
    have hft := hft.mono (S' := (wz.heap.size ≤ ·)) (fun g hg _ => by omega)
    obtain ⟨-, -, -, -, a4, -, -, -, -, -, -, -, -, -, -, -, -, -, -, -, -, -, af⟩ := row22 HD6.out
    have af4 := af 4
    clear af
    have hds := lt_of_block HD6.out
    obtain ⟨Wx, hWx⟩ : ∃ Wx : World, Wx = W6.setCell ⟨Wa.heap.size, 4, none⟩ (.slice (some ⟨W6.heap.size, 0, none⟩) 1 1) := ⟨_, rfl⟩
    have hgx : W6.grownBy Wx (some Wa.heap.size) := by rw [hWx]; exact grown_set (grown_refl _ _) _ _
    have hsx : Wx.heap.size = W6.heap.size := by rw [hWx]; simp
    have hDx : Wx.heap[Wa.heap.size]? = some (.cells #[.int .i64 2, .int .i64 li, .string nm, .slice none 0 0, .slice (some ⟨W6.heap.size, 0, none⟩) 1 1, .int .i64 0, .string ⟨#[]⟩, .int .i64 0, .slice none 0 0, .slice none 0 0, .string ⟨#[]⟩, .int .i64 0, .string ⟨#[]⟩, .int .i64 0, .slice none 0 0, .slice none 0 0, .int .i64 0, .string ⟨#[]⟩, .int .i64 0, .slice none 0 0, .slice none 0 0, .string ⟨#[]⟩] 54 (0, 0)) := by rw [hWx]; exact row_set HD6.out _
    have hfx := hft.keep ((kept_grown hgx).mono fun g hg => by omega)
    have hrow0 : RowAt FtAt (Wx.alloc (.cells #[.int .i64 op, .string f1, .int .i64 by_, .int .i64 cr, .slice bA bn bc, .slice cA cn cc] 97)) (wz.heap.size ≤ ·) wz.heap.size 97 6 (.slice (some ⟨Wx.heap.size, 0, none⟩) 1 1) [(pFault L 4 (need L (⟨#[61]⟩ : ByteArray) (pName L (taken L (⟨#[102, 97, 117, 108, 116, 115]⟩ : ByteArray) s)).2)).1] := RowAt.one Wx stays_ft rfl rfl (by omega) hfx
    rw [hsx] at hrow0
    have hbx : Below Wx.heap.size Wx (Wx.alloc (.cells #[.int .i64 op, .string f1, .int .i64 by_, .int .i64 cr, .slice bA bn bc, .slice cA cn cc] 97)) := (Below.refl _ _).alloc (Nat.le_refl _) _
    have hxle : W6.heap.size ≤ Wx.heap.size := by omega
    have hq0 := (q6.other (below_grown hgx (Nat.le_refl _) (by omega)) (by omega)).below hbx
    have hf0 := (f6.set hgx).from hbx (by omega)
    have hD0 := (hbx.block _ (by omega)).trans hDx
    have HSX := Lib.hid hsx
    have HRow := Lib.hid hrow0
    have HDD := Lib.hid hD0
    clear hsx hrow0 hD0 hft hfx hDx
    have hfew := q6.few
    go_wp2_with fail
    rw [← hWx]
    clear hWx
    go_loopg [] L.length (fun f wr => ∃ acc s' fV, Hid (faultsGo L 4 f acc s' = pFaults L 4 (need L (⟨#[61]⟩ : ByteArray) (pName L (taken L (⟨#[102, 97, 117, 108, 116, 115]⟩ : ByteArray) s)).2)) ∧ L.length ≤ f + s'.pos ∧ acc.length + f ≤ L.length + 1 ∧ PSt b (some ⟨g, o, none⟩) n c L ln s' wr ∧ Grown2 b Wa.heap.size wz wr ∧ Hid (wr.heap[Wa.heap.size]? = some (.cells #[.int .i64 2, .int .i64 li, .string nm, .slice none 0 0, fV, .int .i64 0, .string ⟨#[]⟩, .int .i64 0, .slice none 0 0, .slice none 0 0, .string ⟨#[]⟩, .int .i64 0, .string ⟨#[]⟩, .int .i64 0, .slice none 0 0, .slice none 0 0, .int .i64 0, .string ⟨#[]⟩, .int .i64 0, .slice none 0 0, .slice none 0 0, .string ⟨#[]⟩] 54 (0, 0))) ∧ RowAt FtAt wr (wz.heap.size ≤ ·) wz.heap.size 97 6 fV acc)
    case atStart => exact ⟨_, _, _, rfl, by omega, by simp; omega, hq0, hf0, HDD.out, HRow.out⟩
    case round =>
      obtain ⟨acc, s', fV, hgo, hfu, hal, hPs, hfr, hDD, hrow⟩ := hrel
      have hsr := hfr.size
      cases his : isW L (⟨#[124]⟩ : ByteArray) s'
      · have ht := take_any (⟨#[124]⟩ : ByteArray) wr hPs
        rw [his, taken_not his] at ht
        rw [faultsGo_stop his] at hgo
        obtain ⟨Af, cf, rfl, hcf, hlist0⟩ := hrow.list stays_ft
        have hfl : FlAt wr (wz.heap.size ≤ ·) Af acc := hlist0
        have HT := Lib.hid ht
        clear ht his hPs hlist0 hrow
        go_wp2_with fail
        refine HT.out.mono ?_
        rintro e W20 ⟨rfl, q20, g20⟩
        have z20 := g20.size
        have HD20 := Lib.hid (grown_block g20 hDD.out (by omega))
        have f20 := hfr.call g20
        have hfl := hfl.keep ((kept_grown g20).mono fun g hg => by omega)
        clear HT hDD
        go_wp2_with fail
        refine (need_any (⟨#[59]⟩ : ByteArray) _ (q20.below ((Below.refl _ _).alloc (Nat.le_refl _) _)) (heap_alloc_new W20 _) (by omega)).mono ?_
        rintro e W21 ⟨rfl, q21, g21x⟩
        have g21 := grown_trans (grown_alloc (grown_refl W20 (some b)) _) g21x
        clear g21x
        have z21 := g21.size
        have HD21 := Lib.hid (grown_block g21 HD20.out (by omega))
        have f21 := f20.call g21
        have hfl := hfl.keep ((kept_grown g21).mono fun g hg => by omega)
        have hrW : W21.heap[w.heap.size]? = some (.cells #[.int .i64 0, .int .i64 0, .string ⟨#[]⟩, .slice none 0 0, .slice none 0 0, .int .i64 0, .string ⟨#[]⟩, .int .i64 0, .slice none 0 0, .slice none 0 0, .string ⟨#[]⟩, .int .i64 0, .string ⟨#[]⟩, .int .i64 0, .slice none 0 0, .slice none 0 0, .int .i64 0, .string ⟨#[]⟩, .int .i64 0, .slice none 0 0, .slice none 0 0, .string ⟨#[]⟩] 54 (0, 0)) := (f21.block _ (by omega) (by omega) (by omega)).trans HRz.out
        have HRW := Lib.hid hrW
        clear hrW
        have HE := Lib.hid (decl_eq HLI.out (body_faults (x := 4) (d := .zero li) Hh1.out Hh2.out))
        go_wp2_with (first | (with_reducible refine load_decl _ rfl (.tmp 3) rfl Wa.heap.size rfl _ HD21.out rfl ?_) | ((with_reducible refine list_decl _ rfl rfl (.tmp 2) (.tmp 102) rfl w.heap.size _ rfl rfl _ HRW.out rfl rfl (by simp [Value.oneCell']) ?_); intro WR hbR hgR))
        refine ret_decl rfl rfl rfl hbR rfl ?_
        rw [HE.out]
        unfold pFaultsD
        rw [HN3.out, ← hgo.out]
        have hfr : w.grownBy W21 (some b) := ⟨f21.os.trans hfz.os, f21.tape.trans hfz.tape, f21.output.trans hfz.output, Nat.le_trans hfz.size f21.size, fun k hk hne => (f21.block k (by omega) (fun e => hne (by rw [e])) (by omega)).trans (hfz.block k hk hne)⟩
        have hfl := (hfl.keep ((kept_grown hgR).mono fun g hg => by omega)).mono (S' := (w.heap.size ≤ ·)) (fun g hg _ => by omega)
        refine ⟨_, rfl, ?_, q21.other (below_grown hgR (Nat.le_refl _) (by omega)) hbs, grown_from hfr (below_grown hgR (Nat.le_refl _) (by omega)) (Nat.le_refl _)⟩
        exact dc_mk (SeesIn.empty _ _ _ _) (Nat.le_refl _) (hfl) (hcf) (tm_zero _ _) (tm_zero _ _) (tm_zero _ _)
      · have ht := take_any (⟨#[124]⟩ : ByteArray) wr hPs
        have hpos := taken_ok his
        have hlt := (isW_ok his).2
        rw [his] at ht
        have HT := Lib.hid ht
        have HI := Lib.hid his
        have HPo := Lib.hid hpos
        clear ht his hPs hpos
        obtain ⟨f, rfl⟩ : ∃ f, gk = f + 1 := ⟨gk - 1, by omega⟩
        go_wp2_with fail
        refine HT.out.mono ?_
        rintro e Wr2 ⟨rfl, hp2, hgr2⟩
        have hfr2 := hfr.call hgr2
        have hsr2 := hgr2.size
        have hDr2 := grown_block hgr2 hDD.out (by omega)
        have hrow2 := hrow.grown stays_ft hgr2 (by omega) (fun g hg => by omega)
        obtain ⟨-, -, -, -, a4, -, -, -, -, -, -, -, -, -, -, -, -, -, -, -, -, -, af⟩ := row22 hDr2
        have af4 := af 4
        have HDr2 := Lib.hid hDr2
        obtain ⟨vs2, l2, hown2, hall2⟩ := id hrow2
        have HALL := Lib.hid (show ∀ (i : Nat) (x : Ft) (u : Value), acc[i]? = some x → vs2[i]? = some u → FtAt Wr2.drew (fun g => wz.heap.size ≤ g ∧ some g ≠ fV.ownBlock) x u from fun i x u hx hu => (hall2 i x u hx hu).keep (kept_all (Below.refl _ _).drew))
        have HC := Lib.hid (fault_any Wr2.drew (hp2.below (Below.refl _ _).drew))
        have HNEW := Lib.hid (show ∀ g, Wr2.heap.size ≤ g → wz.heap.size ≤ g ∧ some g ≠ fV.ownBlock from fun g hg => ⟨by omega, fun e => by have := (hown2.lt g e.symm).2; omega⟩)
        have hbwz : b < wz.heap.size := by omega
        have hDb : Wa.heap.size ≠ b := by omega
        have HAL := Lib.hid (show acc.length ≤ 100000000000 by omega)
        clear af hDr2 HT hDD hall2 hrow hrow2
        go_wp2_with fail
        go_region_law (first | (have X1 := World.ownsRow.alloc (own_grown hown2.drew hgx4 hbwz) (.cells #[.int .i64 op4, .string f4, .int .i64 by4, .int .i64 cr4, .slice bA4 bn4 bc4, .slice cA4 cn4 cc4] 97); have X2 := heap_alloc_new Wr4 (.cells #[.int .i64 op4, .string f4, .int .i64 by4, .int .i64 cr4, .slice bA4 bn4 bc4, .slice cA4 cn4 cc4] 97); have X3 : wz.heap.size ≤ (Wr4.alloc (.cells #[.int .i64 op4, .string f4, .int .i64 by4, .int .i64 cr4, .slice bA4 bn4 bc4, .slice cA4 cn4 cc4] 97)).heap.size := (by rw [World.size_alloc]; omega); (refine step_fault (Wr4.alloc (.cells #[.int .i64 op4, .string f4, .int .i64 by4, .int .i64 cr4, .slice bA4 bn4 bc4, .slice cA4 cn4 cc4] 97)) rfl (.tmp 45) (.tmp 48) rfl wz.heap.size fV acc.length (vs2.flatMap cellsOf) X1 rfl Wr4.heap.size 1 op4 f4 by4 cr4 bA4 bn4 bc4 cA4 cn4 cc4 X2 rfl HAL.out X3 ?_); clear X1 X2 X3; intro v' Wr5 hown5 hgr5 hv5; obtain ⟨Av5, cv5, rfl, hcv5⟩ := own_slice hown5; have X5 := World.ownsRow.alloc (own_grown hown2.drew hgx4 hbwz) (.cells #[.int .i64 op4, .string f4, .int .i64 by4, .int .i64 cr4, .slice bA4 bn4 bc4, .slice cA4 cn4 cc4] 97); have X6 := (((Below.refl Wr4.heap.size Wr4).alloc (Nat.le_refl _) (.cells #[.int .i64 op4, .string f4, .int .i64 by4, .int .i64 cr4, .slice bA4 bn4 bc4, .slice cA4 cn4 cc4] 97)).block Wa.heap.size hT4).trans HDr4.out; have HDr5 := Lib.hid (low_kept hgr5 X5 hsz X6); clear X5 X6; obtain ⟨-, -, -, -, u5, -, -, -, -, -, -, -, -, -, -, -, -, -, -, -, -, -, uf⟩ := row22 HDr5.out; have uf5 := uf 4; clear uf) | (go_simp; go_at_call 68; refine HC.out.mono ?_; rintro e Wr4 ⟨op4, f4, by4, cr4, bA4, bn4, bc4, cA4, cn4, cc4, rfl, ht4, hp4, hgx4⟩; have hsx4 : Wr2.heap.size ≤ Wr4.heap.size := hgx4.size; have hT4 : Wa.heap.size < Wr4.heap.size := (by omega); have HDr4 := Lib.hid (grown_block hgx4 HDr2.out hDb); obtain ⟨-, -, -, -, u4, -, -, -, -, -, -, -, -, -, -, -, -, -, -, -, -, -, uf⟩ := row22 HDr4.out; clear uf))
        all_goals
          have hall4 := fun i x u hx hu => FtAt.keep (HALL.out i x u hx hu) ((kept_grown hgx4).mono fun g hg => by omega)
          have hrow5 : RowAt FtAt Wr5 (wz.heap.size ≤ ·) wz.heap.size 97 6 (.slice Av5 (acc.length + 1) cv5) (acc ++ [(pFault L 4 (taken L (⟨#[124]⟩ : ByteArray) s')).1]) := RowAt.push l2 hall4 stays_ft rfl (ht4.mono (fun g hg _ => HNEW.out g hg)) hown5 (grown_trans (grown_below ((Below.refl _ _).alloc (Nat.le_refl _) _)) hgr5) (by simpa using hv5)
          have hgr6 : Wr5.grownBy (Wr5.setCell ⟨Wa.heap.size, 4, none⟩ (.slice Av5 (acc.length + 1) cv5)) (some Wa.heap.size) := grown_set (grown_refl _ _) _ _
          have hown4 := World.ownsRow.alloc (own_grown hown2.drew hgx4 (by omega)) (.cells #[.int .i64 op4, .string f4, .int .i64 by4, .int .i64 cr4, .slice bA4 bn4 bc4, .slice cA4 cn4 cc4] 97)
          have hb5 := below_own hown4 hgr5 (by simp <;> omega)
          have hsr5 := hgr5.size
          simp only [World.size_alloc] at hsr5
          have hfr5 := ((hfr2.call (grown_trans (grown_below (Below.refl _ _).drew) hgx4)).from ((Below.refl _ _).alloc (Nat.le_refl _) (.cells #[.int .i64 op4, .string f4, .int .i64 by4, .int .i64 cr4, .slice bA4 bn4 bc4, .slice cA4 cn4 cc4] 97)) (by omega)).from hb5 (Nat.le_refl _)
          have hp5 := (hp4.below ((Below.refl _ _).alloc (Nat.le_refl _) _)).other hb5 (by omega)
          go_wp2_with fail
          go_roundg f
          case measure => omega
          case rel =>
            have ha := (ahead_fault (L := L) 4 hp2.pos).le
            rw [HPo.out] at ha
            refine ⟨acc ++ [(pFault L 4 (taken L (⟨#[124]⟩ : ByteArray) s')).1], _, _, ?_, ?_, ?_, hp5.other (below_grown hgr6 (Nat.le_refl _) (by omega)) (by omega), hfr5.set hgr6, row_set HDr5.out _, ?_⟩
            · rw [faultsGo_step HI.out] at hgo; exact hgo
            · omega
            · rw [List.length_append]; simp; omega
            · exact hrow5.grown stays_ft hgr6 (by omega) (fun g hg => by omega)

theorem decl_any {b : Nat} {A : Option Addr} {n c : Nat} {L : Toks} {ln : Nat → Nat} {s : St} (w : World) (h : PSt b A n c L ln s w) (hm : moreB L s = true) :
    Calls Tryz.prog 33 #[.pointer (some ⟨b, 0, none⟩)] w (DPost b A n c L ln w (pDecl L 4 s)) := by
  cases h1 : isW L (⟨#[115, 105, 116, 101]⟩ : ByteArray) s
  · cases h2 : isW L (⟨#[102, 97, 117, 108, 116, 115]⟩ : ByteArray) s
    · cases h3 : isW L (⟨#[113, 117, 111, 114, 117, 109]⟩ : ByteArray) s
      · cases h4 : isW L (⟨#[99, 111, 110, 102, 105, 103]⟩ : ByteArray) s
        · cases h5 : isW L (⟨#[119, 105, 116, 110, 101, 115, 115]⟩ : ByteArray) s
          · cases h6 : isW L (⟨#[99, 108, 105, 101, 110, 116]⟩ : ByteArray) s
            · cases h7 : isW L (⟨#[99, 104, 97, 105, 110]⟩ : ByteArray) s
              · exact decl_h w h hm h1 h2 h3 h4 h5 h6 h7
              · exact decl_g w h hm h1 h2 h3 h4 h5 h6 h7
            · cases h9 : isW L (⟨#[102, 97, 117, 108, 116, 115]⟩ : ByteArray) (pName L (taken L (⟨#[99, 108, 105, 101, 110, 116]⟩ : ByteArray) s)).2
              · exact decl_i w h hm h1 h2 h3 h4 h5 h6 h9
              · exact decl_f w h hm h1 h2 h3 h4 h5 h6 h9
          · exact decl_e w h hm h1 h2 h3 h4 h5
        · exact decl_d w h hm h1 h2 h3 h4
      · exact decl_c w h hm h1 h2 h3
    · exact decl_b w h hm h1 h2
  · exact decl_a w h hm h1
end Go.Proofs.YtipicaoinnblpaaGreatDoor
