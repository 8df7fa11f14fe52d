/- The contract of model where it has not been asked yet. Numbers in range. Condition: the table of math/bits lies in the world. The contract of config: the configuration of a declaration. Where its terms and its model have no error. Condition: the table of math/bits lies in the world. The contract of Dual: the dual expression, or what Valid returns. iC of a size up to a bound. -/
import Derived.Test.YtmohibkomlhlaaaGreatDoorPdf
import Derived.Test.YtmohibkomlhlaaaGreatDoorPde
import Derived.Test.YtmohibkomlhlaaaGreatDoorPdc
set_option maxRecDepth 100000
set_option maxHeartbeats 8000000
namespace Go.Proofs.YtmohibkomlhlaaaGreatDoor
open Go.RowKit
open _root_.Go.Proofs.Tryz
theorem zero_res (w : World) : (zeroValue 144).run prog w = .ok (.agg #[.slice none 0 0, .int .i64 0]) w := by kernel_rfl
theorem model_any {b sb mb c : Nat} {A : Option Addr} {l : List Dc} (w : World) (S : Nat → Prop) (hw : Wd w b sb mb A c l) (hmb : aX prog w 9 mb 0 (fun _ => none)) (hls : aL (dx w S) w S 22 A l) (hS : ∀ g, S g → g < w.heap.size) (hll : l.length ≤ 1000000000) (hn : (aj l).length ≤ 12)
  (x : ByteArray) (hx : x.size ≤ maxLen) (d : Dc) (hd : ql l 2 x = some d) (nm : ByteArray) (bz cr : Nat) (bn cn : List ByteArray) (hft : d.faults = [⟨2, nm, bz, cr, bn, cn⟩]) (hsum : bz + cr ≤ (aj l).length) (hz : Tz w) (F : List (Nat × Nat)) (hF : tJ (aj l).length bz cr = (F, 0)) (ho : FOk F) (hk0 : 0 < (qV F).length ∧ (qV F).length ≤ 1000) :
  Calls prog 41 #[.pointer (some ⟨b, 0, none⟩), .string x] w fun e w' => ∃ A' c', e = .returned (.tuple #[.slice A' (qV F).length c', .int .i64 0]) ∧ ak w' (w.heap.size ≤ ·) 2 A' (qV F).length (bG (qV F)) ∧ (qV F).length ≤ c' ∧ w.grownBy w' (some mb) := by
 have hbA : ∀ (W : World) (o : Obj), Below W.heap.size W (W.alloc o) := fun W o => (Below.refl _ _).alloc (Nat.le_refl _) o
 have HX := Lib.hid (fun (W : World) (hW : Below w.heap.size w W) => Bt W S (hw.below hW) (hls.keep (ai hW hS) (fun _ _ h => h.keep (ai hW hS))) (fun g hg => by have := hS g hg; have := hW.size; omega) hll hn x d hd nm bz cr bn cn hft hsum (hz.below hW (Nat.le_refl _)) F hF ho)
 have hlk := hmb.look_ok (t := 126) (e := 144) aY underlying126 (zero_res w) hx
 obtain ⟨d0, d1, d2⟩ := hw.cells
 clear hls hS hz hF ho hft hd
 go_enter func41, ntmps41
 obtain ⟨W0, hW0⟩ : ∃ W0 : World, W0 = w.alloc (.cells #[.slice none 0 0, .int .i64 0] 144) := ⟨_, rfl⟩
 have hb0 : Below w.heap.size w W0 := by rw [hW0]; exact hbA _ _
 have hr0 : W0.heap[w.heap.size]? = some (.cells #[.slice none 0 0, .int .i64 0] 144 (0, 0)) := by rw [hW0]; exact heap_alloc_new _ _
 have H0 := Lib.hid hW0
 have HR0 := Lib.hid hr0
 have HW := Lib.hid hw
 have HMB := Lib.hid hmb
 clear hW0 hr0 hw hmb
 go_wp2_with fail
 rw [← H0.out]
 refine (HX.out W0 hb0).mono ?_
 rintro e w2 ⟨A2, c2, rfl, hs2, hc2, hb2⟩
 have hbw2 := hb0.trans (hb2.mono hb0.size)
 have hr2 := (hb2.block _ (lt_of_block HR0.out)).trans HR0.out
 obtain ⟨x0, x1⟩ := ay hr2
 have f0 := frozen_of_row _ _ 0 _ _ hr2
 have f1 := frozen_of_row _ _ 1 _ _ hr2
 obtain ⟨kf, hkf⟩ : ∃ kf, kf = qV F := ⟨_, rfl⟩
 have HKF := Lib.hid hkf
 rw [← hkf] at hs2 hc2 hk0 ⊢
 have HS2 := Lib.hid hs2
 have HR2 := Lib.hid hr2
 have hlt2 := lt_of_block hr2
 clear hs2 hr2 hlk d0 d1 d2 hkf
 go_upto_region 4 with fail
 obtain ⟨W3, hW3⟩ : ∃ W3 : World, W3 = (w2.setCell ⟨w.heap.size, 0, none⟩ (.slice A2 kf.length c2)).setCell ⟨w.heap.size, 1, none⟩ (.int .i64 0) := ⟨_, rfl⟩
 have hb3 : Below w.heap.size w W3 := by rw [hW3]; exact (hbw2.setCell (p := ⟨w.heap.size, 0, none⟩) (Nat.le_refl _) _).setCell (p := ⟨w.heap.size, 1, none⟩) (Nat.le_refl _) _
 have hr3 : W3.heap[w.heap.size]? = some (.cells #[.slice A2 kf.length c2, .int .i64 0] 144 (0, 0)) := by rw [hW3]; exact jh HR2.out
 have HR3 := Lib.hid hr3
 have H3 := Lib.hid hW3
 rw [← H3.out]
 have hlt3 := lt_of_block hr3
 have hs3 : w2.heap.size = W3.heap.size := by rw [hW3]; simp
 have hmbl := HMB.out.lt
 have HSEE := Lib.hid (show ak W3 (fun g => w.heap.size < g) 2 A2 kf.length (bG kf) by
  rw [hW3]
  refine (HS2.out.keep (fun g hg _ => ?_)).mono (fun g hg _ => by have := lt_of_block HR0.out; omega) (by decide)
  have hg2 : w.heap.size ≠ g := by have := lt_of_block HR0.out; omega
  rw [Below.heap_setCell _ _ _ g (show g ≠ w.heap.size from hg2.symm), Below.heap_setCell _ _ _ g (show g ≠ w.heap.size from hg2.symm)])
 clear hr3 hW3 x0 x1 f0 f1
 refine ax.start (fun W' => Below W3.heap.size W3 W') [6] [0, 1, 2, 3, 4, 5] (by kernel_rfl) (below_drewN (Below.refl _ _) 1) (fun hHeld => ?_)
 repeat
  refine ax.take (v := ?_) rfl (by decide +kernel) (by rfl) (fun _ _ _ h => h) hHeld ?_ ?_
  rotate_left
  focus
   intro w9 h9
   obtain ⟨z0, z1, z2⟩ := (HW.out.below (hb3.trans (h9.mono hb3.size))).cells
   obtain ⟨z3, z4⟩ := ay ((h9.block _ hlt3).trans HR3.out)
   go_simp
   (try with_reducible rfl)
   done
  simp only [Act.put, List.getElem_toArray, List.getElem_cons_succ, List.getElem_cons_zero, List.setIfInBounds_toArray, List.set_cons_zero, List.set_cons_succ]
 refine ax.one 6 rfl (by decide +kernel) (by rfl) (fun K hK => ?_)
 obtain ⟨W4, hrun, r1, r2, r3⟩ := (HMB.out.below (hb3.trans (hHeld.mono hb3.size)) hmbl).store (t := 126) (e := 144) aY underlying126 (by decide) hx (.agg #[.slice A2 kf.length c2, .int .i64 0])
 go_simp
 refine hK.out _ _ (fun h => absurd h (by decide)) ?_
 clear hK K hrun
 refine ax.done (by decide +kernel) ?_
 have hr4 := (r2.block _ (Nat.lt_of_lt_of_le hlt3 hHeld.size) (fun e => by injection e; omega)).trans ((hHeld.block _ hlt3).trans HR3.out)
 have hsee4 : ak W4 (fun g => w.heap.size < g) 2 A2 kf.length (bG kf) := HSEE.out.keep (fun g hg hl => (r2.block g (Nat.lt_of_lt_of_le hl hHeld.size) (fun e => by injection e; omega)).trans (hHeld.block g hl))
 have hgr4 : w.grownBy W4 (some mb) := au (aV (hb3.trans (hHeld.mono hb3.size))) r2
 obtain ⟨g4, o4, hA4, -, hc4⟩ := hsee4.cells (by omega)
 have hg4 : g4 < W4.heap.size := by
  have h1 := hc4 0 _ (by rw [List.getElem?_eq_getElem (by rw [oD]; omega)])
  exact World.block_lt_of_cell? W4 _ h1
 subst hA4
 have HCL := Lib.hid (fun (W : World) (hW : Below W4.heap.size W4 W) => xR kf g4 o4 c2 W (Nat.lt_of_lt_of_le hg4 hW.size) (fun j u hu => (hW.cell (p := ⟨g4, o4 + j, none⟩) hg4).trans (hc4 j u hu)) (by omega))
 have HR4 := Lib.hid hr4
 have HG4 := Lib.hid hgr4
 have hlt4 := lt_of_block hr4
 have hs4 : w.heap.size ≤ W4.heap.size := by omega
 obtain ⟨kn, hkn⟩ : ∃ kn, kn = kf.length := ⟨_, rfl⟩
 have HKN := Lib.hid hkn
 rw [← hkn] at HCL HR4 hk0 hc2
 rw [← hkn]
 clear r1 r2 r3 hr4 hsee4 hgr4 hc4 hHeld hkn HR3 HSEE H3 HS2 HR2
 simp only [Exit.then]
 go_upto_region 5 with fail
 refine ax.start (fun W' => Below W4.heap.size W4 W') [] [0, 1, 3, 4, 5, 6] (by kernel_rfl) (below_drewN (Below.refl _ _) 1) (fun hHeld => ?_)
 repeat
  refine ax.take (v := ?_) rfl (by decide +kernel) (by rfl) (fun _ _ _ h => h) hHeld ?_ ?_
  rotate_left
  focus
   intro w9 h9
   obtain ⟨z3, z4⟩ := ay ((h9.block _ hlt4).trans HR4.out)
   go_simp
   (try with_reducible rfl)
   done
  simp only [Act.put, List.getElem_toArray, List.getElem_cons_succ, List.getElem_cons_zero, List.setIfInBounds_toArray, List.set_cons_zero, List.set_cons_succ]
 repeat'
  first
  |refine ax.pure (v := ?_) rfl (by decide +kernel) (by rfl) (fun _ _ _ h => h) (fun _ => hHeld) ?_ ?_
   rotate_left
   focus
    intro w9
    go_simp
    (try with_reducible rfl)
    done
   simp only [Act.put, List.getElem_toArray, List.getElem_cons_succ, List.getElem_cons_zero, List.setIfInBounds_toArray, List.set_cons_zero, List.set_cons_succ]
  |refine ax.one 2 rfl (by decide +kernel) (by rfl) (fun K hK => ?_)
  |go_simp
   go_at_call 78
   refine (HCL.out _ hHeld).mono ?_
   rintro e Y1 ⟨v7, rfl, gB, hb7⟩
   have HOWN := Lib.hid gB
   obtain ⟨A7, c7, rfl, hc7⟩ := aJ gB
   clear gB
   have hsz1 := hHeld.size
   have hHeld := hHeld.trans (hb7.mono hHeld.size)
   try go_simp
   refine hK.out _ _ (fun _ => hHeld) ?_
   clear hK K
 refine ax.done (by decide +kernel) ?_
 go_wp2
 go_ret2
 rw [← HKF.out, ← HKN.out]
 exact ⟨A7, c7, rfl, (ak.own HOWN.out).mono (S' := (w.heap.size ≤ ·)) (fun g hg _ => by omega) (by decide), hc7, au HG4.out (aV hHeld)⟩
end Go.Proofs.YtmohibkomlhlaaaGreatDoor
namespace Go.Proofs.YtmohibkomlhlaaaGreatDoor
open Go.RowKit
open _root_.Go.Proofs.Tryz
def CfPost (nm : ByteArray) (kd : Int) (R W : List Nat) (F : List (Nat × Nat)) (mb : Nat) (w : World) (e : Ending) (w' : World) : Prop :=
 ∃ rA rc wA wc fA fc, e = .returned (.tuple #[.agg #[.string nm, .int .i64 kd, .int .u16 (gJ R ||| gJ W : Nat), .slice rA R.length rc, .slice wA W.length wc, .slice fA F.length fc], .int .i64 0]) ∧
  ak w' (w.heap.size ≤ ·) 1 rA R.length (fG R) ∧ R.length ≤ rc ∧ ak w' (w.heap.size ≤ ·) 1 wA W.length (fG W) ∧ W.length ≤ wc ∧ ak w' (w.heap.size ≤ ·) 2 fA F.length (bG F) ∧ F.length ≤ fc ∧ w.grownBy w' (some mb)
def zC (L : List Nat) : Prop := L.length ≤ 400 ∧ ∀ x ∈ L, x < 4096
structure CSt (w W : World) (nm : ByteArray) (cs : List Value) (mem : Nat) (v3 v4 : Value) : Prop where
 bl : Below w.heap.size w W
 r3 : W.heap[w.heap.size]? = some (.cells cs.toArray 35 (0, 0))
 r4 : W.heap[w.heap.size + 1]? = some (.cells #[.string ⟨#[]⟩, .int .i64 0, .int .u16 0, .slice none 0 0, .slice none 0 0, .slice none 0 0] 54 (0, 0))
 r6 : W.heap[w.heap.size + 1 + 1]? = some (.cells #[.string nm, .int .i64 1, .int .u16 (mem : Nat), v3, v4, .slice none 0 0] 54 (0, 0))
section
variable {w W W' : World} {nm : ByteArray} {cs : List Value} {mem : Nat} {v3 v4 : Value}
theorem CSt.later (h : CSt w W nm cs mem v3 v4) (hb : Below W.heap.size W W') : CSt w W' nm cs mem v3 v4 :=
 ⟨h.bl.trans (hb.mono h.bl.size), (hb.block _ (lt_of_block h.r3)).trans h.r3, (hb.block _ (lt_of_block h.r4)).trans h.r4, (hb.block _ (lt_of_block h.r6)).trans h.r6⟩
theorem CSt.set {mem' : Nat} {v3' v4' : Value} (h : CSt w W nm cs mem v3 v4) (i : Nat) (u : Value) (hrow : (#[.string nm, .int .i64 1, .int .u16 (mem : Nat), v3, v4, .slice none 0 0] : Array Value).setIfInBounds i u = #[.string nm, .int .i64 1, .int .u16 (mem' : Nat), v3', v4', .slice none 0 0]) : CSt w (W.setCell ⟨w.heap.size + 1 + 1, i, none⟩ u) nm cs mem' v3' v4' := by
 have hne : ∀ g, g ≠ w.heap.size + 1 + 1 → (W.setCell ⟨w.heap.size + 1 + 1, i, none⟩ u).heap[g]? = W.heap[g]? := fun g hg => Below.heap_setCell W ⟨w.heap.size + 1 + 1, i, none⟩ u g hg
 refine ⟨h.bl.setCell (p := ⟨w.heap.size + 1 + 1, i, none⟩) (by show w.heap.size ≤ w.heap.size + 1 + 1; omega) _, (hne _ (by omega)).trans h.r3, (hne _ (by omega)).trans h.r4, ?_⟩
 rw [← hrow]
 exact aC h.r6 (i := i) u
theorem CSt.cells (h : CSt w W nm cs mem v3 v4) : W.cell? ⟨w.heap.size + 1 + 1, 0, none⟩ = some (.string nm) ∧ W.cell? ⟨w.heap.size + 1 + 1, 1, none⟩ = some (.int .i64 1) ∧ W.cell? ⟨w.heap.size + 1 + 1, 2, none⟩ = some (.int .u16 (mem : Nat)) ∧ W.cell? ⟨w.heap.size + 1 + 1, 3, none⟩ = some v3 ∧ W.cell? ⟨w.heap.size + 1 + 1, 4, none⟩ = some v4 ∧ W.cell? ⟨w.heap.size + 1 + 1, 5, none⟩ = some (.slice none 0 0) := by
 refine ⟨?_, ?_, ?_, ?_, ?_, ?_⟩ <;> rw [cell_of_row W _ _ _ _ _ h.r6] <;> rfl
theorem CSt.dc (h : CSt w W nm cs mem v3 v4) {j : Nat} {u : Value} (hj : cs[j]? = some u) : W.cell? ⟨w.heap.size, j, none⟩ = some u := eH h.r3 hj
end
theorem Cw : (prog.info? 54).map (·.size) = some 6 := by kernel_rfl
theorem ret_cf {fn : Func} {slot u : Nat} {R : Ending → World → Prop} {a : Act} {W : World} {r : Nat} {cells : Array Value} {q : Value} (hres : fn.results = #[.cell slot 54, .tmp u]) (hp : a.tmps.getD slot undef = .pointer (some ⟨r, 0, none⟩)) (hq : a.tmps.getD u undef = q) (hd : a.defers = [])
  (hblk : W.heap[r]? = some (.cells cells 54 (0, 0))) (hc : cells.size = 6) (hR : R (.returned (.tuple #[.agg cells, q])) W) : bodyPost prog fn R .ret a W := by
 refine bodyPost_ret (v := .tuple #[.agg cells, q]) ?_ hd hR
 rw [results_cell_tmp hres, hp, hq]
 simp [asAddr, run_loadVar_row W r 54 54 cells (0, 0) _ hblk underlying54 rfl (by rw [hc]; exact Cw), Result.andThen]
theorem yw {W : World} {b : Nat} {a0 a1 a2 a3 a4 a5 b0 b1 b2 b3 b4 b5 : Value} {T : TypeId} (h : W.heap[b]? = some (.cells #[a0, a1, a2, a3, a4, a5] T (0, 0))) :
  ((((((W.setCell ⟨b, 0, none⟩ b0).setCell ⟨b, 1, none⟩ b1).setCell ⟨b, 2, none⟩ b2).setCell ⟨b, 3, none⟩ b3).setCell ⟨b, 4, none⟩ b4).setCell ⟨b, 5, none⟩ b5).heap[b]? = some (.cells #[b0, b1, b2, b3, b4, b5] T (0, 0)) :=
 aC (aC (aC (aC (aC (aC h b0) b1) b2) b3) b4) b5
theorem GY {b sb mb c : Nat} {A : Option Addr} {l : List Dc} (w : World) (S : Nat → Prop) (hw : Wd w b sb mb A c l) (hmb : aX prog w 9 mb 0 (fun _ => none)) (hls : aL (dx w S) w S 22 A l) (hS : ∀ g, S g → g < w.heap.size)
  (d : Dc) (v : Value) (hd : dx w S d v) (xr xw : Ex) (hr : EOk b sb mb A c l d.read (xr, 0)) (hrl : jN xr) (hww : EOk b sb mb A c l d.write (xw, 0)) (hwl : jN xw) (R Wr : List Nat) (hR : vv xr = (R, 0)) (hWr : vv xw = (Wr, 0)) (hRl : zC R) (hWl : zC Wr)
  (F : List (Nat × Nat)) (hm : ∀ (W : World) (S' : Nat → Prop), Wd W b sb mb A c l → aX prog W 9 mb 0 (fun _ => none) → aL (dx W S') W S' 22 A l → (∀ g, S' g → g < W.heap.size) → Tz W → Calls prog 41 #[.pointer (some ⟨b, 0, none⟩), .string d.use] W fun e w' => ∃ A' c', e = .returned (.tuple #[.slice A' F.length c', .int .i64 0]) ∧ ak w' (W.heap.size ≤ ·) 2 A' F.length (bG F) ∧ F.length ≤ c' ∧ W.grownBy w' (some mb))
  (hp : (d.proto = (⟨#[99, 114, 97, 115, 104]⟩ : ByteArray)) = True) (hz : Tz w) :
  Calls prog 40 #[.pointer (some ⟨b, 0, none⟩), v] w (CfPost d.name 1 R Wr F mb w) := by
 have hbA : ∀ (W : World) (o : Obj), Below W.heap.size W (W.alloc o) := fun W o => (Below.refl _ _).alloc (Nat.le_refl _) o
 obtain ⟨nA, nc, fA, fc, vt, vr, vw, rfl, -, -, -, -, h5, h6, h7⟩ := hd
 have HT6 := Lib.hid h6
 have HT7 := Lib.hid h7
 obtain ⟨o1, m1, d1, wA1, wn1, wc1, kA1, kn1, kc1, rfl⟩ := h5.form
 obtain ⟨o2, m2, d2, wA2, wn2, wc2, kA2, kn2, kc2, rfl⟩ := h6.form
 obtain ⟨o3, m3, d3, wA3, wn3, wc3, kA3, kn3, kc3, rfl⟩ := h7.form
 clear h5 h6 h7
 simp only [Value.cells, List.append_toArray, List.cons_append, List.nil_append]
 have hpr : d.proto = (⟨#[99, 114, 97, 115, 104]⟩ : ByteArray) := by rw [hp]; trivial
 rw [hpr]
 obtain ⟨nm, hnm⟩ : ∃ nm, nm = d.name := ⟨_, rfl⟩
 obtain ⟨us, hus⟩ : ∃ us, us = d.use := ⟨_, rfl⟩
 rw [← hus] at hm
 rw [← hnm, ← hus]
 clear hnm hus hpr hp
 obtain ⟨cs, hcs⟩ : ∃ cs : List Value, cs = [.int .i64 d.kind, .int .i64 d.line, .string nm, .slice nA d.names.length nc, .slice fA d.faults.length fc, .int .i64 o1, .string m1, .int .i64 d1, .slice wA1 wn1 wc1, .slice kA1 kn1 kc1, .string (⟨#[99, 114, 97, 115, 104]⟩ : ByteArray), .int .i64 o2, .string m2, .int .i64 d2, .slice wA2 wn2 wc2, .slice kA2 kn2 kc2, .int .i64 o3, .string m3, .int .i64 d3, .slice wA3 wn3 wc3, .slice kA3 kn3 kc3, .string us] := ⟨_, rfl⟩
 obtain ⟨W0, hW0⟩ : ∃ W0 : World, W0 = ((w.alloc (.cells #[.int .i64 d.kind, .int .i64 d.line, .string nm, .slice nA d.names.length nc, .slice fA d.faults.length fc, .int .i64 o1, .string m1, .int .i64 d1, .slice wA1 wn1 wc1, .slice kA1 kn1 kc1, .string (⟨#[99, 114, 97, 115, 104]⟩ : ByteArray), .int .i64 o2, .string m2, .int .i64 d2, .slice wA2 wn2 wc2, .slice kA2 kn2 kc2, .int .i64 o3, .string m3, .int .i64 d3, .slice wA3 wn3 wc3, .slice kA3 kn3 kc3, .string us] 35)).alloc (.cells #[.string ⟨#[]⟩, .int .i64 0, .int .u16 0, .slice none 0 0, .slice none 0 0, .slice none 0 0] 54)).alloc (.cells #[.string nm, .int .i64 2, .int .u16 0, .slice none 0 0, .slice none 0 0, .slice none 0 0] 54) := ⟨_, rfl⟩
 have hb0 : Below w.heap.size w W0 := by rw [hW0]; exact ((hbA _ _).alloc (by simp) _).alloc (by simp; omega) _
 have q3 : W0.heap[w.heap.size]? = some (.cells cs.toArray 35 (0, 0)) := by rw [hW0, hcs, heap_alloc_old _ _ (by simp <;> omega), heap_alloc_old _ _ (by simp <;> omega)]; exact alloc_at _ _ (by simp)
 have q4 : W0.heap[w.heap.size + 1]? = some (.cells #[.string ⟨#[]⟩, .int .i64 0, .int .u16 0, .slice none 0 0, .slice none 0 0, .slice none 0 0] 54 (0, 0)) := by rw [hW0, heap_alloc_old _ _ (by simp <;> omega)]; exact alloc_at _ _ (by simp)
 have q6 : W0.heap[w.heap.size + 1 + 1]? = some (.cells #[.string nm, .int .i64 2, .int .u16 0, .slice none 0 0, .slice none 0 0, .slice none 0 0] 54 (0, 0)) := by rw [hW0]; exact alloc_at _ _ (by simp)
 have e10 : cs[10]? = some (.string (⟨#[99, 114, 97, 115, 104]⟩ : ByteArray)) := by rw [hcs]; rfl
 have e11 : cs[11]? = some (.int .i64 o2) := by rw [hcs]; rfl
 have e12 : cs[12]? = some (.string m2) := by rw [hcs]; rfl
 have e13 : cs[13]? = some (.int .i64 d2) := by rw [hcs]; rfl
 have e14 : cs[14]? = some (.slice wA2 wn2 wc2) := by rw [hcs]; rfl
 have e15 : cs[15]? = some (.slice kA2 kn2 kc2) := by rw [hcs]; rfl
 have e16 : cs[16]? = some (.int .i64 o3) := by rw [hcs]; rfl
 have e17 : cs[17]? = some (.string m3) := by rw [hcs]; rfl
 have e18 : cs[18]? = some (.int .i64 d3) := by rw [hcs]; rfl
 have e19 : cs[19]? = some (.slice wA3 wn3 wc3) := by rw [hcs]; rfl
 have e20 : cs[20]? = some (.slice kA3 kn3 kc3) := by rw [hcs]; rfl
 have e21 : cs[21]? = some (.string us) := by rw [hcs]; rfl
 have H0 := Lib.hid hW0
 have HW := Lib.hid hw
 have HMB := Lib.hid hmb
 have HLS := Lib.hid hls
 have HZ := Lib.hid hz
 have HM := Lib.hid hm
 have hst1 : CSt w (W0.setCell ⟨w.heap.size + 1 + 1, 1, none⟩ (.int .i64 1)) nm cs 0 (.slice none 0 0) (.slice none 0 0) := by
  have hne : ∀ g, g ≠ w.heap.size + 1 + 1 → (W0.setCell ⟨w.heap.size + 1 + 1, 1, none⟩ (.int .i64 1)).heap[g]? = W0.heap[g]? := fun g hg => Below.heap_setCell W0 ⟨w.heap.size + 1 + 1, 1, none⟩ (.int .i64 1) g hg
  exact ⟨hb0.setCell (p := ⟨w.heap.size + 1 + 1, 1, none⟩) (by show w.heap.size ≤ w.heap.size + 1 + 1; omega) _, (hne _ (by omega)).trans q3, (hne _ (by omega)).trans q4, aC q6 (i := 1) (.int .i64 1)⟩
 have HST1 := Lib.hid hst1
 have k10 := eH q3 e10
 have k61 : W0.cell? ⟨w.heap.size + 1 + 1, 1, none⟩ = some (.int .i64 2) := by rw [cell_of_row W0 _ _ _ _ _ q6]; rfl
 have f61 := frozen_of_row W0 _ 1 _ _ q6
 have E := Lib.hid (And.intro e10 (And.intro e11 (And.intro e12 (And.intro e13 (And.intro e14 (And.intro e15 (And.intro e16 (And.intro e17 (And.intro e18 (And.intro e19 (And.intro e20 e21)))))))))))
 have hSW : ∀ {W : World}, Below w.heap.size w W → ∀ g, S g → g < W.heap.size := fun hW g hg => by have := hS g hg; have := hW.size; omega
 have HS1 := Lib.hid (fun (W : World) (hW : Below w.heap.size w W) => zJ W S (hw.below hW) (hls.keep (ai hW hS) (fun _ _ h => h.keep (ai hW hS))) (hSW hW) d.read _ (HT6.out.keep (ai hW hS)) xr hr hrl (hz.below hW (Nat.le_refl _)))
 have HS2 := Lib.hid (fun (W : World) (hW : Below w.heap.size w W) => zJ W S (hw.below hW) (hls.keep (ai hW hS) (fun _ _ h => h.keep (ai hW hS))) (hSW hW) d.write _ (HT7.out.keep (ai hW hS)) xw hww hwl (hz.below hW (Nat.le_refl _)))
 simp only [hR] at HS1
 simp only [hWr] at HS2
 clear hw hmb hls hz hm hr hrl hww hwl hR hWr hW0 hcs q3 q4 q6 hst1 HT6 HT7 e10 e11 e12 e13 e14 e15 e16 e17 e18 e19 e20 e21
 go_enter func40, ntmps40
 go_upto_region 2 with fail
 rw [← H0.out]
 go_upto_region 4 with fail
 obtain ⟨W1, hW1⟩ : ∃ W1 : World, W1 = W0.setCell ⟨w.heap.size + 1 + 1, 1, none⟩ (.int .i64 1) := ⟨_, rfl⟩
 have HST := HST1.out
 rw [← hW1] at HST ⊢
 have hb1 := HST.bl
 obtain ⟨t10, t11, t12, t13, t14, t15, t16, t17, t18, t19, t20, t21⟩ := E.out
 have p11 := HST.dc t11
 have p12 := HST.dc t12
 have p13 := HST.dc t13
 have p14 := HST.dc t14
 have p15 := HST.dc t15
 have ST1 := Lib.hid HST
 clear hW1 HST k10 k61 f61 t10 t11 t12 t13 t14 t15 t16 t17 t18 t19 t20 t21
 go_wp2_with fail
 refine (HS1.out W1 hb1).mono ?_
 rintro e w2 ⟨rA, rc, rfl, hsr, hrc, hb2⟩
 have hst2 := ST1.out.later hb2
 obtain ⟨z0, z1, z2, z3, z4, z5⟩ := hst2.cells
 have f3 := frozen_of_row w2 _ 3 _ _ hst2.r6
 have ST2 := Lib.hid (hst2.set (mem' := 0) (v3' := .slice rA R.length rc) (v4' := .slice none 0 0) 3 (.slice rA R.length rc) rfl)
 have HSR := Lib.hid ((hsr.mono (S' := fun g => w.heap.size + 1 + 1 < g) (fun g hg _ => by have := lt_of_block ST1.out.r6; omega) (by decide)))
 clear hst2 hsr p11 p12 p13 p14 p15
 go_upto_region 8 with fail
 obtain ⟨W3, hW3⟩ : ∃ W3 : World, W3 = w2.setCell ⟨w.heap.size + 1 + 1, 3, none⟩ (.slice rA R.length rc) := ⟨_, rfl⟩
 have HST := ST2.out
 rw [← hW3] at HST ⊢
 have hb3 := HST.bl
 have HSR3 := Lib.hid (show ak W3 (fun g => w.heap.size + 1 + 1 < g) 1 rA R.length (fG R) from HSR.out.keep (fun g hg _ => by rw [hW3]; exact Below.heap_setCell w2 ⟨w.heap.size + 1 + 1, 3, none⟩ (.slice rA R.length rc) g (show g ≠ w.heap.size + 1 + 1 by omega)))
 obtain ⟨t10, t11, t12, t13, t14, t15, t16, t17, t18, t19, t20, t21⟩ := E.out
 have p16 := HST.dc t16
 have p17 := HST.dc t17
 have p18 := HST.dc t18
 have p19 := HST.dc t19
 have p20 := HST.dc t20
 have ST3 := Lib.hid HST
 clear hW3 HST t10 t11 t12 t13 t14 t15 t16 t17 t18 t19 t20 t21 z0 z1 z2 z3 z4 z5 f3 hb2 ST2 HSR
 go_wp2_with fail
 refine (HS2.out W3 hb3).mono ?_
 rintro e w4 ⟨wA, wc, rfl, hsw, hwc, hb4⟩
 have hst4 := ST3.out.later hb4
 obtain ⟨z0, z1, z2, z3, z4, z5⟩ := hst4.cells
 have f4 := frozen_of_row w4 _ 4 _ _ hst4.r6
 have ST4 := Lib.hid (hst4.set (mem' := 0) (v3' := .slice rA R.length rc) (v4' := .slice wA Wr.length wc) 4 (.slice wA Wr.length wc) rfl)
 have HSR4 := Lib.hid (HSR3.out.keep (aH hb4))
 have HSW4 := Lib.hid ((hsw.mono (S' := fun g => w.heap.size + 1 + 1 < g) (fun g hg _ => by have := lt_of_block ST3.out.r6; omega) (by decide)))
 clear hst4 hsw p16 p17 p18 p19 p20 HSR3
 go_upto_region 11 with fail
 obtain ⟨W5, hW5⟩ : ∃ W5 : World, W5 = w4.setCell ⟨w.heap.size + 1 + 1, 4, none⟩ (.slice wA Wr.length wc) := ⟨_, rfl⟩
 have HST := ST4.out
 rw [← hW5] at HST ⊢
 have hk5 : ∀ g, w.heap.size + 1 + 1 < g → g < w4.heap.size → W5.heap[g]? = w4.heap[g]? := fun g hg _ => by rw [hW5]; exact Below.heap_setCell w4 ⟨w.heap.size + 1 + 1, 4, none⟩ (.slice wA Wr.length wc) g (show g ≠ w.heap.size + 1 + 1 by omega)
 have HSR5 := Lib.hid (HSR4.out.keep hk5)
 have HSW5 := Lib.hid (HSW4.out.keep hk5)
 have ST5 := Lib.hid HST
 clear hW5 HST z0 z1 z2 z3 z4 z5 f4 hb4 ST4 HSR4 HSW4 hk5
 obtain ⟨uR, huR⟩ : ∃ uR, uR = gJ R := ⟨_, rfl⟩
 obtain ⟨uW, huW⟩ : ∃ uW, uW = gJ Wr := ⟨_, rfl⟩
 have HS3 := Lib.hid (fun (W : World) (hW : Below W5.heap.size W5 W) => tK R (fun x hx => by have := hRl.2 x hx; omega) rA rc W (· < W.heap.size) ((HSR5.out.keep (aH hW)).mono (fun g _ hl => hl) (by decide)) (fun g hg => hg) (by have := hRl.1; omega))
 have HS4 := Lib.hid (fun (W : World) (hW : Below W5.heap.size W5 W) => tK Wr (fun x hx => by have := hWl.2 x hx; omega) wA wc W (· < W.heap.size) ((HSW5.out.keep (aH hW)).mono (fun g _ hl => hl) (by decide)) (fun g hg => hg) (by have := hWl.1; omega))
 have h16R : uR < 65536 := by rw [huR]; exact qH (k := 16) (fun x hx => by have := hRl.2 x hx; omega)
 have h16W : uW < 65536 := by rw [huW]; exact qH (k := 16) (fun x hx => by have := hWl.2 x hx; omega)
 simp only [← huR] at HS3
 simp only [← huW] at HS4
 have hob := u16_or_nat uR uW h16R h16W
 obtain ⟨uu, huu⟩ : ∃ uu, uu = uR ||| uW := ⟨_, rfl⟩
 rw [← huu] at hob
 have HUU := Lib.hid (show gJ R ||| gJ Wr = uu by rw [huu, huR, huW])
 clear huR huW huu
 refine ax.start (fun W' => Below W5.heap.size W5 W') [8] [0, 1, 3, 4, 7] (by kernel_rfl) (below_drewN (Below.refl _ _) 1) (fun hHeld => ?_)
 repeat
  refine ax.take (v := ?_) rfl (by decide +kernel) (by rfl) (fun _ _ _ h => h) hHeld ?_ ?_
  rotate_left
  focus
   intro w9 h9
   obtain ⟨z0, z1, z2, z3, z4, z5⟩ := (ST5.out.later h9).cells
   go_simp
   (try with_reducible rfl)
   done
  simp only [Act.put, List.getElem_toArray, List.getElem_cons_succ, List.getElem_cons_zero, List.setIfInBounds_toArray, List.set_cons_zero, List.set_cons_succ]
 repeat'
  first
  |refine ax.pure (v := ?_) rfl (by decide +kernel) (by rfl) (fun _ _ _ h => h) (fun _ => hHeld) ?_ ?_
   rotate_left
   focus
    intro w9
    go_simp
    (try with_reducible rfl)
    done
   simp only [Act.put, List.getElem_toArray, List.getElem_cons_succ, List.getElem_cons_zero, List.setIfInBounds_toArray, List.set_cons_zero, List.set_cons_succ]
  |refine ax.one 2 rfl (by decide +kernel) (by rfl) (fun K hK => ?_)
  |refine ax.one 5 rfl (by decide +kernel) (by rfl) (fun K hK => ?_)
  |refine ax.one 6 rfl (by decide +kernel) (by rfl) (fun K hK => ?_)
  |refine ax.one 8 rfl (by decide +kernel) (by rfl) (fun K hK => ?_)
  |obtain ⟨z0, z1, z2, z3, z4, z5⟩ := (ST5.out.later hHeld).cells
   have f2 := frozen_of_row _ _ 2 _ _ (ST5.out.later hHeld).r6
   go_simp
   first
   |go_at_call 76
    first
    |(with_reducible refine (HS3.out _ hHeld).mono ?_); rintro e Y1 ⟨rfl, hY⟩; have hHeld : Below W5.heap.size W5 Y1 := (by rw [hY]; exact hHeld); clear hY
    |(with_reducible refine (HS4.out _ hHeld).mono ?_); rintro e Y1 ⟨rfl, hY⟩; have hHeld : Below W5.heap.size W5 Y1 := (by rw [hY]; exact hHeld); clear hY
    try go_simp
    refine hK.out _ _ (fun _ => hHeld) ?_
    clear hK K z0 z1 z2 z3 z4 z5 f2
   |refine hK.out _ (World.setCell _ ⟨w.heap.size + 1 + 1, 2, none⟩ (.int .u16 (uu : Nat))) (fun h => absurd h (by decide)) ?_
    clear hK K z0 z1 z2 z3 z4 z5 f2
   |refine hK.out _ _ (fun _ => hHeld) ?_
    clear hK K z0 z1 z2 z3 z4 z5 f2
 refine ax.done (by decide +kernel) ?_
 simp only [Exit.then]
 have hst6 := (ST5.out.later hHeld).set (mem' := uu) (v3' := .slice rA R.length rc) (v4' := .slice wA Wr.length wc) 2 (.int .u16 (uu : Nat)) rfl
 have hk6 : ∀ g, w.heap.size + 1 + 1 < g → g < Y1.heap.size → (Y1.setCell ⟨w.heap.size + 1 + 1, 2, none⟩ (.int .u16 (uu : Nat))).heap[g]? = Y1.heap[g]? := fun g hg _ => Below.heap_setCell Y1 ⟨w.heap.size + 1 + 1, 2, none⟩ (.int .u16 (uu : Nat)) g (show g ≠ w.heap.size + 1 + 1 by omega)
 obtain ⟨W6, hW6⟩ : ∃ W6 : World, W6 = Y1.setCell ⟨w.heap.size + 1 + 1, 2, none⟩ (.int .u16 (uu : Nat)) := ⟨_, rfl⟩
 rw [← hW6] at hst6 hk6 ⊢
 have HSR6 := Lib.hid ((HSR5.out.keep (aH hHeld)).keep hk6)
 have HSW6 := Lib.hid ((HSW5.out.keep (aH hHeld)).keep hk6)
 have hb6 := hst6.bl
 have HM6 := Lib.hid (HM.out W6 S (HW.out.below hb6) (HMB.out.below hb6 HMB.out.lt) (HLS.out.keep (ai hb6 hS) (fun _ _ h => h.keep (ai hb6 hS))) (hSW hb6) (HZ.out.below hb6 (Nat.le_refl _)))
 have p21 := hst6.dc E.out.2.2.2.2.2.2.2.2.2.2.2
 have ST6 := Lib.hid hst6
 have hmbl := HMB.out.lt
 clear hW6 hst6 hk6 hHeld HSR5 HSW5 HS3 HS4 hob HM
 go_wp2_with fail
 refine HM6.out.mono ?_
 rintro e W7 ⟨fA, fc, rfl, hsf, hfc, hg7⟩
 have r6 := aB hg7 ST6.out.r6 (by omega)
 have r4 := aB hg7 ST6.out.r4 (by omega)
 have hgw7 : w.grownBy W7 (some mb) := au (aV hb6) hg7
 have hk7 : ∀ g, w.heap.size + 1 + 1 < g → g < W6.heap.size → W7.heap[g]? = W6.heap[g]? := fun g hg hl => hg7.block g hl (fun e => by injection e; omega)
 have HSR7 := Lib.hid (HSR6.out.keep hk7)
 have HSW7 := Lib.hid (HSW6.out.keep hk7)
 have hsz6 : w.heap.size + 1 + 1 < W6.heap.size := lt_of_block ST6.out.r6
 have HSF7 := Lib.hid (hsf.mono (S' := fun g => w.heap.size + 1 + 1 < g) (fun g hg _ => by omega) (by decide))
 have e0 : W7.cell? ⟨w.heap.size + 1 + 1, 0, none⟩ = some (.string nm) := by rw [cell_of_row W7 _ _ _ _ _ r6]; rfl
 have e1 : W7.cell? ⟨w.heap.size + 1 + 1, 1, none⟩ = some (.int .i64 1) := by rw [cell_of_row W7 _ _ _ _ _ r6]; rfl
 have e2 : W7.cell? ⟨w.heap.size + 1 + 1, 2, none⟩ = some (.int .u16 (uu : Nat)) := by rw [cell_of_row W7 _ _ _ _ _ r6]; rfl
 have e3 : W7.cell? ⟨w.heap.size + 1 + 1, 3, none⟩ = some (.slice rA R.length rc) := by rw [cell_of_row W7 _ _ _ _ _ r6]; rfl
 have e4 : W7.cell? ⟨w.heap.size + 1 + 1, 4, none⟩ = some (.slice wA Wr.length wc) := by rw [cell_of_row W7 _ _ _ _ _ r6]; rfl
 have e5 : W7.cell? ⟨w.heap.size + 1 + 1, 5, none⟩ = some (.slice none 0 0) := by rw [cell_of_row W7 _ _ _ _ _ r6]; rfl
 have f5 := frozen_of_row _ _ 5 _ _ r6
 have c0 : W7.cell? ⟨w.heap.size + 1, 0, none⟩ = some (.string ⟨#[]⟩) := by rw [cell_of_row W7 _ _ _ _ _ r4]; rfl
 have c1 : W7.cell? ⟨w.heap.size + 1, 1, none⟩ = some (.int .i64 0) := by rw [cell_of_row W7 _ _ _ _ _ r4]; rfl
 have c2 : W7.cell? ⟨w.heap.size + 1, 2, none⟩ = some (.int .u16 0) := by rw [cell_of_row W7 _ _ _ _ _ r4]; rfl
 have c3 : W7.cell? ⟨w.heap.size + 1, 3, none⟩ = some (.slice none 0 0) := by rw [cell_of_row W7 _ _ _ _ _ r4]; rfl
 have c4 : W7.cell? ⟨w.heap.size + 1, 4, none⟩ = some (.slice none 0 0) := by rw [cell_of_row W7 _ _ _ _ _ r4]; rfl
 have c5 : W7.cell? ⟨w.heap.size + 1, 5, none⟩ = some (.slice none 0 0) := by rw [cell_of_row W7 _ _ _ _ _ r4]; rfl
 have g0 := frozen_of_row _ _ 0 _ _ r4
 have g1 := frozen_of_row _ _ 1 _ _ r4
 have g2 := frozen_of_row _ _ 2 _ _ r4
 have g3 := frozen_of_row _ _ 3 _ _ r4
 have g4 := frozen_of_row _ _ 4 _ _ r4
 have g5 := frozen_of_row _ _ 5 _ _ r4
 have R4 := Lib.hid r4
 clear r6 r4 p21 hsf hk7 hg7
 go_wp2
 have hne : ∀ (X : World) (i : Nat) (u : Value) (g : Nat), g ≠ w.heap.size + 1 → (X.setCell ⟨w.heap.size + 1, i, none⟩ u).heap[g]? = X.heap[g]? := fun X i u g h => Below.heap_setCell X ⟨w.heap.size + 1, i, none⟩ u g h
 have hn5 : ∀ g, g ≠ w.heap.size + 1 + 1 → (W7.setCell ⟨w.heap.size + 1 + 1, 5, none⟩ (.slice fA F.length fc)).heap[g]? = W7.heap[g]? := fun g h => Below.heap_setCell W7 ⟨w.heap.size + 1 + 1, 5, none⟩ (.slice fA F.length fc) g h
 have hrow := yw (b0 := .string nm) (b1 := .int .i64 1) (b2 := .int .u16 (uu : Nat)) (b3 := .slice rA R.length rc) (b4 := .slice wA Wr.length wc) (b5 := .slice fA F.length fc) ((hn5 (w.heap.size + 1) (by omega)).trans R4.out)
 have hkeep : ∀ g, w.heap.size + 1 + 1 < g → (((((((W7.setCell ⟨w.heap.size + 1 + 1, 5, none⟩ (.slice fA F.length fc)).setCell ⟨w.heap.size + 1, 0, none⟩ (.string nm)).setCell ⟨w.heap.size + 1, 1, none⟩ (.int .i64 1)).setCell ⟨w.heap.size + 1, 2, none⟩ (.int .u16 (uu : Nat))).setCell ⟨w.heap.size + 1, 3, none⟩ (.slice rA R.length rc)).setCell ⟨w.heap.size + 1, 4, none⟩ (.slice wA Wr.length wc)).setCell ⟨w.heap.size + 1, 5, none⟩ (.slice fA F.length fc)).heap[g]? = W7.heap[g]? := fun g hg => by
  rw [hne _ _ _ g (by omega), hne _ _ _ g (by omega), hne _ _ _ g (by omega), hne _ _ _ g (by omega), hne _ _ _ g (by omega), hne _ _ _ g (by omega), hn5 g (by omega)]
 have hs7 : w.heap.size ≤ W7.heap.size := hgw7.size
 have hbf : Below w.heap.size W7 (((((((W7.setCell ⟨w.heap.size + 1 + 1, 5, none⟩ (.slice fA F.length fc)).setCell ⟨w.heap.size + 1, 0, none⟩ (.string nm)).setCell ⟨w.heap.size + 1, 1, none⟩ (.int .i64 1)).setCell ⟨w.heap.size + 1, 2, none⟩ (.int .u16 (uu : Nat))).setCell ⟨w.heap.size + 1, 3, none⟩ (.slice rA R.length rc)).setCell ⟨w.heap.size + 1, 4, none⟩ (.slice wA Wr.length wc)).setCell ⟨w.heap.size + 1, 5, none⟩ (.slice fA F.length fc)) := by
  have h1 : w.heap.size ≤ w.heap.size + 1 := by omega
  have h2 : w.heap.size ≤ w.heap.size + 1 + 1 := by omega
  exact (((((((Below.refl _ _).setCell (p := ⟨w.heap.size + 1 + 1, 5, none⟩) h2 _).setCell (p := ⟨w.heap.size + 1, 0, none⟩) h1 _).setCell (p := ⟨w.heap.size + 1, 1, none⟩) h1 _).setCell (p := ⟨w.heap.size + 1, 2, none⟩) h1 _).setCell (p := ⟨w.heap.size + 1, 3, none⟩) h1 _).setCell (p := ⟨w.heap.size + 1, 4, none⟩) h1 _).setCell (p := ⟨w.heap.size + 1, 5, none⟩) h1 _
 generalize (((((((W7.setCell ⟨w.heap.size + 1 + 1, 5, none⟩ (.slice fA F.length fc)).setCell ⟨w.heap.size + 1, 0, none⟩ (.string nm)).setCell ⟨w.heap.size + 1, 1, none⟩ (.int .i64 1)).setCell ⟨w.heap.size + 1, 2, none⟩ (.int .u16 (uu : Nat))).setCell ⟨w.heap.size + 1, 3, none⟩ (.slice rA R.length rc)).setCell ⟨w.heap.size + 1, 4, none⟩ (.slice wA Wr.length wc)).setCell ⟨w.heap.size + 1, 5, none⟩ (.slice fA F.length fc)) = W9 at hrow hkeep hbf ⊢
 refine ret_cf rfl rfl rfl rfl hrow rfl ?_
 refine ⟨rA, rc, wA, wc, fA, fc, by rw [HUU.out]; rfl, (HSR7.out.keep (fun g hg _ => hkeep g hg)).mono (fun g hg _ => by omega) (by decide), hrc, (HSW7.out.keep (fun g hg _ => hkeep g hg)).mono (fun g hg _ => by omega) (by decide), hwc, (HSF7.out.keep (fun g hg _ => hkeep g hg)).mono (fun g hg _ => by omega) (by decide), hfc, ?_⟩
 exact ⟨hbf.os.trans hgw7.os, hbf.tape.trans hgw7.tape, hbf.output.trans hgw7.output, Nat.le_trans hgw7.size hbf.size, fun g hg hne => (hbf.block g hg).trans (hgw7.block g hg hne)⟩
end Go.Proofs.YtmohibkomlhlaaaGreatDoor
namespace Go.Proofs.YtmohibkomlhlaaaGreatDoor
open Go.RowKit
open _root_.Go.Proofs.Tryz
structure DSt (w W : World) (b5 : Nat) (rt : Int) (acc : List Nd) (vn : Value) : Prop where
 b : Below w.heap.size w W
 lo : w.heap.size + 2 ≤ b5
 r1 : W.heap[w.heap.size + 1]? = some (.cells #[.slice none 0 0, .int .i64 0] 38 (0, 0))
 r5 : W.heap[b5]? = some (.cells #[vn, .int .i64 rt] 38 (0, 0))
 row : eY nP W (fun g => b5 + 1 ≤ g) (b5 + 1) 79 5 vn acc
section
variable {w W W' : World} {b5 : Nat} {rt : Int} {acc : List Nd} {vn : Value}
theorem DSt.later (h : DSt w W b5 rt acc vn) (hb : Below W.heap.size W W') : DSt w W' b5 rt acc vn where
 b := h.b.trans (hb.mono h.b.size)
 lo := h.lo
 r1 := (hb.block _ (lt_of_block h.r1)).trans h.r1
 r5 := (hb.block _ (lt_of_block h.r5)).trans h.r5
 row := h.row.keep gY (aH hb) (fun g hg => hb.block g (h.row.lt g hg).2)
theorem DSt.size (h : DSt w W b5 rt acc vn) : b5 + 1 ≤ W.heap.size := lt_of_block h.r5
theorem DSt.node (h : DSt w W b5 rt acc vn) {vs : List Value} (hv1 : vs.length = acc.length) (hv2 : W.ownsRow (b5 + 1) 79 5 vn acc.length (vs.flatMap cellsOf)) (hv3 : ∀ (i : Nat) (x : Nd) (u : Value), acc[i]? = some x → vs[i]? = some u → nP W (fun g => b5 + 1 ≤ g ∧ some g ≠ vn.ownBlock) x u)
  {n : Nd} {u v' : Value} {news : List Value} (hn : cellsOf u = news) (hp : nP W (fun g => b5 + 1 ≤ g ∧ some g ≠ vn.ownBlock) n u) (hown : W'.ownsRow (b5 + 1) 79 5 v' (acc.length + 1) (vs.flatMap cellsOf ++ news)) (hg : W.grownBy W' vn.ownBlock) (hv : v'.ownBlock = vn.ownBlock ∨ v'.ownBlock = some (W.heap.size + 1)) :
  DSt w (W'.setCell ⟨b5, 0, none⟩ v') b5 rt (acc ++ [n]) v' := by
 have hsz := h.size
 have hlo : ∀ g, vn.ownBlock = some g → b5 + 1 ≤ g := fun g e => (hv2.lt g e).1
 have hold : ∀ g, g < b5 + 1 → W'.heap[g]? = W.heap[g]? := fun g hl => hg.block g (by omega) (fun e => by have := hlo g e.symm; omega)
 have hset : ∀ g, g ≠ b5 → (W'.setCell ⟨b5, 0, none⟩ v').heap[g]? = W'.heap[g]? := fun g hne => Below.heap_setCell W' _ v' g hne
 have hrow := eY.push hv1 hv3 gY hn hp hown hg hv
 have hb1 : Below w.heap.size w W' := h.b.grown hg h.b.size (fun k e => by have := hlo k e; have := h.lo; omega)
 refine ⟨hb1.setCell (p := ⟨b5, 0, none⟩) (by show w.heap.size ≤ b5; have := h.lo; omega) _, h.lo, ?_, aC ((hold _ (by omega)).trans h.r5) v', ?_⟩
 ·have := h.lo
  rw [hset _ (by omega), hold _ (by omega)]; exact h.r1
 ·exact hrow.keep gY (fun g hS _ => hset g (by omega)) (fun g e => hset g (by have := (hrow.lt g e).1; omega))
end
theorem Dz (l : List Nd) (j : Nat) (h : j < l.length) : (l.take (j + 1)).map jm = (l.take j).map jm ++ [jm l[j]] := by
 rw [List.take_succ_eq_append_getElem h, List.map_append, List.map_singleton]
def wTo (n : Nd) (k : Nat) : Int := ((List.range k).map fun k => wgt n k).sum
theorem D7 (n : Nd) (k : Nat) : wTo n (k + 1) = wTo n k + wgt n k := by
 unfold wTo
 rw [List.range_succ, List.map_append, List.sum_append]
 simp
theorem wTo_in {n : Nd} (h : ∀ v ∈ n.ws, 1 ≤ v ∧ v ≤ 1000) (hw : n.ws.length = 0 ∨ n.ws.length = n.kids.length) : ∀ k, k ≤ n.kids.length → 0 ≤ wTo n k ∧ wTo n k ≤ 1000 * k := by
 intro k
 induction k with
 |zero => intro _; simp [wTo]
 |succ k ih =>
  intro hk
  have := ih (by omega)
  have := zK h (k := k) (by omega)
  rw [D7]
  omega
theorem dual_any : DualOk := by
 intro x v w S hv hS hlm
 have hbA : ∀ (W : World) (o : Obj), Below W.heap.size W (W.alloc o) := fun W o => (Below.refl _ _).alloc (Nat.le_refl _) o
 have hx0 := hv
 obtain ⟨A, c, rfl, hn, hc⟩ := hv
 obtain ⟨r, hr⟩ : ∃ r, r = j4 x := ⟨_, rfl⟩
 rw [← hr]
 unfold j4 at hr
 obtain ⟨er, her⟩ : ∃ er, er = exE x := ⟨_, rfl⟩
 rw [← her] at hr
 obtain ⟨W0, hW0⟩ : ∃ W0 : World, W0 = (w.alloc (.cells #[.slice A x.nodes.length c, .int .i64 x.root] 38)).alloc (.cells #[.slice none 0 0, .int .i64 0] 38) := ⟨_, rfl⟩
 have hb0 : Below w.heap.size w W0 := by rw [hW0]; exact (hbA _ _).alloc (by simp) _
 have hr0 : W0.heap[w.heap.size]? = some (.cells #[.slice A x.nodes.length c, .int .i64 x.root] 38 (0, 0)) := by rw [hW0]; exact heap_alloc2_old _ _ _
 have hr1 : W0.heap[w.heap.size + 1]? = some (.cells #[.slice none 0 0, .int .i64 0] 38 (0, 0)) := by rw [hW0]; exact heap_alloc2_new _ _ _
 have HV := Lib.hid (vC x _ W0 S (hx0.keep (ai hb0 hS)) (fun g hg => by have := hS g hg; have := hb0.size; omega) (fun n hn => ⟨by have := (hlm.each n hn).1; omega, by have := (hlm.each n hn).2.1; omega⟩))
 rw [← her] at HV
 have HR := Lib.hid hr
 have HE := Lib.hid her
 have HN := Lib.hid hn
 have H0 := Lib.hid hW0
 have HR0 := Lib.hid hr0
 have HR1 := Lib.hid hr1
 have HLM := Lib.hid hlm
 have hN60 := hlm.len
 have hlt1 := lt_of_block hr1
 clear hx0 hn hr her hW0 hr0 hr1 hlm
 go_enter func68, ntmps68
 go_wp2_with fail
 rw [← H0.out]
 refine HV.out.mono ?_
 rintro e w2 ⟨rfl, hb2⟩
 have hbw2 := hb0.trans (hb2.mono hb0.size)
 have r0 := (hb2.block _ (lt_of_block HR0.out)).trans HR0.out
 have r1 := (hb2.block _ hlt1).trans HR1.out
 obtain ⟨x0, x1⟩ := ay r0
 obtain ⟨y0, y1⟩ := ay r1
 have f0 := frozen_of_row _ _ 0 _ _ r1
 have f1 := frozen_of_row _ _ 1 _ _ r1
 have hlt2 := lt_of_block r1
 by_cases h0 : er = 0
 ·subst h0
  have HR2 := Lib.hid (show r = (⟨x.nodes.map jm, x.root⟩, 0) by rw [HR.out]; rfl)
  have hxv := exV_of HE.out.symm
  have HXV := Lib.hid hxv
  obtain ⟨b5, hb5⟩ : ∃ b5, b5 = w2.heap.size := ⟨_, rfl⟩
  obtain ⟨W3, hW3⟩ : ∃ W3 : World, W3 = w2.alloc (.cells #[.slice none 0 0, .int .i64 x.root] 38) := ⟨_, rfl⟩
  have hb3 : Below w2.heap.size w2 W3 := by rw [hW3]; exact hbA _ _
  have hT0 : DSt w W3 b5 x.root [] (.slice none 0 0) :=
   ⟨hbw2.trans (hb3.mono hbw2.size), by omega, (hb3.block _ hlt2).trans r1, by rw [hW3, hb5]; exact heap_alloc_new _ _, .nil _ _ _ _ _⟩
  have H3 := Lib.hid hW3
  have HB5 := Lib.hid hb5
  have hlt20 : w.heap.size < w2.heap.size := by omega
  clear hW3 r0 r1 hb2 hb3 hxv hb5
  go_wp2
  rw [← H3.out, ← HB5.out]
  clear H3 x0 x1 y0 y1 f0 f1
  go_loopw [22] (fun y wr => ∃ (j : Nat) (vn : Value), j ≤ x.nodes.length ∧ y = .int .i64 j ∧ Hid (DSt w wr b5 x.root ((x.nodes.take j).map jm) vn)) (fun y _ => x.nodes.length - (intOf y).toNat)
  case atStart => exact ⟨0, _, Nat.zero_le _, rfl, Lib.hid hT0⟩
  case round =>
   obtain ⟨j, vn, hj, rfl, hT⟩ := hrel
   by_cases hjl : j < x.nodes.length
   ·obtain ⟨g2, o2, nwA, nwc, nkA, nkc, rfl, hSg2, q0, q1, q2, q3, q4, m1, m2, m3, m4⟩ := ny (HN.out.keep (P' := nP wr S) (ai hT.out.b hS) (fun _ _ h => h.keep (ai hT.out.b hS))) hjl
    obtain ⟨n, hn⟩ : ∃ n, n = x.nodes[j] := ⟨_, rfl⟩
    obtain ⟨p1, p2, -⟩ := HLM.out.each x.nodes[j] (List.getElem_mem hjl)
    have htk := Dz x.nodes j hjl
    have hmem : x.nodes[j] ∈ x.nodes := List.getElem_mem hjl
    have hkd := HXV.out.kind _ hmem
    have hwt := HXV.out.wt _ hmem
    have hwl := HXV.out.ws _ hmem
    have hnd := HXV.out.need _ hmem
    rw [← hn] at q0 q1 q2 q3 q4 m1 m2 m3 m4 p1 p2 htk hkd hwt hwl hnd
    have HTK := Lib.hid htk
    have HWT := Lib.hid hwt
    have HWTO := Lib.hid (wTo_in hwt hwl)
    obtain ⟨ac2, hac2⟩ : ∃ ac2, ac2 = (x.nodes.take j).map jm := ⟨_, rfl⟩
    rw [← hac2] at hT
    have HAC2 := Lib.hid hac2
    have hlen2 : ac2.length ≤ 100 := by rw [hac2, List.length_map, List.length_take]; omega
    have hbT := hT.out.b
    have hszr := hT.out.size
    have hgs2 : g2 < wr.heap.size := by have := hS g2 hSg2; have := hbT.size; omega
    have hjI : (j : Int) < (x.nodes.length : Int) := by omega
    have hj0 : (0 : Int) ≤ (j : Int) := by omega
    obtain ⟨kd, sv, nd, nws, nks⟩ := n
    simp only at q0 q1 q2 q3 q4 m1 m2 m3 m4 p1 p2 HTK hkd hwl hnd HWT HWTO
    have HM1 := Lib.hid m1
    have HM3 := Lib.hid m3
    obtain ⟨b14, hb14⟩ : ∃ b14, b14 = wr.heap.size := ⟨_, rfl⟩
    clear hn htk hac2 m1 m3 hmem hwt
    go_upto_region 8 with fail
    obtain ⟨W2, hW2⟩ : ∃ W2 : World, W2 = wr.alloc (.cells #[.int .i64 kd, .int .i64 sv, .int .i64 nd, .slice nwA nws.length nwc, .slice nkA nks.length nkc] 79) := ⟨_, rfl⟩
    have Dq : Below wr.heap.size wr W2 := by rw [hW2]; exact hbA _ _
    have hr14 : W2.heap[b14]? = some (.cells #[.int .i64 kd, .int .i64 sv, .int .i64 nd, .slice nwA nws.length nwc, .slice nkA nks.length nkc] 79 (0, 0)) := by rw [hW2, hb14]; exact heap_alloc_new wr _
    rw [← hW2, ← hb14]
    have HB14 := Lib.hid hb14
    have hbw : wr.heap.size ≤ b14 := by omega
    have hb14s : b14 ≤ wr.heap.size := by omega
    clear hW2 q0 q1 q2 q3 q4 hb14
    have HLAT := Lib.hid (show ∀ X, Below b14 W2 X → DSt w X b5 x.root ac2 vn from fun X hb => hT.out.later (Dq.trans (hb.mono hbw)))
    have HVN := Lib.hid (show ∀ g, vn.ownBlock = some g → g < b14 from fun g e => by
     obtain ⟨vs, -, k2, -⟩ := hT.out.row
     exact Nat.lt_of_lt_of_le (k2.lt g e).2 hbw)
    have hlob : b5 + 1 ≤ b14 := by omega
    have hszb : b14 < W2.heap.size := lt_of_block hr14
    have HC1 := Lib.hid (fun (X : World) (hk : Kept S wr X) => lI nws nwA nwc X S (HM1.out.keep hk) (by omega))
    have HC2 := Lib.hid (fun (X : World) (hk : Kept S wr X) => lI nks nkA nkc X S (HM3.out.keep hk) (by omega))
    have hSb : ∀ g, S g → g < wr.heap.size := fun g hg => by have := hS g hg; have := hbT.size; omega
    have hSq : ∀ g, S g → ¬ g = b14 := fun g hg => by have := hSb g hg; omega
    go_cut [] (fun wx => ∃ A1 c1 A2 c2, Hid (wx.heap[b14]? = some (.cells #[.int .i64 kd, .int .i64 sv, .int .i64 nd, .slice A1 nws.length c1, .slice A2 nks.length c2] 79 (0, 0))) ∧ Hid (ak wx (b14 < ·) 1 A1 nws.length (cu nws) ∧ nws.length ≤ c1 ∧ ak wx (b14 < ·) 1 A2 nks.length (cu nks) ∧ nks.length ≤ c2) ∧ But (fun g => g = b14) W2 wx)
    case first =>
     have HKP := Lib.hid (show ∀ X, But (fun g => g = b14) W2 X → Kept S wr X from fun X bx => (Kept.trans (ai Dq hSb) (bx.kept hSq) Dq.size))
     refine ax.start (fun W' => W'.heap[b14]? = some (.cells #[.int .i64 kd, .int .i64 sv, .int .i64 nd, .slice nwA nws.length nwc, .slice nkA nks.length nkc] 79 (0, 0)) ∧ But (fun g => g = b14) W2 W') [7, 9] [0, 1, 3, 4, 6, 8] (by kernel_rfl) ⟨hr14, ⟨rfl, rfl, rfl, Nat.le_refl _, fun _ _ _ => rfl⟩⟩ (fun hHeld => ?_)
     obtain ⟨g9, bx⟩ := hHeld
     repeat
      refine ax.take (v := ?_) rfl (by decide +kernel) (by rfl) (fun _ _ _ h => h) ⟨g9, bx⟩ ?_ ?_
      rotate_left
      focus
       intro w9 h9
       have k4 := ah h9.1 3 _ rfl
       have k5 := ah h9.1 4 _ rfl
       go_simp
       (try with_reducible rfl)
       done
      simp only [Act.put, List.getElem_toArray, List.getElem_cons_succ, List.getElem_cons_zero, List.setIfInBounds_toArray, List.set_cons_zero, List.set_cons_succ]
     repeat'
      first
      |refine ax.pure (v := ?_) rfl (by decide +kernel) (by rfl) (fun _ _ _ h => h) (by first | exact fun h => absurd h (by decide) | exact fun _ => ⟨g9, bx⟩) ?_ ?_
       rotate_left
       focus
        intro w9
        go_simp
        (try with_reducible rfl)
        done
       simp only [Act.put, List.getElem_toArray, List.getElem_cons_succ, List.getElem_cons_zero, List.setIfInBounds_toArray, List.set_cons_zero, List.set_cons_succ]
      |refine ax.one 2 rfl (by decide +kernel) (by rfl) (fun K hK => ?_)
      |refine ax.one 5 rfl (by decide +kernel) (by rfl) (fun K hK => ?_)
      |refine ax.one 7 rfl (by decide +kernel) (by rfl) (fun K hK => ?_)
      |refine ax.one 9 rfl (by decide +kernel) (by rfl) (fun K hK => ?_)
      |refine ax.two 5 7 rfl rfl (by decide +kernel) (by rfl) (by rfl) (fun K hK => ?_) (fun K hK => ?_)
      |have z4 := ah g9 3 _ rfl
       have z5 := ah g9 4 _ rfl
       have y4 := frozen_of_row _ _ 3 _ _ g9
       have y5 := frozen_of_row _ _ 4 _ _ g9
       go_simp
       first
       |go_at_call 99
        first
        |(with_reducible refine (HC1.out _ (HKP.out _ bx)).mono ?_); rintro e Y1 ⟨v, rfl, hown, hb⟩; obtain ⟨A1, c1, rfl, hn1⟩ := aJ hown; have hs1 := (ak.own hown).mono (S' := fun g => b14 < g) (fun g8 hg _ => Nat.lt_of_lt_of_le (lt_of_block g9) hg) (by decide); clear hown
        |(with_reducible refine (HC2.out _ (HKP.out _ bx)).mono ?_); rintro e Y2 ⟨v, rfl, hown, hb⟩; obtain ⟨A2, c2, rfl, hn2⟩ := aJ hown; have hs1 := hs1.keep (aH hb); have hs2 := (ak.own hown).mono (S' := fun g => b14 < g) (fun g8 hg _ => Nat.lt_of_lt_of_le (lt_of_block g9) hg) (by decide); clear hown
        have g9 := (hb.block _ (lt_of_block g9)).trans g9
        have bx := bx.trans (.of_below hb)
        try go_simp
        refine hK.out _ _ (by first | exact fun h => absurd h (by decide) | exact fun _ => ⟨g9, bx⟩) ?_
        clear hK K z4 z5 y4 y5
       |refine hK.out _ (World.setCell _ ⟨b14, 3, none⟩ _) (fun h => absurd h (by decide)) ?_
        have hs1 := hs1.keep (((But.refl (fun g => g = b14) _).setCell rfl 3 (.slice A1 nws.length c1)).kept (fun g h e => by omega))
        try have hs2 := hs2.keep (((But.refl (fun g => g = b14) _).setCell rfl 3 (.slice A1 nws.length c1)).kept (fun g h e => by omega))
        have g9 := aC g9 (i := 3) (.slice A1 nws.length c1)
        have bx := bx.setCell rfl 3 (.slice A1 nws.length c1)
        clear hK K z4 z5 y4 y5
       |refine hK.out _ (World.setCell _ ⟨b14, 4, none⟩ _) (fun h => absurd h (by decide)) ?_
        have hs1 := hs1.keep (((But.refl (fun g => g = b14) _).setCell rfl 4 (.slice A2 nks.length c2)).kept (fun g h e => by omega))
        try have hs2 := hs2.keep (((But.refl (fun g => g = b14) _).setCell rfl 4 (.slice A2 nks.length c2)).kept (fun g h e => by omega))
        have g9 := aC g9 (i := 4) (.slice A2 nks.length c2)
        have bx := bx.setCell rfl 4 (.slice A2 nks.length c2)
        clear hK K z4 z5 y4 y5
     all_goals
      refine ax.done (by decide +kernel) ?_
      go_wp2_with fail
      go_meet
      exact ⟨A1, c1, A2, c2, Lib.hid g9, Lib.hid ⟨hs1, hn1, hs2, hn2⟩, bx⟩
    case rest =>
     obtain ⟨A1, c1, A2, c2, hq, hss, hx9⟩ := hcut
     obtain ⟨W9, hW9⟩ : ∃ W9 : World, W9 = wc := ⟨_, rfl⟩
     rw [← hW9] at hq hss hx9 ⊢
     clear hW9
     have hbl9 : b14 < W9.heap.size := lt_of_block hq.out
     have HND := Lib.hid (show (⟨kd, sv, nd, nws, nks⟩ : Nd).kind = kd from rfl)
     obtain ⟨dn, hdn⟩ : ∃ dn, dn = (jm ⟨kd, sv, nd, nws, nks⟩).need := ⟨_, rfl⟩
     have HDN := Lib.hid hdn
     clear hdn
     obtain ⟨z0, z1, z2, z3, z4⟩ := aO hq.out
     go_upto_if 36 with fail
     go_cut [] (fun wx => Hid (wx.heap[b14]? = some (.cells #[.int .i64 kd, .int .i64 sv, .int .i64 dn, .slice A1 nws.length c1, .slice A2 nks.length c2] 79 (0, 0))) ∧ But (fun g => g = b14) W9 wx)
     case first =>
      rcases hkd with rfl | rfl
      ·have hdn : dn = nd := HDN.out
       subst hdn
       go_wp2
       go_meet
       exact ⟨hq, But.refl _ _⟩
      ·have hdn : dn = max 0 (wTo ⟨2, sv, nd, nws, nks⟩ nks.length - nd + 1) := HDN.out
       have HD2 := Lib.hid hdn
       clear hdn
       go_wp2
       go_loopw [8, 40] (fun y x wn => ∃ i : Nat, i ≤ nks.length ∧ x = .int .i64 i ∧ y = .int .i64 (wTo ⟨2, sv, nd, nws, nks⟩ i) ∧ Below W9.heap.size W9 wn) (fun _ x _ => nks.length - (intOf x).toNat)
       case atStart => exact ⟨0, Nat.zero_le _, rfl, rfl, Below.refl _ _⟩
       case round =>
        obtain ⟨i, hi, rfl, rfl, hbn⟩ := hrel
        have hwi := HWTO.out i hi
        have hr14b := (hbn.block _ hbl9).trans hq.out
        obtain ⟨z0, z1, z2, z3, z4⟩ := aO hr14b
        have zf := frozen_of_row _ _ 2 _ _ hr14b
        by_cases hil : i < nks.length
        ·have hs := D7 ⟨2, sv, nd, nws, nks⟩ i
         have hwg := zK HWT.out (n := ⟨2, sv, nd, nws, nks⟩) (k := i) (by show nws.length = 0 ∨ i < nws.length; omega)
         have HWC := Lib.hid (wH ⟨2, sv, nd, nws, nks⟩ (.agg #[.int .i64 2, .int .i64 sv, .int .i64 nd, .slice A1 nws.length c1, .slice A2 nks.length c2]) i wr (fun g => b14 < g ∧ g < wr.heap.size) ⟨A1, c1, A2, c2, rfl, (hss.out.1.keep (aH hbn)).mono (fun g h hl => ⟨h, hl⟩) (by decide), hss.out.2.1, (hss.out.2.2.1.keep (aH hbn)).mono (fun g h hl => ⟨h, hl⟩) (by decide), hss.out.2.2.2⟩ (fun g hg => hg.2) (by show nws.length = 0 ∨ i < nws.length; omega) (by show nws.length ≤ _; omega))
         obtain ⟨wg, hwg2⟩ : ∃ wg, wg = wgt ⟨2, sv, nd, nws, nks⟩ i := ⟨_, rfl⟩
         rw [← hwg2] at HWC hs hwg
         obtain ⟨sm, hsm⟩ : ∃ sm, sm = wTo ⟨2, sv, nd, nws, nks⟩ i := ⟨_, rfl⟩
         rw [← hsm] at hs hwi ⊢
         have HS := Lib.hid hs
         have hwrap : IntKind.i64.wrap (sm + wg) = sm + wg := IntWalk.i64_in _ (by omega)
         have hiI : (i : Int) < (nks.length : Int) := by omega
         have hi0 : (0 : Int) ≤ (i : Int) := by omega
         clear hwg2 hsm hs
         go_wp2_with fail
         refine HWC.out.mono ?_
         rintro e w8 ⟨rfl, hb8⟩
         go_wp2
         go_roundw
         case rel => exact ⟨i + 1, by omega, by go_num, by rw [HS.out], hbn.trans (hb8.mono hbn.size)⟩
         case measure => simp [intOf]; omega
        ·obtain rfl : i = nks.length := by omega
         have hiI : ¬ (nks.length : Int) < (nks.length : Int) := by omega
         obtain ⟨sm, hsm⟩ : ∃ sm, sm = wTo ⟨2, sv, nd, nws, nks⟩ nks.length := ⟨_, rfl⟩
         rw [← hsm] at hwi HD2 ⊢
         have hw1 : IntKind.i64.wrap (sm - nd) = sm - nd := IntWalk.i64_in _ (by omega)
         have hw2 : IntKind.i64.wrap (sm - nd + 1) = sm - nd + 1 := IntWalk.i64_in _ (by omega)
         clear hsm
         go_wp2
         go_meet
         refine ⟨Lib.hid ?_, But.setCell (T := fun g => g = b14) (b := b14) (But.of_below hbn) rfl 2 _⟩
         rw [HD2.out]
         exact aC hr14b (i := 2) _
     case rest =>
      clear z0 z1 z2 z3 z4
      obtain ⟨hq2, hx2⟩ := hcut
      obtain ⟨X9, hX9⟩ : ∃ X9 : World, X9 = wc := ⟨_, rfl⟩
      rw [← hX9] at hq2 hx2 ⊢
      clear hX9
      have hbc : Below b14 W2 X9 := (hx9.trans hx2).below (B := b14) (fun g e => by omega) (by omega)
      have hTc := HLAT.out X9 hbc
      obtain ⟨vs, hv1, hv2, hv3⟩ := hTc.row
      have HV3 := Lib.hid hv3
      have HTC := Lib.hid hTc
      obtain ⟨x0, x1⟩ := ay hTc.r5
      obtain ⟨z0, z1, z2, z3, z4⟩ := aO hq2.out
      have hszc := hTc.size
      have hs1 := hss.out.1.keep (hx2.kept (S := (b14 < ·)) (fun g h e => by omega))
      have hs2 := hss.out.2.2.1.keep (hx2.kept (S := (b14 < ·)) (fun g h e => by omega))
      have HS1 := Lib.hid hs1
      have HS2 := Lib.hid hs2
      have hbl : b14 < X9.heap.size := lt_of_block hq2.out
      have hac := hlen2
      clear hv3 hTc hs1 hs2
      go_wp2_with (at_builtin; refine uh X9 rfl (.tmp 57) (.tmp 59) rfl (b5 + 1) _ _ _ hv2 rfl kd sv dn A1 nws.length c1 A2 nks.length c2 rfl (by omega) hszc ?_; intro v' w' hown' hg' hv'; have hown0 := hown'; obtain ⟨A3, c3, rfl, hc3⟩ := aJ hown0; have r9n := (hg'.block b5 (by omega) (fun e => by have := (hv2.lt _ e.symm).1; omega)).trans HTC.out.r5; obtain ⟨x2, x3⟩ := ay r9n; have xf := frozen_of_row _ _ 0 _ _ r9n; clear hown0 r9n)
      go_roundw
      case rel =>
       have hdv : jm ⟨kd, sv, nd, nws, nks⟩ = ⟨kd, sv, dn, nws, nks⟩ := by
        rw [HDN.out]
        unfold jm
        split <;> rfl
       refine ⟨j + 1, .slice A3 (ac2.length + 1) c3, by omega, by go_num, Lib.hid ?_⟩
       rw [HTK.out, hdv, ← HAC2.out]
       exact HTC.out.node hv1 hv2 HV3.out (u := .agg #[.int .i64 kd, .int .i64 sv, .int .i64 dn, .slice A1 nws.length c1, .slice A2 nks.length c2]) rfl
        ⟨A1, c1, A2, c2, rfl, HS1.out.mono (fun g hg _ => ⟨by omega, fun e => by have := HVN.out g e.symm; omega⟩) (by decide), hss.out.2.1, HS2.out.mono (fun g hg _ => ⟨by omega, fun e => by have := HVN.out g e.symm; omega⟩) (by decide), hss.out.2.2.2⟩ hown' hg' hv'
      case measure => simp [intOf]; omega
   ·obtain rfl : j = x.nodes.length := by omega
    have hjI : ¬ (x.nodes.length : Int) < (x.nodes.length : Int) := by omega
    rw [List.take_length] at hT
    have hT1 := hT.out
    obtain ⟨An, cn, hvn, hcn, hln⟩ := hT1.row.list gY
    subst hvn
    obtain ⟨x0, x1⟩ := ay hT1.r5
    obtain ⟨y0, y1⟩ := ay hT1.r1
    have f0 := frozen_of_row _ _ 0 _ _ hT1.r1
    have f1 := frozen_of_row _ _ 1 _ _ hT1.r1
    have hszr := hT1.size
    have hlo := hT1.lo
    have HLN := Lib.hid hln
    have HT1 := Lib.hid hT1
    have hlt9 := lt_of_block hT1.r1
    clear hln hT hT1
    go_wp2
    have r6f := jh (u' := .slice An x.nodes.length cn) (v' := .int .i64 x.root) HT1.out.r1
    refine pI rfl rfl rfl rfl (ay r6f).1 (ay r6f).2 ?_
    rw [HR2.out]
    have hk2 : Kept (fun g => b5 + 1 ≤ g) wr ((wr.setCell ⟨w.heap.size + 1, 0, none⟩ (.slice An x.nodes.length cn)).setCell ⟨w.heap.size + 1, 1, none⟩ (.int .i64 x.root)) := fun g hg _ => by
     rw [Below.heap_setCell _ _ _ g (show g ≠ w.heap.size + 1 by omega), Below.heap_setCell _ _ _ g (show g ≠ w.heap.size + 1 by omega)]
    refine ⟨_, rfl, ⟨An, cn, by simp, ?_, hcn⟩, (HT1.out.b.setCell (p := ⟨w.heap.size + 1, 0, none⟩) (by show w.heap.size ≤ w.heap.size + 1; omega) _).setCell (p := ⟨w.heap.size + 1, 1, none⟩) (by show w.heap.size ≤ w.heap.size + 1; omega) _⟩
    exact (HLN.out.keep (P' := nP _ (fun g => b5 + 1 ≤ g)) hk2 (fun _ _ h => h.keep hk2)).mono (fun g hg _ => by omega) (by decide) (fun _ _ h => h.mono (fun g hg _ => by omega))
 ·have HR2 := Lib.hid (show r = (ex0, er) by rw [HR.out, if_pos h0])
  have h0b : ((er : Int) != 0) = true := by simp; omega
  have h0c : ((er : Int) == 0) = false := by simp; omega
  go_wp2
  have r6f := jh (u' := .slice none 0 0) (v' := .int .i64 0) r1
  refine pI rfl rfl rfl rfl (ay r6f).1 (ay r6f).2 ?_
  rw [HR2.out]
  exact ⟨_, rfl, kP.zero _ _, (hbw2.setCell (p := ⟨w.heap.size + 1, 0, none⟩) (by show w.heap.size ≤ w.heap.size + 1; omega) _).setCell (p := ⟨w.heap.size + 1, 1, none⟩) (by show w.heap.size ≤ w.heap.size + 1; omega) _⟩
end Go.Proofs.YtmohibkomlhlaaaGreatDoor
