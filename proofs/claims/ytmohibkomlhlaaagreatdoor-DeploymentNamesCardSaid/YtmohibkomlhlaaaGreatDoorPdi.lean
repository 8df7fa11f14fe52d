/- The contract of Of at declarations of a site, of faults and of one configuration. Where the configuration has no error. Conditions: the tables of powers and of math/bits lie in the world. The example of the chapter: its text, its declarations, what Load returns of it. Conditions: the tables of powers and of math/bits lie in the world. The contract of the law's awake: the examples of the chapter hold. Conditions: the tables of powers and of math/bits lie in the world. -/
import Derived.Test.YtmohibkomlhlaaaGreatDoorPdg
import Derived.Test.YtmohibkomlhlaaaGreatDoorPdh
import Derived.Deep.AppendLies
import Derived.Test.YtmohibkomlhlaaaGreatDoorPkDq
import Derived.KernelRfl
set_option maxRecDepth 100000
set_option maxHeartbeats 8000000
namespace Go.Proofs.YtmohibkomlhlaaaGreatDoor
open Go.RowKit
open _root_.Go.Proofs.Tryz
theorem info_site : (prog.info? 90).map (fun i => (i.zero, i.size, i.bytes)) = some (some (.agg #[.string ByteArray.empty, .int .u16 0]), 2, 24) := by kernel_rfl
theorem Dk : (prog.info? 54).map (fun i => (i.zero, i.size, i.bytes)) = some (some (.agg #[.string ByteArray.empty, .int .i64 0, .int .u16 0, .slice none 0 0, .slice none 0 0, .slice none 0 0]), 6, 104) := by kernel_rfl
theorem size_depl : (prog.info? 48).map (·.size) = some 6 := by kernel_rfl
theorem op_site (w : World) {o : Oper} {a : Act} {K : Act → World → Prop} {Q : Exit → Act → World → Prop} (_hgd : o.guard = none) (s x : Operand)
  (ho : o.op = .call { callee := .builtin .append, args := #[s, x], argTypes := #[44, 44] })
  (base : Nat) (v : Value) (n : Nat) (xs : List Value) (hown : w.ownsRow base 90 2 v n xs) (hs : a.eval s = v)
  (g cc : Nat) (u : ByteArray) (k : Int)
  (hblk : w.heap[g]? = some (.cells #[.string u, .int .u16 k] 90 (0, 0))) (hx : a.eval x = .slice (some ⟨g, 0, none⟩) 1 cc)
  (hlim : n ≤ 1000000000) (hbase : base ≤ w.heap.size)
  (h : ∀ v' w', w'.ownsRow base 90 2 v' (n + 1) (xs ++ [.string u, .int .u16 k]) → w.grownBy w' v.ownBlock → K (a.put o.dst v') w') : Oper.wp prog o a w K Q := by
 obtain ⟨i0, hi, hz0, hz1, hz2⟩ := info_parts info_site
 have hcell : ∀ j u', [Value.string u, .int .u16 k][j]? = some u' → w.cell? ((⟨g, 0, none⟩ : Addr).add j) = some u' := by
  intro j u' hu
  have hadd : (⟨g, 0, none⟩ : Addr).add j = ⟨g, j, none⟩ := by unfold Addr.add; split <;> simp_all
  rw [hadd, cell_of_row _ g j _ _ (0, 0) hblk]
  simpa using hu
 exact wp_append_lies w s x _ ho base 90 i0 _ 2 24 underlying44 hi hz0 hz1 hz2 rfl (by decide) v n xs hs hown ⟨g, 0, none⟩ 1 cc _ hx rfl hcell (by simp [Value.oneCell']) (by omega) (by unfold maxLen; omega) (by omega) hbase w.heap.size rfl (fun g' cap w' h2 h3 h4 _ => h _ w' h2 h3)
theorem CO (w : World) {ops : Array Oper} {rest : List Oper} {o : Oper} {a : Act} {Q : Exit → Act → World → Prop} (hgd : o.guard = none) (s x : Operand)
  (ho : o.op = .call { callee := .builtin .append, args := #[s, x], argTypes := #[45, 45] })
  (base : Nat) (v : Value) (n : Nat) (xs : List Value) (hown : w.ownsRow base 54 6 v n xs) (hs : a.eval s = v)
  (nm : ByteArray) (kd : Int) (mem : Int) (rA : Option Addr) (rn rc : Nat) (wA : Option Addr) (wn wc : Nat) (fA : Option Addr) (fn fc : Nat) (hx : a.eval x = .slice (some ⟨w.heap.size, 0, none⟩) 1 1)
  (hlim : n ≤ 100000000000) (hbase : base ≤ w.heap.size)
  (h : ∀ v' w', w'.ownsRow base 54 6 v' (n + 1) (xs ++ [.string nm, .int .i64 kd, .int .u16 mem, .slice rA rn rc, .slice wA wn wc, .slice fA fn fc]) → w.grownBy w' v.ownBlock → (v'.ownBlock = v.ownBlock ∨ v'.ownBlock = some (w.heap.size + 1)) → wpList prog ops Q rest (a.put o.dst v') w') :
  wpList prog ops Q (o :: rest) a (w.alloc (.cells #[.string nm, .int .i64 kd, .int .u16 mem, .slice rA rn rc, .slice wA wn wc, .slice fA fn fc] 54)) := by
 obtain ⟨i0, hi, hz0, hz1, hz2⟩ := info_parts Dk
 exact dY w hgd s x _ ho base 54 i0 _ 6 104 underlying45 hi hz0 hz1 hz2 rfl (by decide) v n xs hown hs [.string nm, .int .i64 kd, .int .u16 mem, .slice rA rn rc, .slice wA wn wc, .slice fA fn fc] hx rfl (by simp [Value.oneCell']) (by omega) (by omega) hbase h
theorem En {fn : Func} {slot u z : Nat} {R : Ending → World → Prop} {a : Act} {W : World} {r : Nat} {cells : Array Value} {q y : Value} (hres : fn.results = #[.cell slot 48, .tmp u, .tmp z]) (hp : a.tmps.getD slot undef = .pointer (some ⟨r, 0, none⟩)) (hq : a.tmps.getD u undef = q) (hy : a.tmps.getD z undef = y) (hd : a.defers = [])
  (hblk : W.heap[r]? = some (.cells cells 48 (0, 0))) (hc : cells.size = 6) (hR : R (.returned (.tuple #[.agg cells, q, y])) W) : bodyPost prog fn R .ret a W := by
 refine bodyPost_ret (v := .tuple #[.agg cells, q, y]) ?_ hd hR
 have hl := run_loadVar_row W r 48 48 cells (0, 0) _ hblk underlying48 rfl (by rw [hc]; exact size_depl)
 have hp' : a.tmps[slot]?.getD undef = .pointer (some ⟨r, 0, none⟩) := by simpa using hp
 have hq' : a.tmps[u]?.getD undef = q := by simpa using hq
 have hy' : a.tmps[z]?.getD undef = y := by simpa using hy
 simp [results, hres, hp', hq', hy', asAddr, hl, Result.andThen]
abbrev EZ : Array Value := #[.slice none 0 0, .slice none 0 0, .int .u16 0, .slice none 0 0, .slice none 0 0, .slice none 0 0]
def OfPost (n : Nat) (R Wr : List Nat) (F : List (Nat × Nat)) (w : World) (e : Ending) (w' : World) : Prop :=
 ∃ svA svc sA sn sc cg cc hA hn hc nm kd mem rA rc wA wc fA fc, e = .returned (.tuple #[.agg #[.slice svA n svc, .slice sA sn sc, .int .u16 0, .slice (some ⟨cg, 0, none⟩) 1 cc, .slice hA hn hc, .slice none 0 0], .int .i64 0, .int .i64 0]) ∧
  (w'.cell? ⟨cg, 0, none⟩ = some (.string nm) ∧ w'.cell? ⟨cg, 1, none⟩ = some (.int .i64 kd) ∧ w'.cell? ⟨cg, 2, none⟩ = some (.int .u16 mem) ∧ w'.cell? ⟨cg, 3, none⟩ = some (.slice rA R.length rc) ∧ w'.cell? ⟨cg, 4, none⟩ = some (.slice wA Wr.length wc) ∧ w'.cell? ⟨cg, 5, none⟩ = some (.slice fA F.length fc)) ∧
  ak w' (w.heap.size < ·) 1 rA R.length (fG R) ∧ ak w' (w.heap.size < ·) 1 wA Wr.length (fG Wr) ∧ w.heap.size < cg ∧ Below w.heap.size w w'
structure OSt (w W : World) (b8 n : Nat) (svA : Option Addr) (svc : Nat) (vs vc : Value) : Prop where
 b : Below w.heap.size w W
 lo : w.heap.size < b8
 r2 : W.heap[w.heap.size]? = some (.cells EZ 48 (0, 0))
 r8 : W.heap[b8]? = some (.cells #[.slice svA n svc, vs, .int .u16 0, vc, .slice none 0 0, .slice none 0 0] 48 (0, 0))
def OCf (w W : World) (b8 : Nat) (vc : Value) (R Wr : List Nat) (F : List (Nat × Nat)) : Prop :=
 ∃ cg cc nm kd mem rA rc wA wc fA fc, vc = .slice (some ⟨cg, 0, none⟩) 1 cc ∧ cg ≠ b8 ∧
  (W.cell? ⟨cg, 0, none⟩ = some (.string nm) ∧ W.cell? ⟨cg, 1, none⟩ = some (.int .i64 kd) ∧ W.cell? ⟨cg, 2, none⟩ = some (.int .u16 mem) ∧ W.cell? ⟨cg, 3, none⟩ = some (.slice rA R.length rc) ∧ W.cell? ⟨cg, 4, none⟩ = some (.slice wA Wr.length wc) ∧ W.cell? ⟨cg, 5, none⟩ = some (.slice fA F.length fc)) ∧
  ak W (fun g => w.heap.size < g ∧ g ≠ b8) 1 rA R.length (fG R) ∧ ak W (fun g => w.heap.size < g ∧ g ≠ b8) 1 wA Wr.length (fG Wr) ∧ w.heap.size < cg
theorem OSt.later {w W W' : World} {b8 n : Nat} {svA : Option Addr} {svc : Nat} {vs vc : Value} (h : OSt w W b8 n svA svc vs vc) (hb : Below W.heap.size W W') : OSt w W' b8 n svA svc vs vc :=
 ⟨h.b.trans (hb.mono h.b.size), h.lo, (hb.block _ (lt_of_block h.r2)).trans h.r2, (hb.block _ (lt_of_block h.r8)).trans h.r8⟩
theorem eD {w : World} {b : Nat} {v0 v1 v2 v3 v4 v5 : Value} {t : TypeId} (h : w.heap[b]? = some (.cells #[v0, v1, v2, v3, v4, v5] t (0, 0))) : w.cell? ⟨b, 0, none⟩ = some v0 ∧ w.cell? ⟨b, 1, none⟩ = some v1 ∧ w.cell? ⟨b, 2, none⟩ = some v2 ∧ w.cell? ⟨b, 3, none⟩ = some v3 ∧ w.cell? ⟨b, 4, none⟩ = some v4 ∧ w.cell? ⟨b, 5, none⟩ = some v5 := by
 refine ⟨?_, ?_, ?_, ?_, ?_, ?_⟩ <;> rw [cell_of_row w _ _ _ _ _ h] <;> rfl
theorem G5 (l : List ByteArray) (A : Option Addr) (c : Nat) (w : World) (S : Nat → Prop) (h : ak w S 1 A l.length (aA l)) (hl : l.length ≤ 1000000000) :
  Calls prog 37 #[.slice A l.length c] w fun e w' => ∃ v, e = .returned v ∧ w'.ownsRow w.heap.size 9 1 v l.length (aA l) ∧ Below w.heap.size w w' := by
 by_cases h0 : l.length = 0
 ·obtain rfl : l = [] := List.length_eq_zero_iff.1 h0
  cases A with
  |none => exact (Tryz.slices_Clone_string_nil 0 c w).mono fun e w' ⟨he, hw⟩ => ⟨_, he, World.ownsRow_nil _ _ _ _, by rw [hw]; exact Below.refl _ _⟩
  |some a => exact (Tryz.slices_Clone_string_zero a c w).mono fun e w' ⟨v, he, ho, _, hb⟩ => ⟨v, he, ho, hb⟩
 ·obtain ⟨g, o, rfl, -, hc⟩ := h.cells (by omega)
  refine (Tryz.slices_Clone_string g o l.length c l w (Nat.le_refl _) (by omega) (fun j hj => hc j _ (dQ l j hj))).mono fun e w' ⟨v, he, ho, _, hb⟩ => ⟨v, he, ?_, hb⟩
  rw [List.take_length] at ho
  exact ho
theorem of_any (d1 d2 d3 : Dc) (A : Option Addr) (c : Nat) (w : World) (S : Nat → Prop) (hl : aL (dx w S) w S 22 A [d1, d2, d3]) (hS : ∀ g, S g → g < w.heap.size)
  (hk1 : d1.kind = 1) (hk2 : d2.kind = 2) (hk3 : d3.kind = 4) (hck : bH [d1, d2, d3] = (0, 0)) (hsz : ([d1, d2, d3].map aZ).sum ≤ 1100000) (hpw : Pow w) (R Wr : List Nat) (F : List (Nat × Nat))
  (hcf : ∀ (b sb mb : Nat) (W : World) (v : Value), Wd W b sb mb A c [d1, d2, d3] → aX prog W 9 mb 0 (fun _ => none) → aL (dx W S) W S 22 A [d1, d2, d3] → (∀ g, S g → g < W.heap.size) → dx W S d3 v → Tz W → Calls prog 40 #[.pointer (some ⟨b, 0, none⟩), v] W (CfPost d3.name 1 R Wr F mb W)) (hz : Tz w) :
  Calls prog 12 #[.slice A 3 c] w (OfPost (aj [d1, d2, d3]).length R Wr F w) := by
 have hbA : ∀ (W : World) (o : Obj), Below W.heap.size W (W.alloc o) := fun W o => (Below.refl _ _).alloc (Nat.le_refl _) o
 have hc : (bH [d1, d2, d3]).2 = 0 := by rw [hck]
 obtain ⟨l, hll⟩ : ∃ l, l = [d1, d2, d3] := ⟨_, rfl⟩
 have e0 : l[0]? = some d1 := by rw [hll]; rfl
 have e1 : l[1]? = some d2 := by rw [hll]; rfl
 have e2 : l[2]? = some d3 := by rw [hll]; rfl
 have h3 : l.length = 3 := by rw [hll]; rfl
 rw [← hll] at hl hck hsz hcf hc ⊢
 have hsv := (iL hc).2
 have hnd := (lN l).nodup (iL hc).1
 have hlok := Ez hc hsz
 have hLS := fun (W : World) (hW : Below w.heap.size w W) => (⟨hl.keep (P' := dx W S) (ai hW hS) (fun _ _ h => h.keep (ai hW hS)), fun g hg => by have := hS g hg; have := hW.size; omega⟩ : aL (dx W S) W S 22 A l ∧ ∀ g, S g → g < W.heap.size)
 have HLS := Lib.hid hLS
 have hckk := fun (W : World) (hW : Below w.heap.size w W) => check25 l A c W S (hLS W hW).1 (hLS W hW).2 hsz (hpw.below hW)
 rw [hck, h3] at hckk
 have HCK := Lib.hid hckk
 have hbg := fun (W : World) (hW : Below w.heap.size w W) => BR l A c W S (hLS W hW).1 (hLS W hW).2 (by omega) hnd (fun x hx => by
  obtain ⟨d, hd, hx⟩ := List.mem_flatMap.1 hx
  split at hx
  ·exact (hlok.names d hd).2 x hx
  ·simp at hx) (by omega)
 have hsr := fun (W : World) (hW : Below w.heap.size w W) => uf l A c W S (hLS W hW).1 (hLS W hW).2 (by omega) (by omega)
 rw [h3] at hbg hsr
 have HBG := Lib.hid hbg
 have HSR := Lib.hid hsr
 have HCF := Lib.hid hcf
 have HZ := Lib.hid hz
 have HLL := Lib.hid hl
 have HN1 := Lib.hid ((hlok.names d1 (List.mem_of_getElem? e0)))
 have HSV12 := hsv
 have H3 := Lib.hid h3
 have HE := Lib.hid (And.intro e0 (And.intro e1 e2))
 obtain ⟨W0, hW0⟩ : ∃ W0 : World, W0 = w.alloc (.cells EZ 48) := ⟨_, rfl⟩
 have hb0 : Below w.heap.size w W0 := by rw [hW0]; exact hbA _ _
 have hr0 : W0.heap[w.heap.size]? = some (.cells EZ 48 (0, 0)) := by rw [hW0]; exact heap_alloc_new _ _
 have H0 := Lib.hid hW0
 have HR0 := Lib.hid hr0
 have vS := lt_of_block hr0
 obtain ⟨n, hn⟩ : ∃ n, n = (aj l).length := ⟨_, rfl⟩
 rw [← hn] at hsv ⊢
 have HNN := Lib.hid hn
 have HK1 := Lib.hid hk1
 have HK2 := Lib.hid hk2
 have HK3 := Lib.hid hk3
 clear hl hll hck hsz hcf hc hnd hlok hLS hckk hbg hsr hz hpw hW0 hr0 hn e0 e1 e2 h3 hk1 hk2 hk3
 go_enter func12, ntmps12
 go_wp2_with fail
 rw [← H0.out]
 refine (HCK.out W0 hb0).mono ?_
 rintro e w1 ⟨rfl, hb1⟩
 have gW := hb0.trans (hb1.mono hb0.size)
 have r1 := (hb1.block _ vS).trans HR0.out
 clear hb1
 go_wp2_with fail
 refine (HBG.out w1 gW).mono ?_
 rintro e w2 ⟨b, sb, mb, rfl, hwd, hmb, hb2, ⟨l1, l2, l3⟩, -⟩
 have hbw2 := gW.trans (hb2.mono gW.size)
 have r2 := (hb2.block _ (lt_of_block r1)).trans r1
 have HWD := Lib.hid hwd
 have HMB := Lib.hid hmb
 clear hwd hmb hb2
 go_wp2_with fail
 refine (HSR.out w2 hbw2).mono ?_
 unfold rD
 rw [← HNN.out]
 rintro e w3 ⟨v3, rfl, hown3, hb3⟩
 have jw := hbw2.trans (hb3.mono hbw2.size)
 have r3 := (hb3.block _ (lt_of_block r2)).trans r2
 obtain ⟨A3, c3, rfl, hc3⟩ := aJ hown3
 have hcl := G5 (aj l) A3 c3 w3 _ (by rw [← HNN.out]; exact (ak.own hown3)) (by rw [← HNN.out]; omega)
 rw [← HNN.out] at hcl
 have HCL := Lib.hid hcl
 have HWD3 := Lib.hid (HWD.out.below hb3)
 have HMB3 := Lib.hid (HMB.out.below hb3 HMB.out.lt)
 clear hown3 hcl hb3 HWD HMB
 go_wp2_with fail
 refine HCL.out.mono ?_
 rintro e w4 ⟨v4, rfl, jJ, hb4⟩
 have hbw4 := jw.trans (hb4.mono jw.size)
 have r4 := (hb4.block _ (lt_of_block r3)).trans r3
 obtain ⟨A4, c4, rfl, hc4⟩ := aJ jJ
 have HWD4 := Lib.hid (HWD3.out.below hb4)
 have HMB4 := Lib.hid (HMB3.out.below hb4 HMB3.out.lt)
 clear jJ hb4 HWD3 HMB3 HCL
 obtain ⟨b8, hb8⟩ : ∃ b8, b8 = w4.heap.size := ⟨_, rfl⟩
 obtain ⟨W5, hW5⟩ : ∃ W5 : World, W5 = w4.alloc (.cells #[.slice A4 n c4, .slice none 0 0, .int .u16 0, .slice none 0 0, .slice none 0 0, .slice none 0 0] 48) := ⟨_, rfl⟩
 have hb5 : Below w4.heap.size w4 W5 := by rw [hW5]; exact hbA _ _
 have hst : OSt w W5 b8 n A4 c4 (.slice none 0 0) (.slice none 0 0) := ⟨hbw4.trans (hb5.mono hbw4.size), by have := lt_of_block r4; omega, (hb5.block _ (lt_of_block r4)).trans r4, by rw [hW5, hb8]; exact heap_alloc_new _ _⟩
 have HST := Lib.hid hst
 have HWD5 := Lib.hid (HWD4.out.below hb5)
 have HMB5 := Lib.hid (HMB4.out.below hb5 HMB4.out.lt)
 have H5 := Lib.hid hW5
 have HB8 := Lib.hid hb8
 have hlb : w.heap.size < b ∧ w.heap.size < sb ∧ w.heap.size < mb := by have := lt_of_block r1; omega
 have hltb : b < b8 ∧ sb < b8 ∧ mb < b8 := by rw [hb8]; exact ⟨HWD4.out.lt.1, HWD4.out.lt.2, HMB4.out.lt⟩
 clear hW5 hb5 hst HWD4 HMB4 r1 r2 r3 r4 hb8 l1 l2 l3
 go_wp2
 rw [← H5.out, ← HB8.out]
 go_loopw [9, 11, 12, 13, 38] (fun s9 _ _ _ x wr => ∃ (k : Nat) (sA : Option Addr) (sn sc : Nat) (vc : Value), k ≤ 3 ∧ x = .int .i64 k ∧ s9 = .slice none 0 0 ∧ Hid (OSt w wr b8 n A4 c4 (.slice sA sn sc) vc) ∧ Hid (k = 0 → sA = none ∧ sn = 0 ∧ sc = 0) ∧ Hid (k < 3 → vc = .slice none 0 0 ∧ Wd wr b sb mb A c l ∧ aX prog wr 9 mb 0 (fun _ => none)) ∧ Hid (k = 3 → OCf w wr b8 vc R Wr F)) (fun _ _ _ _ x _ => 3 - (intOf x).toNat)
 case atStart => exact ⟨0, _, _, _, _, by decide, rfl, rfl, HST, Lib.hid (fun _ => ⟨rfl, rfl, rfl⟩), Lib.hid (fun _ => ⟨rfl, HWD5.out, HMB5.out⟩), Lib.hid (fun h => absurd h (by decide))⟩
 case round =>
  obtain ⟨k, sA, sn, sc, vc, hk, rfl, rfl, hO, hV, hA, hB⟩ := hrel
  have hbw := hO.out.b
  by_cases hlt : k < 3
  ·have hjl : k < l.length := by rw [H3.out]; exact hlt
   obtain ⟨g, o, v, rfl, hSg, hp, hcs⟩ := dL (fun _ _ h => lG h) (HLS.out wr hbw).1 hjl
   obtain ⟨d, hd⟩ : ∃ d, d = l[k] := ⟨_, rfl⟩
   have hdk : l[k]? = some d := by rw [hd]; exact List.getElem?_eq_getElem hjl
   rw [← hd] at hp
   have HP := Lib.hid hp
   obtain ⟨cs, nA, nc, hcl, hone, rfl, c0, -, c2, c3, -, hsn, hnc⟩ := jD hp
   have hrange : wr.rangeAt g (o + k * 22) cs := fun i u hu => hcs i u (by simpa [cellsOf, Value.cells] using hu)
   have rM : (prog.info? 35).map (·.size) = some cs.length := by rw [hcl]; exact cK
   have hcs2 : cs.toArray.size = 22 := by simpa using hcl
   have sZ := Lib.hid hone
   have HCS := Lib.hid hcs2
   have C0 := Lib.hid c0
   have C2 := Lib.hid c2
   have C3 := Lib.hid c3
   have HSN := Lib.hid hsn
   have hkI : (k : Int) < 3 := by omega
   have hk0 : (0 : Int) ≤ (k : Int) := by omega
   have hgs : g < wr.heap.size := by have := hS g hSg; have := hbw.size; omega
   have hbN : ∀ o, Below wr.heap.size wr (wr.alloc o) := fun o => (Below.refl _ _).alloc (Nat.le_refl _) o
   have hbs := hbw.size
   have hl8 := lt_of_block hO.out.r8
   obtain ⟨hvc, hwd, hmb⟩ := hA.out hlt
   subst hvc
   have HWD := Lib.hid hwd
   have HMB := Lib.hid hmb
   clear hp hcs hone hcs2 hcl c0 c2 c3 hsn hd hwd hmb hA hB
   rcases (by omega : k = 0 ∨ k = 1 ∨ k = 2) with hk1 | hk1 | hk1
   ·obtain rfl : d = d1 := by rw [hk1, HE.out.1] at hdk; exact (Option.some.inj hdk).symm
    have hkd := HK1.out
    obtain ⟨rfl, rfl, rfl⟩ := hV.out hk1
    have HK := Lib.hid hk1
    clear hk1 hdk hV
    have hnl := HN1.out
    go_upto_region 12 with (first | (with_reducible refine wpList_load_mid rfl 35 (.tmp 40) rfl g (o + k * 22) rfl cs _ hrange underlying35 rfl rM ?_) | (with_reducible refine dJ _ rfl rfl (.tmp 11) (.tmp 41) rfl wr.heap.size cs.toArray rfl rfl _ (heap_alloc_new wr _) rfl HCS.out sZ.out ?_; intro W6 hr6 hg6; have p0 := eH hr6 C0.out; rw [hkd] at p0))
    have hb6 : Below wr.heap.size wr W6 := (hbN _).trans (below_grown hg6 (Nat.le_refl _) (by simp))
    have HO6 := Lib.hid (hO.out.later hb6)
    have HR6 := Lib.hid hr6
    have hlt6 := lt_of_block hr6
    have Ib := hbw.trans (hb6.mono hbs)
    have HSET := Lib.hid (fun (W : World) (hW : Below W6.heap.size W6 W) => D5 W ((HWD.out.below hb6).below hW) d.names nA nc S ((HSN.out.keep (ai hb6 (fun g hg => by have := hS g hg; omega))).keep (ai hW (fun g hg => by have := hS g hg; have := Ib.size; omega))) HSV12 hnl.2 hnl.1)
    obtain ⟨ss, hss⟩ : ∃ ss, ss = iJ (aj l) d.names := ⟨_, rfl⟩
    rw [← hss] at HSET
    obtain ⟨dn, hdn⟩ : ∃ dn, dn = d.name := ⟨_, rfl⟩
    rw [← hdn] at C2
    clear hr6 hg6 hss hdn p0 hnl
    refine ax.start (fun W' => Below W6.heap.size W6 W') [12] [0, 1, 2, 3, 4, 5, 6, 8, 11] (by kernel_rfl) (below_drewN (Below.refl _ _) 1) (fun hHeld => ?_)
    repeat
     refine ax.take (v := ?_) rfl (by decide +kernel) (by rfl) (fun _ _ _ h => h) hHeld ?_ ?_
     rotate_left
     focus
      intro w9 h9
      obtain ⟨z0, z1, z2, z3, z4, z5⟩ := eD (HO6.out.later h9).r8
      have hr9 := (h9.block _ hlt6).trans HR6.out
      have y2 := eH hr9 C2.out
      have y3 := eH hr9 C3.out
      go_simp
      (try with_reducible rfl)
      done
     simp only [Act.put, List.getElem_toArray, List.getElem_cons_succ, List.getElem_cons_zero, List.setIfInBounds_toArray, List.set_cons_zero, List.set_cons_succ]
    repeat'
     first
     |refine ax.pure (v := ?_) rfl (by decide +kernel) (by rfl) (fun _ _ _ h => h) (by first | exact fun h => absurd h (by decide) | exact fun _ => hHeld) ?_ ?_
      rotate_left
      focus
       intro w9
       go_simp
       (try with_reducible rfl)
       done
      simp only [Act.put, List.getElem_toArray, List.getElem_cons_succ, List.getElem_cons_zero, List.setIfInBounds_toArray, List.set_cons_zero, List.set_cons_succ]
     |refine ax.one 7 rfl (by decide +kernel) (by rfl) (fun K hK => ?_)
     |refine ax.one 9 rfl (by decide +kernel) (by rfl) (fun K hK => ?_)
     |refine ax.one 10 rfl (by decide +kernel) (by rfl) (fun K hK => ?_)
     |refine ax.one 12 rfl (by decide +kernel) (by rfl) (fun K hK => ?_)
     |refine op_site _ rfl (.tmp 47) (.tmp 55) rfl W6.heap.size _ 0 [] (World.ownsRow_nil _ _ _ _) rfl _ 1 dn ss hlit rfl (by decide) hHeld.size ?_
      intro v7 W7 gB hg7
      obtain ⟨A7, c7, rfl, -⟩ := aJ gB
      have hHeld := hHeld.trans (aM (World.ownsRow_nil _ W6.heap.size 90 2) hg7 hHeld.size)
      refine hK.out _ _ (fun _ => hHeld) ?_
      clear hK K
     |have r8 := (HO6.out.later hHeld).r8
      obtain ⟨z0, z1, z2, z3, z4, z5⟩ := eD r8
      have f1 := frozen_of_row _ _ 1 _ _ r8
      go_simp
      first
      |go_at_call 39
       (refine (HSET.out _ hHeld).mono ?_); rintro e Y1 ⟨rfl, hY⟩; have hHeld : Below W6.heap.size W6 Y1 := (by rw [← hY]; exact hHeld); clear hY
       try go_simp
       refine hK.out _ _ (fun _ => hHeld) ?_
       clear hK K z0 z1 z2 z3 z4 z5 f1 r8
      |refine hK.out _ (World.alloc _ _) (fun _ => hHeld.alloc hHeld.size _) ?_
       have hlit := heap_alloc_new Y1 (.cells #[.string dn, .int .u16 (ss : Nat)] 90)
       have hHeld := hHeld.alloc hHeld.size (.cells #[.string dn, .int .u16 (ss : Nat)] 90)
       clear hK K z0 z1 z2 z3 z4 z5 f1 r8
      |refine hK.out _ (World.setCell _ ⟨b8, 1, none⟩ _) (fun h => absurd h (by decide)) ?_
       clear hK K z0 z1 z2 z3 z4 z5 f1 r8
      |refine hK.out _ _ (fun _ => hHeld) ?_
       clear hK K z0 z1 z2 z3 z4 z5 f1 r8
    refine ax.done (by decide +kernel) ?_
    go_wp2_with fail
    have hO7 := HO6.out.later hHeld
    have hbw7 : Below wr.heap.size wr W7 := hb6.trans (hHeld.mono hb6.size)
    have hwd7 := HWD.out.below hbw7
    have hmb7 := HMB.out.below hbw7 HMB.out.lt
    have hne : ∀ g, g ≠ b8 → (W7.setCell ⟨b8, 1, none⟩ (.slice A7 (0 + 1) c7)).heap[g]? = W7.heap[g]? := fun g hg => Below.heap_setCell W7 ⟨b8, 1, none⟩ (.slice A7 (0 + 1) c7) g hg
    go_roundw
    case rel =>
     refine ⟨k + 1, A7, 0 + 1, c7, _, by omega, by go_num, rfl, Lib.hid ⟨hO7.b.setCell (p := ⟨b8, 1, none⟩) (Nat.le_of_lt hO7.lo) _, hO7.lo, (hne _ (Nat.ne_of_lt hO7.lo)).trans hO7.r2, aC hO7.r8 (i := 1) _⟩, Lib.hid (fun h => absurd h (by omega)), Lib.hid (fun _ => ⟨rfl, ?_, hmb7.at (hne _ (by omega))⟩), Lib.hid (fun h => absurd h (by have := HK.out; omega))⟩
     exact ⟨(hne _ (by omega)).trans hwd7.row, hwd7.map.at (hne _ (by omega))⟩
    case measure => simp [intOf]; omega
   ·obtain rfl : d = d2 := by rw [hk1, HE.out.2.1] at hdk; exact (Option.some.inj hdk).symm
    have hkd := HK2.out
    have HK := Lib.hid hk1
    clear hk1 hdk hV
    go_wp2_with (first | (with_reducible refine wpList_load_mid rfl 35 (.tmp 40) rfl g (o + k * 22) rfl cs _ hrange underlying35 rfl rM ?_) | (with_reducible refine dJ _ rfl rfl (.tmp 11) (.tmp 41) rfl wr.heap.size cs.toArray rfl rfl _ (heap_alloc_new wr _) rfl HCS.out sZ.out ?_; intro W6 hr6 hg6; have p0 := eH hr6 C0.out; rw [hkd] at p0))
    have hb6 : Below wr.heap.size wr W6 := (hbN _).trans (below_grown hg6 (Nat.le_refl _) (by simp))
    go_roundw
    case rel => exact ⟨k + 1, sA, sn, sc, _, by omega, by go_num, rfl, Lib.hid (hO.out.later hb6), Lib.hid (fun h => absurd h (by omega)), Lib.hid (fun _ => ⟨rfl, HWD.out.below hb6, HMB.out.below hb6 HMB.out.lt⟩), Lib.hid (fun h => absurd h (by have := HK.out; omega))⟩
    case measure => simp [intOf]; omega
   ·obtain rfl : d = d3 := by rw [hk1, HE.out.2.2] at hdk; exact (Option.some.inj hdk).symm
    have hkd := HK3.out
    have HK := Lib.hid hk1
    clear hk1 hdk hV
    go_upto_region 16 with (first | (with_reducible refine wpList_load_mid rfl 35 (.tmp 40) rfl g (o + k * 22) rfl cs _ hrange underlying35 rfl rM ?_) | (with_reducible refine dJ _ rfl rfl (.tmp 11) (.tmp 41) rfl wr.heap.size cs.toArray rfl rfl _ (heap_alloc_new wr _) rfl HCS.out sZ.out ?_; intro W6 hr6 hg6; have p0 := eH hr6 C0.out; rw [hkd] at p0))
    have hb6 : Below wr.heap.size wr W6 := (hbN _).trans (below_grown hg6 (Nat.le_refl _) (by simp))
    have Ib := hbw.trans (hb6.mono hbs)
    have HO6 := Lib.hid (hO.out.later hb6)
    have HC6 := Lib.hid (HCF.out b sb mb W6 _ (HWD.out.below hb6) (HMB.out.below hb6 HMB.out.lt) (HLS.out W6 Ib).1 (HLS.out W6 Ib).2 (HP.out.keep (ai hb6 (fun g hg => by have := hS g hg; omega))) (HZ.out.below Ib (Nat.le_refl _)))
    have HR6 := Lib.hid hr6
    clear hr6 hg6 p0
    go_wp2_with (with_reducible refine fK _ rfl (.tmp 11) rfl wr.heap.size rfl _ HR6.out HCS.out ?_)
    refine HC6.out.mono ?_
    rintro e Y ⟨rA, rc, wA, wc, fA, fc, rfl, hsr, hrc, hsw, hwc, hsf, hfc, hgY⟩
    obtain ⟨uu, huu⟩ : ∃ uu, uu = gJ R ||| gJ Wr := ⟨_, rfl⟩
    obtain ⟨dn, hdn⟩ : ∃ dn, dn = d.name := ⟨_, rfl⟩
    rw [← huu, ← hdn]
    clear huu hdn
    have r8 := aB hgY HO6.out.r8 (by omega)
    have r2 := aB hgY HO6.out.r2 (by omega)
    have hbY : Below w.heap.size w Y := Ib.trans (below_grown hgY (by omega) Ib.size)
    have HR8 := Lib.hid r8
    have HR2 := Lib.hid r2
    have HSR := Lib.hid hsr
    have HSW := Lib.hid hsw
    have hs6Y := hgY.size
    have hl8Y := lt_of_block r8
    have hl86 := lt_of_block HO6.out.r8
    obtain ⟨z0, z1, z2, z3, z4, z5⟩ := eD r8
    obtain ⟨X, hX⟩ : ∃ X : World, X = Y.alloc (.cells #[.string dn, .int .i64 1, .int .u16 (uu : Nat), .slice rA R.length rc, .slice wA Wr.length wc, .slice fA F.length fc] 54) := ⟨_, rfl⟩
    have hbX : Below Y.heap.size Y X := by rw [hX]; exact hbA _ _
    have hrX : X.heap[Y.heap.size]? = some (.cells #[.string dn, .int .i64 1, .int .u16 (uu : Nat), .slice rA R.length rc, .slice wA Wr.length wc, .slice fA F.length fc] 54 (0, 0)) := by rw [hX]; exact heap_alloc_new _ _
    have HX := Lib.hid hX
    have HRX := Lib.hid hrX
    clear hsr hsw hsf hgY r2 hX hrX
    go_upto_region 19 with fail
    rw [← HX.out]
    obtain ⟨z0, z1, z2, z3, z4, z5⟩ := eD ((hbX.block _ hl8Y).trans r8)
    obtain ⟨y0, y1, y2, y3, y4, y5⟩ := eD HRX.out
    have r8X := (hbX.block _ hl8Y).trans r8
    have hsX := hbX.size
    clear r8
    go_wp2_with (at_builtin; refine CO X rfl (.tmp 83) (.tmp 85) rfl X.heap.size _ 0 [] (World.ownsRow_nil _ _ _ _) rfl dn 1 (uu : Nat) rA R.length rc wA Wr.length wc fA F.length fc rfl (by decide) (Nat.le_refl _) ?_; intro v7 W7 gB hg7 hv7; obtain ⟨A7, c7, hv8, hc7⟩ := aJ gB; subst hv8; have r8W := (hg7.block b8 (by omega) (by simp [Value.ownBlock])).trans r8X; have f3 := frozen_of_row _ _ 3 _ _ r8W; obtain ⟨x0, x1, x2, x3, x4, x5⟩ := eD r8W)
    have mo : W7.ownsRow X.heap.size 54 6 (.slice A7 1 c7) 1 [.string dn, .int .i64 1, .int .u16 (uu : Nat), .slice rA R.length rc, .slice wA Wr.length wc, .slice fA F.length fc] := by simpa using gB
    obtain ⟨cg, cc, hv⟩ := yL mo (by decide)
    obtain ⟨rfl, rfl⟩ : A7 = some ⟨cg, 0, none⟩ ∧ c7 = cc := by injection hv with q1 q2 q3; exact ⟨q1, q3⟩
    have hcg := (mo.lt cg rfl).1
    have hne : ∀ g, g ≠ b8 → (W7.setCell ⟨b8, 3, none⟩ (.slice (some ⟨cg, 0, none⟩) 1 c7)).heap[g]? = W7.heap[g]? := fun g hg => Below.heap_setCell W7 ⟨b8, 3, none⟩ (.slice (some ⟨cg, 0, none⟩) 1 c7) g hg
    have hcl : ∀ i, i < 6 → (W7.setCell ⟨b8, 3, none⟩ (.slice (some ⟨cg, 0, none⟩) 1 c7)).cell? ⟨cg, i, none⟩ = ([.string dn, .int .i64 1, .int .u16 (uu : Nat), .slice rA R.length rc, .slice wA Wr.length wc, .slice fA F.length fc] : List Value)[i]? := fun i hi => (cell_of_block (hne cg (by omega))).trans (mo.cellAt i (by omega))
    have hb7 : Below X.heap.size X W7 := aM (World.ownsRow_nil _ X.heap.size 54 6) hg7 (Nat.le_refl _)
    have hkp : ∀ g, W6.heap.size ≤ g → g < Y.heap.size → (W7.setCell ⟨b8, 3, none⟩ (.slice (some ⟨cg, 0, none⟩) 1 c7)).heap[g]? = Y.heap[g]? := fun g hg hl => (hne g (by omega)).trans ((hb7.block g (by omega)).trans (hbX.block g hl))
    have hbW7 : Below w.heap.size w W7 := (hbY.trans (hbX.mono hbY.size)).trans (hb7.mono (by omega))
    have hr27 : W7.heap[w.heap.size]? = some (.cells EZ 48 (0, 0)) := (hb7.block _ (by have := lt_of_block HR2.out; omega)).trans ((hbX.block _ (lt_of_block HR2.out)).trans HR2.out)
    have hlo8 := hO.out.lo
    have hw6 := Ib.size
    go_roundw
    case rel =>
     refine ⟨k + 1, sA, sn, sc, .slice (some ⟨cg, 0, none⟩) 1 c7, by omega, by go_num, rfl, Lib.hid ⟨hbW7.setCell (p := ⟨b8, 3, none⟩) (Nat.le_of_lt hlo8) _, hlo8, (hne _ (Nat.ne_of_lt hlo8)).trans hr27, aC r8W (i := 3) _⟩, Lib.hid (fun h => absurd h (by omega)), Lib.hid (fun h => absurd h (by have := HK.out; omega)), Lib.hid (fun _ => ?_)⟩
     exact ⟨cg, c7, dn, 1, (uu : Nat), rA, rc, wA, wc, fA, fc, rfl, by omega, ⟨hcl 0 (by decide), hcl 1 (by decide), hcl 2 (by decide), hcl 3 (by decide), hcl 4 (by decide), hcl 5 (by decide)⟩,
      (HSR.out.keep hkp).mono (fun g hg _ => ⟨by omega, by omega⟩) (by decide), (HSW.out.keep hkp).mono (fun g hg _ => ⟨by omega, by omega⟩) (by decide), by omega⟩
    case measure => simp [intOf]; omega
  ·obtain rfl : k = 3 := by omega
   have hkI : ¬ ((3 : Nat) : Int) < 3 := by decide
   obtain ⟨cg, cc, nm, kd, mem, rA, rc, wA, wc, fA, fc, rfl, hcb, hcells, hsr, hsw, hcg0⟩ := hB.out rfl
   have HCE := Lib.hid hcells
   have HSR := Lib.hid hsr
   have HSW := Lib.hid hsw
   have hO1 := hO.out
   have HO := Lib.hid hO1
   have r8 := hO1.r8
   have hl8 := lt_of_block r8
   obtain ⟨z0, z1, z2, z3, z4, z5⟩ := eD r8
   have hcgl : cg < wr.heap.size := World.block_lt_of_cell? wr _ hcells.1
   clear hcells hsr hsw hO1 hO hV hA hB
   rename World => w8
   go_wp2
   go_loopw [17, 131] (fun _ x wn => ∃ (j : Nat) (hA : Option Addr) (hn hc : Nat), j ≤ 1 ∧ x = .int .i64 j ∧ Hid (j = 0 → hA = none ∧ hn = 0 ∧ hc = 0) ∧ Hid (wn.heap[b8]? = some (.cells #[.slice A4 n c4, .slice sA sn sc, .int .u16 0, .slice (some ⟨cg, 0, none⟩) 1 cc, .slice hA hn hc, .slice none 0 0] 48 (0, 0))) ∧ Hid (But (fun g => g = b8) w8 wn)) (fun _ x _ => 1 - (intOf x).toNat)
   case atStart => exact ⟨0, none, 0, 0, by decide, rfl, Lib.hid (fun _ => ⟨rfl, rfl, rfl⟩), Lib.hid r8, Lib.hid (But.refl _ _)⟩
   case round =>
    obtain ⟨j, hA, hn, hc, hj, rfl, hz, hr, hbu⟩ := hrel
    clear z0 z1 z2 z3 z4 z5
    obtain ⟨z0, z1, z2, z3, z4, z5⟩ := eD hr.out
    have hlw := lt_of_block hr.out
    have hj0 : (0 : Int) ≤ (j : Int) := by omega
    by_cases hj1 : j < 1
    ·have hjI : (j : Int) < 1 := by omega
     obtain ⟨rfl, rfl, rfl⟩ := hz.out (by omega)
     have HBU := Lib.hid hbu.out
     have HR := Lib.hid hr.out
     clear hbu hr hz
     go_wp2_with (at_builtin; refine yE wr rfl (.tmp 135) (.tmp 137) rfl wr.heap.size _ 0 [] (World.ownsRow_nil _ _ _ _) rfl (j : Int) rfl (by decide) (Nat.le_refl _) ?_; intro v7 W7 gB hg7 hv7; obtain ⟨A7, c7, hv8, hc7⟩ := aJ gB; subst hv8; have r8W := (hg7.block b8 (by omega) (by simp [Value.ownBlock])).trans HR.out; have f4 := frozen_of_row _ _ 4 _ _ r8W; obtain ⟨x0, x1, x2, x3, x4, x5⟩ := eD r8W)
     have hb7 : Below wr.heap.size wr W7 := aM (World.ownsRow_nil _ wr.heap.size 3 1) hg7 (Nat.le_refl _)
     go_roundw
     case rel => exact ⟨j + 1, A7, 0 + 1, c7, by omega, by go_num, Lib.hid (fun h => absurd h (by omega)), Lib.hid (aC r8W (i := 4) _), Lib.hid ((HBU.out.trans (.of_below hb7)).setCell rfl 4 _)⟩
     case measure => simp [intOf]; omega
    ·have hjI : ¬ (j : Int) < 1 := by omega
     have hr2 := (hbu.out.block w.heap.size (by have := HO.out.lo; omega) (lt_of_block HO.out.r2)).trans HO.out.r2
     obtain ⟨y0, y1, y2, y3, y4, y5⟩ := eD hr2
     have g0 := frozen_of_row _ _ 0 _ _ hr2
     have g1 := frozen_of_row _ _ 1 _ _ hr2
     have g2 := frozen_of_row _ _ 2 _ _ hr2
     have g3 := frozen_of_row _ _ 3 _ _ hr2
     have g4 := frozen_of_row _ _ 4 _ _ hr2
     have g5 := frozen_of_row _ _ 5 _ _ hr2
     have hlo := HO.out.lo
     have hne8 : ¬ w.heap.size = b8 := by omega
     have hne9 : ¬ b8 = w.heap.size := by omega
     have hlw2 := lt_of_block hr2
     have HR2 := Lib.hid hr2
     have HBU := Lib.hid hbu.out
     clear hbu hr hz hr2
     go_wp2
     go_loop [19, 143] (fun _ x => x = .int .i64 0) (fun _ _ => 0)
     case atStart => rfl
     case round =>
      subst hrel
      go_wp2
      have hrow := yw (b0 := .slice A4 n c4) (b1 := .slice sA sn sc) (b2 := .int .u16 0) (b3 := .slice (some ⟨cg, 0, none⟩) 1 cc) (b4 := .slice hA hn hc) (b5 := .slice none 0 0) HR2.out
      have hne : ∀ (X : World) (i : Nat) (u : Value) (g : Nat), g ≠ w.heap.size → (X.setCell ⟨w.heap.size, i, none⟩ u).heap[g]? = X.heap[g]? := fun X i u g h => Below.heap_setCell X ⟨w.heap.size, i, none⟩ u g h
      have hkeep : ∀ g, g ≠ w.heap.size → ((((((wr.setCell ⟨w.heap.size, 0, none⟩ (.slice A4 n c4)).setCell ⟨w.heap.size, 1, none⟩ (.slice sA sn sc)).setCell ⟨w.heap.size, 2, none⟩ (.int .u16 0)).setCell ⟨w.heap.size, 3, none⟩ (.slice (some ⟨cg, 0, none⟩) 1 cc)).setCell ⟨w.heap.size, 4, none⟩ (.slice hA hn hc)).setCell ⟨w.heap.size, 5, none⟩ (.slice none 0 0)).heap[g]? = wr.heap[g]? := fun g hg => by
       rw [hne _ _ _ g hg, hne _ _ _ g hg, hne _ _ _ g hg, hne _ _ _ g hg, hne _ _ _ g hg, hne _ _ _ g hg]
      have hbw9 : Below w.heap.size w wr := HO.out.b.trans (HBU.out.below (fun g e => by omega) (by have := HO.out.b.size; omega))
      have hbf : Below w.heap.size w ((((((wr.setCell ⟨w.heap.size, 0, none⟩ (.slice A4 n c4)).setCell ⟨w.heap.size, 1, none⟩ (.slice sA sn sc)).setCell ⟨w.heap.size, 2, none⟩ (.int .u16 0)).setCell ⟨w.heap.size, 3, none⟩ (.slice (some ⟨cg, 0, none⟩) 1 cc)).setCell ⟨w.heap.size, 4, none⟩ (.slice hA hn hc)).setCell ⟨w.heap.size, 5, none⟩ (.slice none 0 0)) :=
       (((((hbw9.setCell (p := ⟨w.heap.size, 0, none⟩) (Nat.le_refl _) _).setCell (p := ⟨w.heap.size, 1, none⟩) (Nat.le_refl _) _).setCell (p := ⟨w.heap.size, 2, none⟩) (Nat.le_refl _) _).setCell (p := ⟨w.heap.size, 3, none⟩) (Nat.le_refl _) _).setCell (p := ⟨w.heap.size, 4, none⟩) (Nat.le_refl _) _).setCell (p := ⟨w.heap.size, 5, none⟩) (Nat.le_refl _) _
      have hcg := HCE.out
      generalize ((((((wr.setCell ⟨w.heap.size, 0, none⟩ (.slice A4 n c4)).setCell ⟨w.heap.size, 1, none⟩ (.slice sA sn sc)).setCell ⟨w.heap.size, 2, none⟩ (.int .u16 0)).setCell ⟨w.heap.size, 3, none⟩ (.slice (some ⟨cg, 0, none⟩) 1 cc)).setCell ⟨w.heap.size, 4, none⟩ (.slice hA hn hc)).setCell ⟨w.heap.size, 5, none⟩ (.slice none 0 0)) = W9 at hrow hkeep hbf ⊢
      have hk9 : ∀ g, w.heap.size < g ∧ g ≠ b8 → g < w8.heap.size → W9.heap[g]? = w8.heap[g]? := fun g hg hl => (hkeep g (by omega)).trans (HBU.out.block g hg.2 hl)
      have hc9 : ∀ i, W9.cell? ⟨cg, i, none⟩ = w8.cell? ⟨cg, i, none⟩ := fun i => cell_of_block (hk9 cg ⟨hcg0, hcb⟩ hcgl)
      refine En rfl rfl rfl rfl rfl hrow rfl ?_
      exact ⟨A4, c4, sA, sn, sc, cg, cc, hA, hn, hc, nm, kd, mem, rA, rc, wA, wc, fA, fc, rfl, ⟨(hc9 0).trans hcg.1, (hc9 1).trans hcg.2.1, (hc9 2).trans hcg.2.2.1, (hc9 3).trans hcg.2.2.2.1, (hc9 4).trans hcg.2.2.2.2.1, (hc9 5).trans hcg.2.2.2.2.2⟩,
       (HSR.out.keep hk9).mono (fun g hg _ => by omega) (by decide), (HSW.out.keep hk9).mono (fun g hg _ => by omega) (by decide), hcg0, hbf⟩
theorem EO : bH [dp1, dp2, dp3] = (0, 0) := by kernel_rfl
theorem DF : ([dp1, dp2, dp3].map aZ).sum ≤ 1100000 := of_decide_eq_true (by kernel_rfl)
theorem nL : (aj [dp1, dp2, dp3]).length = 3 := by kernel_rfl
theorem dp_read : (fH [dp1, dp2, dp3] dp3.read).2 = 0 := by kernel_rfl
theorem dp_write : (fH [dp1, dp2, dp3] dp3.write).2 = 0 := by kernel_rfl
theorem dp_famR : vv (fH [dp1, dp2, dp3] dp3.read).1 = ([3, 5, 6], 0) := by kernel_rfl
theorem dp_famW : vv (fH [dp1, dp2, dp3] dp3.write).1 = ([7], 0) := by kernel_rfl
theorem dp_find : ql [dp1, dp2, dp3] 2 dp3.use = some dp2 := by kernel_rfl
theorem dp_thr : tJ 3 0 1 = ([(0, 1), (0, 2), (0, 4)], 0) := by kernel_rfl
theorem dp_kept : qV [(0, 1), (0, 2), (0, 4)] = [(0, 1), (0, 2), (0, 4)] := by decide
theorem EN : Typed [dp1, dp2, dp3] dp3.read ∧ Typed [dp1, dp2, dp3] dp3.write := ⟨⟨by kernel_rfl, by kernel_rfl⟩, ⟨by kernel_rfl, by kernel_rfl⟩⟩
theorem dp_fok : FOk [(0, 1), (0, 2), (0, 4)] := by
 refine ⟨by decide, by decide, fun j h => ?_, fun x hx => ?_, fun x hx => ?_⟩
 ·have : j = 0 ∨ j = 1 := by simp at h; omega
  rcases this with rfl | rfl
  ·exact ⟨(by decide : 0 ≤ xD (0, 2) (0, 1)), (by decide : ((0, 2) : Nat × Nat) ≠ (0, 1))⟩
  ·exact ⟨(by decide : 0 ≤ xD (0, 4) (0, 2)), (by decide : ((0, 4) : Nat × Nat) ≠ (0, 2))⟩
 ·simp only [List.mem_cons, List.not_mem_nil, or_false] at hx
  rcases hx with rfl | rfl | rfl <;> decide
 ·simp only [List.mem_cons, List.not_mem_nil, or_false] at hx
  rcases hx with rfl | rfl | rfl <;> decide
theorem dp_lims : zC [3, 5, 6] ∧ zC [7] := by
 refine ⟨⟨by decide, fun x hx => ?_⟩, ⟨by decide, fun x hx => ?_⟩⟩
 ·simp only [List.mem_cons, List.not_mem_nil, or_false] at hx
  rcases hx with rfl | rfl | rfl <;> decide
 ·simp only [List.mem_cons, List.not_mem_nil, or_false] at hx
  subst hx; decide
theorem Er {α : Type} {r : α × Nat} (h : r.2 = 0) : r = (r.1, 0) := by rw [← h]
theorem FP (A : Option Addr) (c : Nat) (w : World) (S : Nat → Prop) (hl : aL (dx w S) w S 22 A [dp1, dp2, dp3]) (hS : ∀ g, S g → g < w.heap.size) (hpw : Pow w) (hz : Tz w) :
  Calls prog 12 #[.slice A 3 c] w (OfPost 3 [3, 5, 6] [7] [(0, 1), (0, 2), (0, 4)] w) := by
 have hc : (bH [dp1, dp2, dp3]).2 = 0 := by rw [EO]
 have h := of_any dp1 dp2 dp3 A c w S hl hS rfl rfl rfl EO DF hpw [3, 5, 6] [7] [(0, 1), (0, 2), (0, 4)] (fun b sb mb W v hw hmb hls hSW hd hzW => by
  have e1 := nK (b := b) (sb := sb) (mb := mb) (A := A) (c := c) hc DF EN.1 (of_decide_eq_true (by kernel_rfl))
  have e2 := nK (b := b) (sb := sb) (mb := mb) (A := A) (c := c) hc DF EN.2 (of_decide_eq_true (by kernel_rfl))
  rw [Er dp_read] at e1
  rw [Er dp_write] at e2
  exact GY W S hw hmb hls hSW dp3 v hd _ _ e1.1 (e1.2 rfl) e2.1 (e2.2 rfl) [3, 5, 6] [7] dp_famR dp_famW dp_lims.1 dp_lims.2 [(0, 1), (0, 2), (0, 4)] (fun W' S' hw' hmb' hls' hS' hz' => by
   have hm := model_any W' S' hw' hmb' hls' hS' (by decide) (by rw [nL]; decide) dp3.use (by decide) dp2 dp_find (bs []) 0 1 [] [] rfl (by rw [nL]; decide) hz' [(0, 1), (0, 2), (0, 4)] (by rw [nL]; exact dp_thr) dp_fok (by rw [dp_kept]; decide)
   rw [dp_kept] at hm
   exact hm) (eq_true rfl) hzW) hz
 rw [nL] at h
 exact h
theorem AB (w : World) (hpw : Pow w) (hz : Tz w) : Calls prog 23 #[.string (bs bZ)] w (OfPost 3 [3, 5, 6] [7] [(0, 1), (0, 2), (0, 4)] w) := by
 have hbA : ∀ (W : World) (o : Obj), Below W.heap.size W (W.alloc o) := fun W o => (Below.refl _ _).alloc (Nat.le_refl _) o
 have HPA := Lib.hid parse_dp
 have HOF := Lib.hid FP
 have HP := Lib.hid hpw
 have HZ := Lib.hid hz
 obtain ⟨tx, htx⟩ : ∃ tx, tx = bs bZ := ⟨_, rfl⟩
 rw [← htx] at HPA ⊢
 obtain ⟨W0, hW0⟩ : ∃ W0 : World, W0 = w.alloc (.cells EZ 48) := ⟨_, rfl⟩
 have hb0 : Below w.heap.size w W0 := by rw [hW0]; exact hbA _ _
 have hr0 : W0.heap[w.heap.size]? = some (.cells EZ 48 (0, 0)) := by rw [hW0]; exact heap_alloc_new _ _
 have H0 := Lib.hid hW0
 have HR0 := Lib.hid hr0
 have vS := lt_of_block hr0
 clear hpw hz hW0 hr0 htx
 go_enter func23, ntmps23
 go_wp2_with fail
 rw [← H0.out]
 refine (HPA.out W0).mono ?_
 rintro e w1 ⟨A1, c1, rfl, hc1, hl1, hb1⟩
 have gW := hb0.trans (hb1.mono hb0.size)
 have r1 := (hb1.block _ vS).trans HR0.out
 have HO := Lib.hid (HOF.out A1 c1 w1 (fun g => W0.heap.size ≤ g ∧ g < w1.heap.size) (hl1.mono (fun g h1 h2 => ⟨h1, h2⟩) (by decide) (fun _ _ h => h.mono fun g h1 h2 => ⟨h1, h2⟩)) (fun g hg => hg.2) (HP.out.below gW) (HZ.out.below gW (Nat.le_refl _)))
 clear hl1 hc1
 go_wp2_with fail
 refine HO.out.mono ?_
 rintro e w2 ⟨svA, svc, sA, sn, sc, cg, cc, hA, hn, hc, nm, kd, mem, rA, rc, wA, wc, fA, fc, rfl, hcl, hsr, hsw, hcg, hb2⟩
 have r2 := (hb2.block _ (lt_of_block r1)).trans r1
 have hbw2 := gW.trans (hb2.mono gW.size)
 have hs1 := gW.size
 have hlt1 := lt_of_block r1
 obtain ⟨y0, y1, y2, y3, y4, y5⟩ := eD r2
 have g0 := frozen_of_row _ _ 0 _ _ r2
 have g1 := frozen_of_row _ _ 1 _ _ r2
 have g2 := frozen_of_row _ _ 2 _ _ r2
 have g3 := frozen_of_row _ _ 3 _ _ r2
 have g4 := frozen_of_row _ _ 4 _ _ r2
 have g5 := frozen_of_row _ _ 5 _ _ r2
 have HR2 := Lib.hid r2
 have HCL := Lib.hid hcl
 have HSR := Lib.hid hsr
 have HSW := Lib.hid hsw
 clear r2 hcl hsr hsw
 go_wp2
 have hrow := yw (b0 := .slice svA 3 svc) (b1 := .slice sA sn sc) (b2 := .int .u16 0) (b3 := .slice (some ⟨cg, 0, none⟩) 1 cc) (b4 := .slice hA hn hc) (b5 := .slice none 0 0) HR2.out
 have hne : ∀ (X : World) (i : Nat) (u : Value) (g : Nat), g ≠ w.heap.size → (X.setCell ⟨w.heap.size, i, none⟩ u).heap[g]? = X.heap[g]? := fun X i u g h => Below.heap_setCell X ⟨w.heap.size, i, none⟩ u g h
 have hkeep : ∀ g, g ≠ w.heap.size → ((((((w2.setCell ⟨w.heap.size, 0, none⟩ (.slice svA 3 svc)).setCell ⟨w.heap.size, 1, none⟩ (.slice sA sn sc)).setCell ⟨w.heap.size, 2, none⟩ (.int .u16 0)).setCell ⟨w.heap.size, 3, none⟩ (.slice (some ⟨cg, 0, none⟩) 1 cc)).setCell ⟨w.heap.size, 4, none⟩ (.slice hA hn hc)).setCell ⟨w.heap.size, 5, none⟩ (.slice none 0 0)).heap[g]? = w2.heap[g]? := fun g hg => by
  rw [hne _ _ _ g hg, hne _ _ _ g hg, hne _ _ _ g hg, hne _ _ _ g hg, hne _ _ _ g hg, hne _ _ _ g hg]
 have hbf : Below w.heap.size w ((((((w2.setCell ⟨w.heap.size, 0, none⟩ (.slice svA 3 svc)).setCell ⟨w.heap.size, 1, none⟩ (.slice sA sn sc)).setCell ⟨w.heap.size, 2, none⟩ (.int .u16 0)).setCell ⟨w.heap.size, 3, none⟩ (.slice (some ⟨cg, 0, none⟩) 1 cc)).setCell ⟨w.heap.size, 4, none⟩ (.slice hA hn hc)).setCell ⟨w.heap.size, 5, none⟩ (.slice none 0 0)) :=
  (((((hbw2.setCell (p := ⟨w.heap.size, 0, none⟩) (Nat.le_refl _) _).setCell (p := ⟨w.heap.size, 1, none⟩) (Nat.le_refl _) _).setCell (p := ⟨w.heap.size, 2, none⟩) (Nat.le_refl _) _).setCell (p := ⟨w.heap.size, 3, none⟩) (Nat.le_refl _) _).setCell (p := ⟨w.heap.size, 4, none⟩) (Nat.le_refl _) _).setCell (p := ⟨w.heap.size, 5, none⟩) (Nat.le_refl _) _
 generalize ((((((w2.setCell ⟨w.heap.size, 0, none⟩ (.slice svA 3 svc)).setCell ⟨w.heap.size, 1, none⟩ (.slice sA sn sc)).setCell ⟨w.heap.size, 2, none⟩ (.int .u16 0)).setCell ⟨w.heap.size, 3, none⟩ (.slice (some ⟨cg, 0, none⟩) 1 cc)).setCell ⟨w.heap.size, 4, none⟩ (.slice hA hn hc)).setCell ⟨w.heap.size, 5, none⟩ (.slice none 0 0)) = W9 at hrow hkeep hbf ⊢
 have hk9 : ∀ g, w1.heap.size < g → g < w2.heap.size → W9.heap[g]? = w2.heap[g]? := fun g hg _ => hkeep g (by omega)
 have hc9 : ∀ i, W9.cell? ⟨cg, i, none⟩ = w2.cell? ⟨cg, i, none⟩ := fun i => cell_of_block (hkeep cg (by omega))
 have hcg2 := HCL.out
 refine En rfl rfl rfl rfl rfl hrow rfl ?_
 exact ⟨svA, svc, sA, sn, sc, cg, cc, hA, hn, hc, nm, kd, mem, rA, rc, wA, wc, fA, fc, rfl, ⟨(hc9 0).trans hcg2.1, (hc9 1).trans hcg2.2.1, (hc9 2).trans hcg2.2.2.1, (hc9 3).trans hcg2.2.2.2.1, (hc9 4).trans hcg2.2.2.2.2.1, (hc9 5).trans hcg2.2.2.2.2.2⟩,
  (HSR.out.keep hk9).mono (fun g hg _ => by omega) (by decide), (HSW.out.keep hk9).mono (fun g hg _ => by omega) (by decide), by omega, hbf⟩
theorem name1_any (x : ByteArray) (w : World) : Calls prog 24 #[.string x] w fun e w' => e = .returned (.agg #[.int .i64 1, .string x, .int .i64 0, .slice none 0 0, .slice none 0 0]) ∧ Below w.heap.size w w' := by
 obtain ⟨W0, hW0⟩ : ∃ W0 : World, W0 = w.alloc (.cells #[.int .i64 0, .string ⟨#[]⟩, .int .i64 0, .slice none 0 0, .slice none 0 0] 26) := ⟨_, rfl⟩
 have hb0 : Below w.heap.size w W0 := by rw [hW0]; exact (Below.refl _ _).alloc (Nat.le_refl _) _
 have hr0 : W0.heap[w.heap.size]? = some (.cells #[.int .i64 0, .string ⟨#[]⟩, .int .i64 0, .slice none 0 0, .slice none 0 0] 26 (0, 0)) := by rw [hW0]; exact heap_alloc_new _ _
 have H0 := Lib.hid hW0
 have HR0 := Lib.hid hr0
 obtain ⟨y0, y1, y2, y3, y4⟩ := aO hr0
 have g0 := frozen_of_row _ _ 0 _ _ hr0
 have g1 := frozen_of_row _ _ 1 _ _ hr0
 have g2 := frozen_of_row _ _ 2 _ _ hr0
 have g3 := frozen_of_row _ _ 3 _ _ hr0
 have g4 := frozen_of_row _ _ 4 _ _ hr0
 clear hW0 hr0
 go_enter func24, ntmps24
 go_upto_region 1 with fail
 rw [← H0.out]
 go_wp2
 have hrow := aC (aC (aC (aC (aC HR0.out (i := 0) (.int .i64 1)) (i := 1) (.string x)) (i := 2) (.int .i64 0)) (i := 3) (.slice none 0 0)) (i := 4) (.slice none 0 0)
 refine bodyPost_ret (v := .agg #[.int .i64 1, .string x, .int .i64 0, .slice none 0 0, .slice none 0 0]) (results_cell_row rfl _ _ w.heap.size 26 _ (0, 0) _ rfl hrow underlying26 rfl (by kernel_rfl)) rfl ⟨rfl, ?_⟩
 exact ((((hb0.setCell (p := ⟨w.heap.size, 0, none⟩) (Nat.le_refl _) _).setCell (p := ⟨w.heap.size, 1, none⟩) (Nat.le_refl _) _).setCell (p := ⟨w.heap.size, 2, none⟩) (Nat.le_refl _) _).setCell (p := ⟨w.heap.size, 3, none⟩) (Nat.le_refl _) _).setCell (p := ⟨w.heap.size, 4, none⟩) (Nat.le_refl _) _
theorem wW (a b : List Nat) (A B : Option Addr) (c d : Nat) (w : World) (S T : Nat → Prop) (ha : ak w S 1 A a.length (fG a)) (hb : ak w T 1 B b.length (fG b)) (he : a = b) (hal : a.length ≤ 1000000000) :
  Calls prog 25 #[.slice A a.length c, .slice B b.length d] w fun e w' => e = .returned (.bool true) ∧ Below w.heap.size w w' := by
 subst he
 have HA := Lib.hid ha
 have HB := Lib.hid hb
 obtain ⟨n, hn⟩ : ∃ n, n = a.length := ⟨_, rfl⟩
 have HN := Lib.hid hn
 rw [← hn] at hal ⊢
 clear ha hb hn
 go_enter func25, ntmps25
 go_wp2
 go_loopw [5] (fun x wr => ∃ k : Nat, k ≤ n ∧ x = .int .i64 k ∧ Below w.heap.size w wr) (fun x _ => n - (intOf x).toNat)
 case atStart => exact ⟨0, Nat.zero_le _, rfl, Below.refl _ _⟩
 case round =>
  obtain ⟨k, hk, rfl, hbr⟩ := hrel
  by_cases hlt : k < n
  ·have hlt2 : k < a.length := by rw [← HN.out]; exact hlt
   obtain ⟨g1, o1, rfl, -, h1⟩ := HA.out.cells (by omega)
   obtain ⟨g2, o2, rfl, -, h2⟩ := HB.out.cells (by omega)
   have hv : (fG a)[k]? = some (.int .u16 (a[k] : Nat)) := by simp [fG, hlt2]
   have e1' := h1 k _ hv
   have e2' := h2 k _ hv
   have e1 := (hbr.cell (p := ⟨g1, o1 + k, none⟩) (World.block_lt_of_cell? w _ e1')).trans e1'
   have e2 := (hbr.cell (p := ⟨g2, o2 + k, none⟩) (World.block_lt_of_cell? w _ e2')).trans e2'
   obtain ⟨z, hz⟩ : ∃ z : Nat, z = a[k] := ⟨_, rfl⟩
   rw [← hz] at e1 e2
   have hkI : (k : Int) < (n : Int) := by omega
   have hk0 : (0 : Int) ≤ (k : Int) := by omega
   clear h1 h2 hv e1' e2' hz
   go_wp2_with go_quiet (fail)
   go_wp2
   go_roundw
   case rel => exact ⟨k + 1, by omega, by go_num, by first | exact hbr | exact below_drewN hbr _⟩
   case measure => simp [intOf]; omega
  ·obtain rfl : k = n := by omega
   have hkI : ¬ (k : Int) < (k : Int) := by omega
   go_wp2
   go_ret
   exact ⟨rfl, hbr⟩
def aw1 : Dc := ⟨1, 0, bs [115], [bs [97], bs [98], bs [99]], [], .zero, bs [], .zero, .zero, bs []⟩
def aw2 : Dc := ⟨2, 0, bs [102], [], [⟨1, bs [], 0, 0, [], []⟩], .zero, bs [], .zero, .zero, bs []⟩
def aw3 : Dc := ⟨4, 0, bs [120], [], [], .zero, bs [99, 114, 97, 115, 104], .mk 1 (bs [97]) 0 [] [], .mk 1 (bs [97]) 0 [] [], bs [102]⟩
def awT : Tm := .mk 2 (bs []) 2 [] [.mk 1 (bs [97]) 0 [] [], .mk 4 (bs []) 0 [] [.mk 1 (bs [98]) 0 [] [], .mk 1 (bs [99]) 0 [] []]]
theorem BU : (kM [aw1, aw2, aw3] awT).2 = 0 ∧ (kM [aw1, aw2, aw3] awT).1.nodes.length = 5 := ⟨by kernel_rfl, by kernel_rfl⟩
theorem aw_size : ([aw1, aw2, aw3].map aZ).sum ≤ 1100000 ∧ av awT ≤ 1550000 := ⟨of_decide_eq_true (by kernel_rfl), of_decide_eq_true (by kernel_rfl)⟩
theorem pz {W : World} {b : Nat} {cs : List Value} {T : TypeId} {size n : Nat} (S : Nat → Prop) (h : W.heap[b]? = some (.cells cs.toArray T (0, 0))) (hl : cs.length = n * size) (hS : S b) : ak W S size (some ⟨b, 0, none⟩) n cs :=
 ⟨hl, fun _ => ⟨b, 0, rfl, hS, fun j u hu => by rw [cell_of_row _ _ (0 + j) _ _ _ h]; simpa using hu⟩⟩
def awRow (bA : Nat) : List Value := .int .i64 1 :: .int .i64 0 :: .string ⟨#[115]⟩ :: .slice (some ⟨bA, 0, none⟩) 3 3 :: .slice none 0 0 :: .int .i64 0 :: .string ⟨#[]⟩ :: .int .i64 0 :: .slice none 0 0 :: .slice none 0 0 :: .string ⟨#[]⟩ :: .int .i64 0 :: .string ⟨#[]⟩ :: .int .i64 0 :: .slice none 0 0 :: .slice none 0 0 :: .int .i64 0 :: .string ⟨#[]⟩ :: .int .i64 0 :: .slice none 0 0 :: .slice none 0 0 :: .string ⟨#[]⟩ :: .int .i64 2 :: .int .i64 0 :: .string ⟨#[102]⟩ :: .slice none 0 0 :: .slice (some ⟨bA + 1, 0, none⟩) 1 1 :: .int .i64 0 :: .string ⟨#[]⟩ :: .int .i64 0 :: .slice none 0 0 :: .slice none 0 0 :: .string ⟨#[]⟩ :: .int .i64 0 :: .string ⟨#[]⟩ :: .int .i64 0 :: .slice none 0 0 :: .slice none 0 0 :: .int .i64 0 :: .string ⟨#[]⟩ :: .int .i64 0 :: .slice none 0 0 :: .slice none 0 0 :: .string ⟨#[]⟩ :: []
def awRow3 : List Value := [.int .i64 4, .int .i64 0, .string ⟨#[120]⟩, .slice none 0 0, .slice none 0 0, .int .i64 0, .string ⟨#[]⟩, .int .i64 0, .slice none 0 0, .slice none 0 0, .string ⟨#[99, 114, 97, 115, 104]⟩, .int .i64 1, .string ⟨#[97]⟩, .int .i64 0, .slice none 0 0, .slice none 0 0, .int .i64 1, .string ⟨#[97]⟩, .int .i64 0, .slice none 0 0, .slice none 0 0, .string ⟨#[102]⟩]
theorem aw_list {W : World} {bA : Nat} {S : Nat → Prop} {A : Option Addr} (hn : W.heap[bA]? = some (.cells #[.string ⟨#[97]⟩, .string ⟨#[98]⟩, .string ⟨#[99]⟩] 9 (0, 0))) (hf : W.heap[bA + 1]? = some (.cells #[.int .i64 1, .string ⟨#[]⟩, .int .i64 0, .int .i64 0, .slice none 0 0, .slice none 0 0] 68 (0, 0)))
  (hs : ak W S 22 A 3 (awRow bA ++ awRow3)) (h0 : S bA) (h1 : S (bA + 1)) : aL (dx W S) W S 22 A [aw1, aw2, aw3] := by
 refine ⟨[.agg #[.int .i64 1, .int .i64 0, .string ⟨#[115]⟩, .slice (some ⟨bA, 0, none⟩) 3 3, .slice none 0 0, .int .i64 0, .string ⟨#[]⟩, .int .i64 0, .slice none 0 0, .slice none 0 0, .string ⟨#[]⟩, .int .i64 0, .string ⟨#[]⟩, .int .i64 0, .slice none 0 0, .slice none 0 0, .int .i64 0, .string ⟨#[]⟩, .int .i64 0, .slice none 0 0, .slice none 0 0, .string ⟨#[]⟩], .agg #[.int .i64 2, .int .i64 0, .string ⟨#[102]⟩, .slice none 0 0, .slice (some ⟨bA + 1, 0, none⟩) 1 1, .int .i64 0, .string ⟨#[]⟩, .int .i64 0, .slice none 0 0, .slice none 0 0, .string ⟨#[]⟩, .int .i64 0, .string ⟨#[]⟩, .int .i64 0, .slice none 0 0, .slice none 0 0, .int .i64 0, .string ⟨#[]⟩, .int .i64 0, .slice none 0 0, .slice none 0 0, .string ⟨#[]⟩], .agg #[.int .i64 4, .int .i64 0, .string ⟨#[120]⟩, .slice none 0 0, .slice none 0 0, .int .i64 0, .string ⟨#[]⟩, .int .i64 0, .slice none 0 0, .slice none 0 0, .string ⟨#[99, 114, 97, 115, 104]⟩, .int .i64 1, .string ⟨#[97]⟩, .int .i64 0, .slice none 0 0, .slice none 0 0, .int .i64 1, .string ⟨#[97]⟩, .int .i64 0, .slice none 0 0, .slice none 0 0, .string ⟨#[102]⟩]], rfl, hs, fun i d v hd hv => ?_⟩
 have hi : i = 0 ∨ i = 1 ∨ i = 2 := by
  have := (List.getElem?_eq_some_iff.1 hd).1
  simp at this
  omega
 rcases hi with rfl | rfl | rfl
 ·cases hd; cases hv
  exact ⟨some ⟨bA, 0, none⟩, 3, none, 0, _, _, _, rfl, pz S (cs := [.string ⟨#[97]⟩, .string ⟨#[98]⟩, .string ⟨#[99]⟩]) hn rfl h0, Nat.le_refl _, .empty _ _ _ _ _, Nat.le_refl _, dN.named _ _ 0 (bs []), dN.named _ _ 0 (bs []), dN.named _ _ 0 (bs [])⟩
 ·cases hd; cases hv
  refine ⟨none, 0, some ⟨bA + 1, 0, none⟩, 1, _, _, _, rfl, .empty _ _ _ _, Nat.le_refl _, ⟨[.agg #[.int .i64 1, .string ⟨#[]⟩, .int .i64 0, .int .i64 0, .slice none 0 0, .slice none 0 0]], rfl, pz S (cs := [.int .i64 1, .string ⟨#[]⟩, .int .i64 0, .int .i64 0, .slice none 0 0, .slice none 0 0]) hf rfl h1, fun j x u hx hu => ?_⟩, Nat.le_refl _, dN.named _ _ 0 (bs []), dN.named _ _ 0 (bs []), dN.named _ _ 0 (bs [])⟩
  have hj : j = 0 := by
   have := (List.getElem?_eq_some_iff.1 hx).1
   simp [aw2] at this
   omega
  subst hj
  cases hx; cases hu
  exact ⟨none, 0, none, 0, rfl, .empty _ _ _ _, Nat.le_refl _, .empty _ _ _ _, Nat.le_refl _⟩
 ·cases hd; cases hv
  exact ⟨none, 0, none, 0, _, _, _, rfl, .empty _ _ _ _, Nat.le_refl _, .empty _ _ _ _ _, Nat.le_refl _, dN.named _ _ 0 (bs []), dN.named _ _ 1 (bs [97]), dN.named _ _ 1 (bs [97])⟩
theorem tm_row {W : World} {S : Nat → Prop} {b : Nat} {T : TypeId} {k1 k2 : Tm} {v1 v2 : Value} {cs : List Value} (hb : W.heap[b]? = some (.cells cs.toArray T (0, 0))) (hc : cs = cellsOf v1 ++ cellsOf v2) (h1 : dN W S k1 v1) (h2 : dN W S k2 v2) (hl1 : (cellsOf v1).length = 5) (hl2 : (cellsOf v2).length = 5) (hS : S b) (op : Int) (name : ByteArray) (need : Int) :
  dN W S (.mk op name need [] [k1, k2]) (.agg #[.int .i64 op, .string name, .int .i64 need, .slice none 0 0, .slice (some ⟨b, 0, none⟩) 2 2]) := by
 refine .mk op name need [] [k1, k2] none (some ⟨b, 0, none⟩) 0 2 [v1, v2] (.empty _ _ _ _) (Nat.le_refl _) ?_ (Nat.le_refl _) rfl (fun i t v ht hv => ?_)
 ·have e : ([v1, v2] : List Value).flatMap cellsOf = cs := by rw [hc]; simp
  rw [e]
  exact pz S hb (by rw [hc, List.length_append, hl1, hl2]; rfl) hS
 ·have hi : i = 0 ∨ i = 1 := by
   have := (List.getElem?_eq_some_iff.1 ht).1
   simp at this
   omega
  rcases hi with rfl | rfl
  ·cases ht; cases hv; exact h1
  ·cases ht; cases hv; exact h2
theorem aw_term {W : World} {bT : Nat} (hrT : W.heap[bT]? = some (.cells #[.int .i64 1, .string ⟨#[98]⟩, .int .i64 0, .slice none 0 0, .slice none 0 0, .int .i64 1, .string ⟨#[99]⟩, .int .i64 0, .slice none 0 0, .slice none 0 0] 26 (0, 0))) (hrU : W.heap[bT + 1]? = some (.cells #[.int .i64 1, .string ⟨#[97]⟩, .int .i64 0, .slice none 0 0, .slice none 0 0, .int .i64 4, .string ⟨#[]⟩, .int .i64 0, .slice none 0 0, .slice (some ⟨bT, 0, none⟩) 2 2] 26 (0, 0))) :
  dN W (· < W.heap.size) awT (.agg #[.int .i64 2, .string ⟨#[]⟩, .int .i64 2, .slice none 0 0, .slice (some ⟨bT + 1, 0, none⟩) 2 2]) := by
 have h4 := tm_row (cs := [.int .i64 1, .string ⟨#[98]⟩, .int .i64 0, .slice none 0 0, .slice none 0 0, .int .i64 1, .string ⟨#[99]⟩, .int .i64 0, .slice none 0 0, .slice none 0 0]) hrT rfl (dN.named W (· < W.heap.size) 1 ⟨#[98]⟩) (dN.named W (· < W.heap.size) 1 ⟨#[99]⟩) rfl rfl (lt_of_block hrT) 4 ⟨#[]⟩ 0
 exact tm_row (cs := [.int .i64 1, .string ⟨#[97]⟩, .int .i64 0, .slice none 0 0, .slice none 0 0, .int .i64 4, .string ⟨#[]⟩, .int .i64 0, .slice none 0 0, .slice (some ⟨bT, 0, none⟩) 2 2]) hrU rfl (dN.named W (· < W.heap.size) 1 ⟨#[97]⟩) h4 rfl rfl (lt_of_block hrU) 2 ⟨#[]⟩ 2
theorem DX (w : World) (hpw : Pow w) (hz : Tz w) : Calls prog 6 #[] w fun e w' => e = .returned (.bool true) ∧ Below w.heap.size w w' := by
 have hbA : ∀ (W : World) (o : Obj), Below W.heap.size W (W.alloc o) := fun W o => (Below.refl _ _).alloc (Nat.le_refl _) o
 have HL := Lib.hid (AB w hpw hz)
 have HP := Lib.hid hpw
 have HZ := Lib.hid hz
 have HNM := Lib.hid name1_any
 clear hpw hz
 go_enter func6, ntmps6
 go_wp2_with fail
 refine HL.out.mono ?_
 rintro e w1 ⟨svA, svc, sA, sn, sc, cg, cc, hA, hn, hc, nm, kd, mem, rA, rc, wA, wc, fA, fc, rfl, hcl, hsr, hsw, hcg, hb1⟩
 have hs1 := hb1.size
 obtain ⟨W1, hW1⟩ : ∃ W1 : World, W1 = w1.alloc (.cells #[.slice svA 3 svc, .slice sA sn sc, .int .u16 0, .slice (some ⟨cg, 0, none⟩) 1 cc, .slice hA hn hc, .slice none 0 0] 48) := ⟨_, rfl⟩
 have hbW1 : Below w1.heap.size w1 W1 := by rw [hW1]; exact hbA _ _
 have hr1 : W1.heap[w1.heap.size]? = some (.cells #[.slice svA 3 svc, .slice sA sn sc, .int .u16 0, .slice (some ⟨cg, 0, none⟩) 1 cc, .slice hA hn hc, .slice none 0 0] 48 (0, 0)) := by rw [hW1]; exact heap_alloc_new _ _
 obtain ⟨b1, hb1e⟩ : ∃ b1, b1 = w1.heap.size := ⟨_, rfl⟩
 have gW := hb1.trans (hbW1.mono hs1)
 have H1 := Lib.hid hW1
 have HCL := Lib.hid hcl
 have HSR := Lib.hid hsr
 have HSW := Lib.hid hsw
 clear hW1 hcl hsr hsw
 go_upto_region 2 with fail
 rw [← H1.out]
 rw [← hb1e] at hr1 ⊢
 have HR1 := Lib.hid hr1
 have hlt1 := lt_of_block hr1
 clear hr1 H1
 go_upto_region 4 with fail
 obtain ⟨bA, hbAe⟩ : ∃ bA, bA = W1.heap.size := ⟨_, rfl⟩
 obtain ⟨Wx, hWx⟩ : ∃ Wx : World, Wx = (W1.alloc (.cells #[.string ⟨#[97]⟩, .string ⟨#[98]⟩, .string ⟨#[99]⟩] 9)).alloc (.cells #[.int .i64 1, .string ⟨#[]⟩, .int .i64 0, .int .i64 0, .slice none 0 0, .slice none 0 0] 68) := ⟨_, rfl⟩
 have hsx : Wx.heap.size = W1.heap.size + 1 + 1 := by rw [hWx]; simp
 obtain ⟨W2, hW2⟩ : ∃ W2 : World, W2 = Wx.alloc (.cells ((.int .i64 1 :: .int .i64 0 :: .string ⟨#[115]⟩ :: .slice (some ⟨bA, 0, none⟩) 3 3 :: .slice none 0 0 :: .int .i64 0 :: .string ⟨#[]⟩ :: .int .i64 0 :: .slice none 0 0 :: .slice none 0 0 :: .string ⟨#[]⟩ :: .int .i64 0 :: .string ⟨#[]⟩ :: .int .i64 0 :: .slice none 0 0 :: .slice none 0 0 :: .int .i64 0 :: .string ⟨#[]⟩ :: .int .i64 0 :: .slice none 0 0 :: .slice none 0 0 :: .string ⟨#[]⟩ :: .int .i64 2 :: .int .i64 0 :: .string ⟨#[102]⟩ :: .slice none 0 0 :: .slice (some ⟨bA + 1, 0, none⟩) 1 1 :: .int .i64 0 :: .string ⟨#[]⟩ :: .int .i64 0 :: .slice none 0 0 :: .slice none 0 0 :: .string ⟨#[]⟩ :: .int .i64 0 :: .string ⟨#[]⟩ :: .int .i64 0 :: .slice none 0 0 :: .slice none 0 0 :: .int .i64 0 :: .string ⟨#[]⟩ :: .int .i64 0 :: .slice none 0 0 :: .slice none 0 0 :: .string ⟨#[]⟩ :: []).toArray) 35) := ⟨_, rfl⟩
 have hbx : Below W1.heap.size W1 Wx := by rw [hWx]; exact (hbA _ _).alloc (by simp) _
 have hb2x : Below Wx.heap.size Wx W2 := by rw [hW2]; exact hbA _ _
 have hb12 : Below W1.heap.size W1 W2 := hbx.trans (hb2x.mono hbx.size)
 have hrN : W2.heap[bA]? = some (.cells #[.string ⟨#[97]⟩, .string ⟨#[98]⟩, .string ⟨#[99]⟩] 9 (0, 0)) := (hb2x.block bA (by omega)).trans (by rw [hWx, hbAe]; exact heap_alloc2_old _ _ _)
 have hrF : W2.heap[bA + 1]? = some (.cells #[.int .i64 1, .string ⟨#[]⟩, .int .i64 0, .int .i64 0, .slice none 0 0, .slice none 0 0] 68 (0, 0)) := (hb2x.block (bA + 1) (by omega)).trans (by rw [hWx, hbAe]; exact heap_alloc2_new _ _ _)
 have hown : W2.ownsRow W1.heap.size 35 22 (.slice (some ⟨W1.heap.size + 1 + 1, 0, none⟩) 2 2) 2 (awRow bA) := by
  rw [hW2, ← hsx]
  exact World.ownsRow_lit (base := W1.heap.size) (e := 35) (size := 22) Wx (awRow bA).toArray 2 (by omega) (by decide) rfl
 have H2 := Lib.hid (show ((W1.alloc (.cells #[.string ⟨#[97]⟩, .string ⟨#[98]⟩, .string ⟨#[99]⟩] 9)).alloc (.cells #[.int .i64 1, .string ⟨#[]⟩, .int .i64 0, .int .i64 0, .slice none 0 0, .slice none 0 0] 68)).alloc (.cells ((.int .i64 1 :: .int .i64 0 :: .string ⟨#[115]⟩ :: .slice (some ⟨bA, 0, none⟩) 3 3 :: .slice none 0 0 :: .int .i64 0 :: .string ⟨#[]⟩ :: .int .i64 0 :: .slice none 0 0 :: .slice none 0 0 :: .string ⟨#[]⟩ :: .int .i64 0 :: .string ⟨#[]⟩ :: .int .i64 0 :: .slice none 0 0 :: .slice none 0 0 :: .int .i64 0 :: .string ⟨#[]⟩ :: .int .i64 0 :: .slice none 0 0 :: .slice none 0 0 :: .string ⟨#[]⟩ :: .int .i64 2 :: .int .i64 0 :: .string ⟨#[102]⟩ :: .slice none 0 0 :: .slice (some ⟨bA + 1, 0, none⟩) 1 1 :: .int .i64 0 :: .string ⟨#[]⟩ :: .int .i64 0 :: .slice none 0 0 :: .slice none 0 0 :: .string ⟨#[]⟩ :: .int .i64 0 :: .string ⟨#[]⟩ :: .int .i64 0 :: .slice none 0 0 :: .slice none 0 0 :: .int .i64 0 :: .string ⟨#[]⟩ :: .int .i64 0 :: .slice none 0 0 :: .slice none 0 0 :: .string ⟨#[]⟩ :: []).toArray) 35) = W2 by rw [hW2, hWx])
 rw [← hbAe]
 rw [H2.out]
 have HRN := Lib.hid hrN
 have HRF := Lib.hid hrF
 rw [← hbAe] at hown
 clear hrN hrF hWx hW2 H2
 have hlA := lt_of_block HRF.out
 have hb1A : b1 < bA := by omega
 have hwb1 : w.heap.size ≤ b1 := by omega
 have hA12 : bA ≤ W2.heap.size := by omega
 have hw2 : W1.heap.size ≤ W2.heap.size := hb12.size
 have hBA : W1.heap.size ≤ bA := by omega
 have hBA2 : bA ≤ W1.heap.size := by omega
 have hB1 : w1.heap.size ≤ b1 := by omega
 have hB2 : b1 ≤ w1.heap.size := by omega
 clear hbAe hb1e hsx
 go_wp2_with fail
 refine (HNM.out _ _).mono ?_
 rintro e W3 ⟨rfl, hb3⟩
 go_wp2_with fail
 refine (HNM.out _ _).mono ?_
 rintro e W4 ⟨rfl, hb4⟩
 have hb24 : Below W2.heap.size W2 W4 := hb3.trans (hb4.mono hb3.size)
 have jJ := own_below hown hb24 (Nat.le_refl _)
 have hsz24 := hb24.size
 have HOWN4 := Lib.hid jJ
 clear hown jJ hb3 hb4
 have hszA : bA ≤ W4.heap.size := by omega
 have hrN4 := (hb24.block bA (by omega)).trans HRN.out
 have hrF4 := (hb24.block (bA + 1) hlA).trans HRF.out
 have hr14 := (hb24.block b1 (by omega)).trans ((hb12.block b1 hlt1).trans HR1.out)
 have HRN4 := Lib.hid hrN4
 have HRF4 := Lib.hid hrF4
 have HR14 := Lib.hid hr14
 clear hrN4 hrF4 hr14 HRN HRF
 go_wp2_with (at_builtin; refine Ai W4 rfl (.tmp 20) (.tmp 26) rfl bA _ 2 (awRow bA) HOWN4.out rfl 4 0 ⟨#[120]⟩ none 0 0 none 0 0 ⟨#[99, 114, 97, 115, 104]⟩ ⟨#[102]⟩ 0 ⟨#[]⟩ 0 none 0 0 none 0 0 1 ⟨#[97]⟩ 0 none 0 0 none 0 0 1 ⟨#[97]⟩ 0 none 0 0 none 0 0 rfl (by decide) hszA ?_; intro v7 W7 gB hg7 hv7; obtain ⟨A7, c7, hv8, hc7⟩ := aJ gB; subst hv8)
 have h17 : Below W1.heap.size W1 W7 := (hb12.trans (hb24.mono hw2)).trans ((aM HOWN4.out hg7 hszA).mono hBA)
 have hrN7 := (hg7.block bA (by have := lt_of_block HRN4.out; omega) (by simp only [Value.ownBlock]; intro e; injection e; omega)).trans HRN4.out
 have hrF7 := (hg7.block (bA + 1) (lt_of_block HRF4.out) (by simp only [Value.ownBlock]; intro e; injection e; omega)).trans HRF4.out
 have hls7 : ak W7 (bA ≤ ·) 22 A7 3 (awRow bA ++ awRow3) := ak.own gB
 have HRN7 := Lib.hid hrN7
 have HRF7 := Lib.hid hrF7
 have HLS7 := Lib.hid hls7
 have h7s := h17.size
 have h7A := lt_of_block hrF7
 clear gB hg7 hv7 hrN7 hrF7 hls7 HOWN4 HRN4 HRF4
 go_wp2_with fail
 refine (HNM.out _ _).mono ?_
 rintro e W8 ⟨rfl, hb8⟩
 go_wp2_with fail
 refine (HNM.out _ _).mono ?_
 rintro e W9 ⟨rfl, hb9⟩
 go_wp2_with fail
 refine (HNM.out _ _).mono ?_
 rintro e W10 ⟨rfl, hb10⟩
 have hb7a : Below W7.heap.size W7 W10 := hb8.trans ((hb9.trans (hb10.mono hb9.size)).mono hb8.size)
 have h10s := hb7a.size
 clear hb8 hb9 hb10
 go_wp2_with fail
 obtain ⟨bT, hbT⟩ : ∃ bT, bT = W10.heap.size := ⟨_, rfl⟩
 obtain ⟨Wz, hWz⟩ : ∃ Wz : World, Wz = (W10.alloc (.cells #[.int .i64 1, .string ⟨#[98]⟩, .int .i64 0, .slice none 0 0, .slice none 0 0, .int .i64 1, .string ⟨#[99]⟩, .int .i64 0, .slice none 0 0, .slice none 0 0] 26)).alloc (.cells #[.int .i64 1, .string ⟨#[97]⟩, .int .i64 0, .slice none 0 0, .slice none 0 0, .int .i64 4, .string ⟨#[]⟩, .int .i64 0, .slice none 0 0, .slice (some ⟨bT, 0, none⟩) 2 2] 26) := ⟨_, rfl⟩
 have hbz : Below W10.heap.size W10 Wz := by rw [hWz]; exact (hbA _ _).alloc (by simp) _
 have hrT : Wz.heap[bT]? = some (.cells #[.int .i64 1, .string ⟨#[98]⟩, .int .i64 0, .slice none 0 0, .slice none 0 0, .int .i64 1, .string ⟨#[99]⟩, .int .i64 0, .slice none 0 0, .slice none 0 0] 26 (0, 0)) := by rw [hWz, hbT]; exact heap_alloc2_old _ _ _
 have hrU : Wz.heap[bT + 1]? = some (.cells #[.int .i64 1, .string ⟨#[97]⟩, .int .i64 0, .slice none 0 0, .slice none 0 0, .int .i64 4, .string ⟨#[]⟩, .int .i64 0, .slice none 0 0, .slice (some ⟨bT, 0, none⟩) 2 2] 26 (0, 0)) := by rw [hWz, hbT]; exact heap_alloc2_new _ _ _
 rw [← hbT, ← hWz]
 have hb7z : Below W7.heap.size W7 Wz := hb7a.trans (hbz.mono h10s)
 have hzs := hb7z.size
 have HEX := Lib.hid (vB [aw1, aw2, aw3] A7 c7 awT (.agg #[.int .i64 2, .string ⟨#[]⟩, .int .i64 2, .slice none 0 0, .slice (some ⟨bT + 1, 0, none⟩) 2 2]) Wz (· < Wz.heap.size)
  (aw_list (bA := bA) ((hb7z.block _ (by omega)).trans HRN7.out) ((hb7z.block _ h7A).trans HRF7.out) ((HLS7.out.keep (aH hb7z)).mono (fun g _ hl => hl) (by decide)) (by have := lt_of_block HRF7.out; omega) (by omega))
  (aw_term hrT hrU) (fun g hg => hg) aw_size.1 aw_size.2 (HP.out.below ((gW.trans (h17.mono gW.size)).trans (hb7z.mono (by have := gW.size; omega)))))
 rw [BU.1] at HEX
 obtain ⟨x5, hx5⟩ : ∃ x5, x5 = (kM [aw1, aw2, aw3] awT).1 := ⟨_, rfl⟩
 have hx5l : x5.nodes.length = 5 := by rw [hx5]; exact BU.2
 rw [← hx5] at HEX
 have HX5 := Lib.hid hx5l
 have hlc := World.block_lt_of_cell? w1 _ HCL.out.1
 have hb1z : Below w1.heap.size w1 Wz := hbW1.trans ((h17.trans (hb7z.mono h7s)).mono hbW1.size)
 clear hx5 hWz hbT hrT hrU hbz hx5l
 refine HEX.out.mono ?_
 rintro e W11 ⟨v11, rfl, hx11, hb11⟩
 obtain ⟨A11, c11, rfl, -, -⟩ := hx11
 rw [HX5.out]
 obtain ⟨rt, hrt⟩ : ∃ rt, rt = x5.root := ⟨_, rfl⟩
 rw [← hrt]
 clear hrt
 have hb111 : Below w1.heap.size w1 W11 := hb1z.trans (hb11.mono hb1z.size)
 have hrb1 : W11.heap[b1]? = some (.cells #[.slice svA 3 svc, .slice sA sn sc, .int .u16 0, .slice (some ⟨cg, 0, none⟩) 1 cc, .slice hA hn hc, .slice none 0 0] 48 (0, 0)) := (hb11.block _ (by omega)).trans ((hb7z.block _ (by omega)).trans ((h17.block b1 hlt1).trans HR1.out))
 obtain ⟨Wc, hWc⟩ : ∃ Wc : World, Wc = W11.alloc (.cells #[.slice A11 5 c11, .int .i64 rt] 38) := ⟨_, rfl⟩
 have hbc : Below W11.heap.size W11 Wc := by rw [hWc]; exact hbA _ _
 have hrc2 : Wc.heap[W11.heap.size]? = some (.cells #[.slice A11 5 c11, .int .i64 rt] 38 (0, 0)) := by rw [hWc]; exact heap_alloc_new _ _
 have Gj : Below w1.heap.size w1 Wc := hb111.trans (hbc.mono hb111.size)
 have hrb1c := (hbc.block _ (lt_of_block hrb1)).trans hrb1
 obtain ⟨z0, z1, z2, z3, z4, z5⟩ := eD hrb1c
 obtain ⟨y0, y1⟩ := ay hrc2
 obtain ⟨q0, q1, q2, q3, q4, q5⟩ := HCL.out
 have k0 := (Gj.cell (p := ⟨cg, 0, none⟩) hlc).trans q0
 have k1 := (Gj.cell (p := ⟨cg, 1, none⟩) hlc).trans q1
 have k2 := (Gj.cell (p := ⟨cg, 2, none⟩) hlc).trans q2
 have k3 := (Gj.cell (p := ⟨cg, 3, none⟩) hlc).trans q3
 have k4 := (Gj.cell (p := ⟨cg, 4, none⟩) hlc).trans q4
 have k5 := (Gj.cell (p := ⟨cg, 5, none⟩) hlc).trans q5
 have HC1 := Lib.hid Gj
 have HWC := Lib.hid hWc
 have hlcc : cg < Wc.heap.size := Nat.lt_of_lt_of_le hlc Gj.size
 have hlb1 := lt_of_block hrb1c
 have HS1 := Lib.hid (fun (W : World) (hW : Below Wc.heap.size Wc W) (g : Nat) (hg : W.heap[g]? = some (.cells #[.int .u16 3, .int .u16 5, .int .u16 6] 28 (0, 0))) => wW [3, 5, 6] [3, 5, 6] rA (some ⟨g, 0, none⟩) rc 3 W (w.heap.size < ·) (· = g) (HSR.out.keep (aH (Gj.trans (hW.mono Gj.size)))) (pz (· = g) (cs := [.int .u16 3, .int .u16 5, .int .u16 6]) hg rfl rfl) rfl (by decide))
 have HS2 := Lib.hid (fun (W : World) (hW : Below Wc.heap.size Wc W) (g : Nat) (hg : W.heap[g]? = some (.cells #[.int .u16 7] 28 (0, 0))) => wW [7] [7] wA (some ⟨g, 0, none⟩) wc 1 W (w.heap.size < ·) (· = g) (HSW.out.keep (aH (Gj.trans (hW.mono Gj.size)))) (pz (· = g) (cs := [.int .u16 7]) hg rfl rfl) rfl (by decide))
 clear hWc hbc hrc2 hrb1 hrb1c q0 q1 q2 q3 q4 q5 HR1 HRN7 HRF7 HLS7 HEX Gj
 go_upto_region 6 with fail
 rw [← HWC.out]
 go_upto_region 9 with fail
 obtain ⟨Wd, hWd⟩ : ∃ Wd : World, Wd = Wc.alloc (.cells #[.string nm, .int .i64 kd, .int .u16 mem, .slice rA 3 rc, .slice wA 1 wc, .slice fA 3 fc] 54) := ⟨_, rfl⟩
 have hbd : Below Wc.heap.size Wc Wd := by rw [hWd]; exact hbA _ _
 have hrd : Wd.heap[Wc.heap.size]? = some (.cells #[.string nm, .int .i64 kd, .int .u16 mem, .slice rA 3 rc, .slice wA 1 wc, .slice fA 3 fc] 54 (0, 0)) := by rw [hWd]; exact heap_alloc_new _ _
 rw [← hWd]
 clear hWd
 obtain ⟨x0, x1, x2, x3, x4, x5⟩ := eD hrd
 have z0' := (hbd.cell (p := ⟨b1, 0, none⟩) hlb1).trans z0
 have hds := hbd.size
 have h1s := HC1.out.size
 have hb1d := HC1.out.trans (hbd.mono h1s)
 have hltd := lt_of_block hrd
 obtain ⟨bc, hbce⟩ : ∃ bc, bc = Wc.heap.size := ⟨_, rfl⟩
 rw [← hbce] at x0 x1 x2 x3 x4 x5 hltd ⊢
 clear hbce k0 k1 k2 k3 k4 k5 z0 z1 z2 z3 z4 z5 y0 y1
 go_wp2_with fail
 obtain ⟨We, hWe⟩ : ∃ We : World, We = Wd.alloc (.cells #[.int .u16 3, .int .u16 5, .int .u16 6] 28) := ⟨_, rfl⟩
 have hbe : Below Wd.heap.size Wd We := by rw [hWe]; exact hbA _ _
 have hre : We.heap[Wd.heap.size]? = some (.cells #[.int .u16 3, .int .u16 5, .int .u16 6] 28 (0, 0)) := by rw [hWe]; exact heap_alloc_new _ _
 rw [← hWe]
 clear hWe
 refine (HS1.out We (hbd.trans (hbe.mono hds)) _ hre).mono ?_
 rintro e Wf ⟨rfl, hbf⟩
 have hes := hbe.size
 have hbdf : Below Wd.heap.size Wd Wf := hbe.trans (hbf.mono hes)
 have x4' := (hbdf.cell (p := ⟨bc, 4, none⟩) hltd).trans x4
 have x5' := (hbdf.cell (p := ⟨bc, 5, none⟩) hltd).trans x5
 clear x0 x1 x2 x3 x4 x5
 go_wp2_with fail
 obtain ⟨Wg, hWg⟩ : ∃ Wg : World, Wg = Wf.alloc (.cells #[.int .u16 7] 28) := ⟨_, rfl⟩
 have hbg : Below Wf.heap.size Wf Wg := by rw [hWg]; exact hbA _ _
 have hrg : Wg.heap[Wf.heap.size]? = some (.cells #[.int .u16 7] 28 (0, 0)) := by rw [hWg]; exact heap_alloc_new _ _
 rw [← hWg]
 clear hWg
 have hfs := hbdf.size
 refine (HS2.out Wg (hbd.trans ((hbdf.trans (hbg.mono hfs)).mono hds)) _ hrg).mono ?_
 rintro e Wh ⟨rfl, hbh⟩
 have hgs := hbg.size
 have hbdh : Below Wd.heap.size Wd Wh := (hbdf.trans (hbg.mono hfs)).trans (hbh.mono (by omega))
 have x5h := ((hbg.trans (hbh.mono hgs)).cell (p := ⟨bc, 5, none⟩) (show bc < Wf.heap.size by omega)).trans x5'
 clear x4' x5'
 go_wp2
 go_ret
 exact ⟨rfl, hb1.trans ((hb1d.trans (hbdh.mono (by omega))).mono hs1)⟩
end Go.Proofs.YtmohibkomlhlaaaGreatDoor
