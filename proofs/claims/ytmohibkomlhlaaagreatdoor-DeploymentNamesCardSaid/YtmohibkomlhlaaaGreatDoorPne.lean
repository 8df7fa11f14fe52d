/- The walk of the law DeploymentNames: for all deployments and names it returns true. Conditions: the tables of powers and of math/bits lie in the world. The table of math/bits lies in the world, by what the listed package-level variables hold. The law's arguments opened: a deployment is read as a plain one. No condition. -/
import Derived.Test.YtmohibkomlhlaaaGreatDoorPnd
import Derived.Test.YtmohibkomlhlaaaGreatDoorPkOpen
import Derived.Test.YtmohibkomlhlaaaGreatDoorPdb
import Derived.Test.YtmohibkomlhlaaaGreatDoorPnb
set_option maxRecDepth 100000
set_option maxHeartbeats 16000000
namespace Go.Proofs.YtmohibkomlhlaaaGreatDoor
open Go.RowKit
open _root_.Go.Proofs.Tryz
theorem list_cfg {W : World} {S : Nat → Prop} {x : DCfg} {row : Array Value} {B : Nat} (hr : W.heap[B]? = some (.cells row 54 (0, 0))) (hx : DCfgAt W S x (.agg row)) (hS : S B) : aL (DCfgAt W S) W S 6 (some ⟨B, 0, none⟩) [x] := by
 have hl := cfg_len hx
 have e : cellsOf (.agg row) = row.toList := by
  obtain ⟨rA, rc, wA, wc, fA, fc, e, -⟩ := hx
  cases e; rfl
 refine ⟨[.agg row], rfl, ⟨by rw [List.flatMap_singleton, hl]; rfl, fun _ => ⟨B, 0, rfl, hS, fun j u hu => ?_⟩⟩, fun i y v h1 h2 => ?_⟩
 ·rw [List.flatMap_singleton, e] at hu
  rw [cell_of_row _ _ (0 + j) _ _ _ hr, Nat.zero_add]
  simpa using hu
 ·cases i with
  |zero => cases h1; cases h2; exact hx
  |succ i => simp at h1
theorem allB_one (x : DCfg) : allB cfgB [x] [x] = true := by simp [allB, cfgB]
theorem names_law (a b : DDep) (v u : Value) (n : ByteArray) (w : World) (S : Nat → Prop) (hx : DDepAt w S a v) (hy : DDepAt w S b u) (hS : ∀ g, S g → g < w.heap.size) (hna : DCnt a) (hnb : DCnt b) (hma : ∀ x ∈ a.clients, x.faults.length ≤ 9223372036854775807) (hpw : Pow w) (hz : Tz w) :
  Calls prog 5 #[v, u, .string n] w fun e w' => e = .returned (.bool true) ∧ Below w.heap.size w w' := by
 have HAW := Lib.hid (fun (W : World) (hW : Below w.heap.size w W) => DX W (hpw.below hW) (hz.below hW (Nat.le_refl _)))
 have HDA := Lib.hid (fun (X : World) (hX : Below w.heap.size w X) => And.intro (hx.keep (ai hX hS)) (hy.keep (ai hX hS)))
 have HSX := Lib.hid (fun (X : World) (hX : Below w.heap.size w X) => show ∀ g, S g → g < X.heap.size from fun g hg => Nat.lt_of_lt_of_le (hS g hg) hX.size)
 obtain ⟨sa, sca, ta, tca, ca, cca, ha, hca, ka, kca, rfl, a1, a2, a3, a4, a5⟩ := hx
 obtain ⟨sb, scb, tb, tcb, cb, ccb, hb, hcb, kb, kcb, rfl, b1, b2, b3, b4, b5⟩ := hy
 clear a1 a2 a3 a4 a5 b1 b2 b3 b4 b5
 obtain ⟨W1, W2, hW1, hW2, hz1, hz2, hbw, hbx⟩ := two_box w #[.slice sa a.servers.length sca, .slice ta a.sites.length tca, .int .u16 (a.wit : Nat), .slice ca a.configs.length cca, .slice ha a.chain.length hca, .slice ka a.clients.length kca] #[.slice sb b.servers.length scb, .slice tb b.sites.length tcb, .int .u16 (b.wit : Nat), .slice cb b.configs.length ccb, .slice hb b.chain.length hcb, .slice kb b.clients.length kcb] 48 48
 have HBX := Lib.hid (fun (X : World) (hX : Below W2.heap.size W2 X) => And.intro (eD (hbx X hX).1) (eD (hbx X hX).2))
 have H1 := Lib.hid hW1
 have H2 := Lib.hid hW2
 clear hbx hW1 hW2 hz1
 go_enter func5, ntmps5
 go_upto_region 1 with fail
 rw [← H1.out, ← H2.out]
 go_wp2_with fail
 refine (HAW.out W2 hbw).mono ?_
 rintro e W3 ⟨rfl, b3⟩
 obtain ⟨⟨c0, c1, c2, c3, c4, c5⟩, d0, d1, d2, d3, d4, d5⟩ := HBX.out W3 b3
 have jw := hbw.trans (b3.mono hbw.size)
 go_wp2_with fail
 refine (few_any a _ W3 S (HDA.out W3 jw).1 (HSX.out W3 jw) hna).mono ?_
 rintro e W4 ⟨q1, rfl, hf1, hb4⟩
 have b4 := b3.trans (hb4.mono b3.size)
 obtain ⟨⟨c0, c1, c2, c3, c4, c5⟩, d0, d1, d2, d3, d4, d5⟩ := HBX.out W4 b4
 have hbw4 := hbw.trans (b4.mono hbw.size)
 have HF1 := Lib.hid hf1
 clear hf1
 cases q1
 ·skip
  go_wp2_with fail
  refine (HAW.out W4 (hbw.trans (b4.mono hbw.size))).mono ?_
  rintro e Wz ⟨rfl, hbz⟩
  go_wp2
  go_ret
  exact ⟨rfl, hbw.trans ((b4.trans (hbz.mono b4.size)).mono hbw.size)⟩
 go_wp2_with fail
 refine (few_any b _ W4 S (HDA.out W4 hbw4).2 (HSX.out W4 hbw4) hnb).mono ?_
 rintro e W5 ⟨q2, rfl, hf2, hb5⟩
 have b5 := b4.trans (hb5.mono b4.size)
 obtain ⟨⟨c0, c1, c2, c3, c4, c5⟩, d0, d1, d2, d3, d4, d5⟩ := HBX.out W5 b5
 have zI := hbw.trans (b5.mono hbw.size)
 clear hf2
 cases q2
 ·skip
  go_wp2_with fail
  refine (HAW.out W5 (hbw.trans (b5.mono hbw.size))).mono ?_
  rintro e Wz ⟨rfl, hbz⟩
  go_wp2
  go_ret
  exact ⟨rfl, hbw.trans ((b5.trans (hbz.mono b5.size)).mono hbw.size)⟩
 by_cases hn : n.size ≤ 100
 case neg =>
  obtain ⟨i1, j1, m1⟩ := gt_forms 100 hn rfl
  go_wp2_with fail
  refine (HAW.out W5 (hbw.trans (b5.mono hbw.size))).mono ?_
  rintro e Wz ⟨rfl, hbz⟩
  go_wp2
  go_ret
  exact ⟨rfl, hbw.trans ((b5.trans (hbz.mono b5.size)).mono hbw.size)⟩
 obtain ⟨i1, j1, m1⟩ := le_forms 100 hn rfl
 have hla : DLim a := by first | exact HF1.out rfl | exact HF1.out trivial
 obtain ⟨q, hq⟩ : ∃ q, q = cfgOf a n := ⟨_, rfl⟩
 obtain ⟨er, her⟩ : ∃ er, er = cfgErr a n := ⟨_, rfl⟩
 have HCP := Lib.hid (fun (X : World) (hX : Below w.heap.size w X) => config_prog a _ n X S (HDA.out X hX).1 (HSX.out X hX) hla)
 have HCR := Lib.hid (fun (X : World) (hX : Below w.heap.size w X) => config_ref25 a _ n X S (HDA.out X hX).1 (HSX.out X hX) hla)
 rw [← hq, ← her] at HCP HCR
 have hsm : SmallC q := by
  rw [hq]; unfold cfgOf
  cases hf : a.configs.find? fun c => c.name == n with
  |none => exact ⟨by decide, by decide, by decide⟩
  |some y => exact hla.2.2.2.2.2 y (List.mem_of_find?_eq_some hf)
 obtain ⟨sv, hsv⟩ : ∃ s, s = srvV a n := ⟨_, rfl⟩
 obtain ⟨se, hse⟩ : ∃ s, s = srvE a n := ⟨_, rfl⟩
 have HSP := Lib.hid (fun (X : World) (hX : Below w.heap.size w X) => server_prog a _ n X S (HDA.out X hX).1 (HSX.out X hX) hla)
 have HSR := Lib.hid (fun (X : World) (hX : Below w.heap.size w X) => server_ref a _ n X S (HDA.out X hX).1 (HSX.out X hX) hla)
 rw [← hsv, ← hse] at HSP HSR
 have HE1 := Lib.hid (fun (X : World) (hX : Below w.heap.size w X) => equal_prog a b _ _ X S S (HDA.out X hX).1 (HDA.out X hX).2 (HSX.out X hX) (HSX.out X hX) hla hma)
 have HE2 := Lib.hid (fun (X : World) (hX : Below w.heap.size w X) => equal_ref a b _ _ X S S (HDA.out X hX).1 (HDA.out X hX).2 (HSX.out X hX) (HSX.out X hX) hla hma hnb)
 have HE3 := Lib.hid (fun (X : World) (hX : Below w.heap.size w X) => equal_prog a a _ _ X S S (HDA.out X hX).1 (HDA.out X hX).1 (HSX.out X hX) (HSX.out X hX) hla hma)
 rw [depB_refl] at HE3
 obtain ⟨eb, heb⟩ : ∃ eb, eb = depB a b := ⟨_, rfl⟩
 rw [← heb] at HE1 HE2
 have HSM := Lib.hid hsm
 clear hq her hsv hse heb hla hsm HF1 hna hnb hma
 go_wp2_with fail
 refine (HCP.out W5 zI).mono ?_
 rintro e W6 ⟨v6, rfl, hc6, hb6⟩
 have b6 := b5.trans (hb6.mono b5.size)
 have Ib := hbw.trans (b6.mono hbw.size)
 have hc6 := hc6.mono (S' := (· < W6.heap.size)) (fun g _ h => h)
 have HC6 := Lib.hid hc6
 obtain ⟨rP, rcP, wP, wcP, fP, fcP, rfl, -⟩ := hc6
 go_upto_region 4 with (first | ((with_reducible refine list_row 54 6 Cw _ rfl rfl (.tmp 7) (.tmp 37) rfl W6.heap.size _ rfl rfl _ (heap_alloc_new W6 _) rfl rfl (by simp [Value.oneCell']) ?_); intro W7 hr7 hg7))
 have hb7 : Below W6.heap.size W6 W7 := ((Below.refl _ _).alloc (Nat.le_refl _) _).trans (below_grown hg7 (Nat.le_refl _) (by simp))
 have b7 := b6.trans (hb7.mono b6.size)
 have hbw7 := hbw.trans (b7.mono hbw.size)
 have HC7 := Lib.hid (HC6.out.keep (ai hb7 (fun g h => h)))
 have HR7 := Lib.hid hr7
 have hp6 : W6.heap.size < W7.heap.size := lt_of_block hr7
 obtain ⟨⟨c0, c1, c2, c3, c4, c5⟩, d0, d1, d2, d3, d4, d5⟩ := HBX.out W7 b7
 obtain ⟨B6, hB6⟩ : ∃ B, B = W6.heap.size := ⟨_, rfl⟩
 rw [← hB6] at HC7 HR7 hp6 ⊢
 clear hg7 hr7 hb7 HC6 hB6
 go_wp2_with fail
 refine (HCR.out W7 hbw7).mono ?_
 rintro e W8 ⟨v8, rfl, hc8, hb8⟩
 have b8 := b7.trans (hb8.mono b7.size)
 have hbw8 := hbw.trans (b8.mono hbw.size)
 have hc8 := hc8.mono (S' := (· < W8.heap.size)) (fun g _ h => h)
 have HC8 := Lib.hid hc8
 have HC7 := Lib.hid ((HC7.out.keep (ai hb8 (fun g h => Nat.lt_trans h hp6))).mono (S' := (· < W8.heap.size)) (fun g _ h => h))
 have HR7 := Lib.hid ((hb8.block _ hp6).trans HR7.out)
 have hp8 := Nat.lt_of_lt_of_le hp6 hb8.size
 obtain ⟨rQ, rcQ, wQ, wcQ, fQ, fcQ, rfl, -⟩ := hc8
 go_upto_region 5 with (first | ((with_reducible refine list_row 54 6 Cw _ rfl rfl (.tmp 9) (.tmp 43) rfl W8.heap.size _ rfl rfl _ (heap_alloc_new W8 _) rfl rfl (by simp [Value.oneCell']) ?_); intro W9 hr9 hg9))
 have hb9 : Below W8.heap.size W8 W9 := ((Below.refl _ _).alloc (Nat.le_refl _) _).trans (below_grown hg9 (Nat.le_refl _) (by simp))
 have b9 := b8.trans (hb9.mono b8.size)
 have hbw9 := hbw.trans (b9.mono hbw.size)
 have HC7 := Lib.hid (HC7.out.keep (ai hb9 (fun g h => h)))
 have HC9 := Lib.hid (HC8.out.keep (ai hb9 (fun g h => h)))
 have HR7 := Lib.hid ((hb9.block _ hp8).trans HR7.out)
 have HR9 := Lib.hid hr9
 obtain ⟨⟨c0, c1, c2, c3, c4, c5⟩, d0, d1, d2, d3, d4, d5⟩ := HBX.out W9 b9
 obtain ⟨B8, hB8⟩ : ∃ B, B = W8.heap.size := ⟨_, rfl⟩
 have hB8s : B8 ≤ W9.heap.size := by rw [hB8]; exact hb9.size
 rw [← hB8] at HC7 HC9 HR9 hp8 ⊢
 clear hg9 hr9 hb9 HC8 hB8 hb8
 go_wp2_with fail
 refine (HSP.out W9 hbw9).mono ?_
 rintro e WA ⟨rfl, hbA⟩
 have bA := b9.trans (hbA.mono b9.size)
 have hbwA := hbw.trans (bA.mono hbw.size)
 obtain ⟨⟨c0, c1, c2, c3, c4, c5⟩, d0, d1, d2, d3, d4, d5⟩ := HBX.out WA bA
 go_wp2_with fail
 refine (HSR.out WA hbwA).mono ?_
 rintro e WB ⟨rfl, hbB⟩
 have bB := bA.trans (hbB.mono bA.size)
 have hbwB := hbw.trans (bB.mono hbw.size)
 have hb9B := hbA.trans (hbB.mono hbA.size)
 have HC7 := Lib.hid ((HC7.out.keep (ai hb9B (fun g h => by omega))).mono (S' := (· < WB.heap.size)) (fun g _ h => h))
 have HC9 := Lib.hid ((HC9.out.keep (ai hb9B (fun g h => by omega))).mono (S' := (· < WB.heap.size)) (fun g _ h => h))
 have p7 := lt_of_block HR7.out
 have p9 := lt_of_block HR9.out
 have HR7 := Lib.hid ((hb9B.block _ p7).trans HR7.out)
 have HR9 := Lib.hid ((hb9B.block _ p9).trans HR9.out)
 clear hbA hbB hb9B p7 p9 hp8 hp6 hB8s
 go_upto_region 7 with fail
 have p7 := lt_of_block HR7.out
 have p9 := lt_of_block HR9.out
 refine ax.start (fun W' => Below WB.heap.size WB W') [] [0, 1, 2, 3, 4, 5, 6, 7, 8, 9, 10, 11, 12, 13, 14, 16, 19, 20, 21, 22, 24, 25, 27, 28, 29, 30, 31, 33, 34] (by kernel_rfl) (Below.refl _ _).drew (fun bx => ?_)
 repeat
  refine ax.take (v := ?_) rfl (by decide +kernel) (by rfl) (fun _ _ _ h => h) bx ?_ ?_
  rotate_left
  focus
   intro w9 h9
   obtain ⟨⟨c0, c1, c2, c3, c4, c5⟩, d0, d1, d2, d3, d4, d5⟩ := HBX.out w9 (bB.trans (h9.mono bB.size))
   obtain ⟨m0, m1, m2, m3, m4, m5⟩ := eD ((h9.block _ p7).trans HR7.out)
   obtain ⟨n0, n1, n2, n3, n4, n5⟩ := eD ((h9.block _ p9).trans HR9.out)
   go_simp
   (try with_reducible rfl)
   done
  simp only [Act.put, List.getElem_toArray, List.getElem_cons_succ, List.getElem_cons_zero, List.setIfInBounds_toArray, List.set_cons_zero, List.set_cons_succ]
 obtain ⟨X1, X2, hX1, hX2, hy1, hy2, hyw, hyx⟩ := two_box WB #[.string q.name, .int .i64 q.kind, .int .u16 (q.mem : Nat), .slice rP q.read.length rcP, .slice wP q.write.length wcP, .slice fP q.faults.length fcP] #[.string q.name, .int .i64 q.kind, .int .u16 (q.mem : Nat), .slice rQ q.read.length rcQ, .slice wQ q.write.length wcQ, .slice fQ q.faults.length fcQ] 54 54
 obtain ⟨Y1, Y2, hY1, hY2, hu1, hu2, huw, hux⟩ := two_box WB #[.string q.name, .int .i64 q.kind, .int .u16 (q.mem : Nat), .slice rQ q.read.length rcQ, .slice wQ q.write.length wcQ, .slice fQ q.faults.length fcQ] #[.string q.name, .int .i64 q.kind, .int .u16 (q.mem : Nat), .slice rP q.read.length rcP, .slice wP q.write.length wcP, .slice fP q.faults.length fcP] 54 54
 have HX1 := Lib.hid hX1
 have HX2 := Lib.hid hX2
 have HY1 := Lib.hid hY1
 have HY2 := Lib.hid hY2
 have HYX := Lib.hid (hyx X2.drew (Below.refl _ _).drew)
 have HUX := Lib.hid (hux Y2.drew (Below.refl _ _).drew)
 have bX : Below WB.heap.size WB X2.drew := hyw.drew
 have bY : Below WB.heap.size WB Y2.drew := huw.drew
 have bX1 : Below WB.heap.size WB X1.drew := by rw [hX1]; exact ((Below.refl _ _).alloc (Nat.le_refl _) _).drew
 have bY1 : Below WB.heap.size WB Y1.drew := by rw [hY1]; exact ((Below.refl _ _).alloc (Nat.le_refl _) _).drew
 have hx2 : X2.drew.heap.size = WB.heap.size + 2 := hy2
 have HX11 := Lib.hid hy1
 have HY11 := Lib.hid hu1
 have hy2' : Y2.drew.heap.size = WB.heap.size + 2 := hu2
 have HXZ := Lib.hid hx2
 have HYZ := Lib.hid hy2'
 clear hX1 hX2 hy1 hy2 hyw hyx hY1 hY2 hu1 hu2 huw hux hx2 hy2'
 refine ax.two 15 17 rfl rfl (by decide +kernel) (by rfl) (by rfl) (fun K hK => ?_) (fun K hK => ?_)
 ·go_simp
  rw [← HX1.out]
  refine hK.out _ _ (fun _ => bX1) ?_
  clear hK K
  refine ax.one 17 rfl (by decide +kernel) (by rfl) (fun K hK => ?_)
  go_simp
  rw [← HX2.out, HX11.out]
  refine hK.out _ _ (fun _ => bX) ?_
  clear hK K
  have HSA := Lib.hid (same_ref [q] [q] (some ⟨WB.heap.size, 0, none⟩) (some ⟨WB.heap.size + 1, 0, none⟩) 1 1 X2.drew (· < X2.drew.heap.size) (· < X2.drew.heap.size) (list_cfg HYX.out.1 ((HC7.out.keep (ai bX (fun g h => h))).mono (fun g _ h => h)) (by have := HXZ.out; show WB.heap.size < _; omega)) (list_cfg HYX.out.2 ((HC9.out.keep (ai bX (fun g h => h))).mono (fun g _ h => h)) (by have := HXZ.out; show WB.heap.size + 1 < _; omega)) (fun g h => h) (fun g h => h) (by simp) (by simp) (fun y hy => by rw [List.mem_singleton.1 hy]; exact HSM.out))
  rw [allB_one] at HSA
  refine ax.one 18 rfl (by decide +kernel) (by rfl) (fun K hK => ?_)
  go_simp
  go_at_call 20
  refine HSA.out.mono ?_
  rintro e WC ⟨rfl, hbC⟩
  have bx := bX.trans (hbC.mono bX.size)
  try go_simp
  refine hK.out _ _ (fun _ => bx) ?_
  clear hK K hbC
  repeat
   refine ax.take (v := ?_) rfl (by decide +kernel) (by rfl) (fun _ _ _ h => h) bx ?_ ?_
   rotate_left
   focus
    intro w9 h9
    obtain ⟨⟨c0, c1, c2, c3, c4, c5⟩, d0, d1, d2, d3, d4, d5⟩ := HBX.out w9 (bB.trans (h9.mono bB.size))
    obtain ⟨m0, m1, m2, m3, m4, m5⟩ := eD ((h9.block _ p7).trans HR7.out)
    obtain ⟨n0, n1, n2, n3, n4, n5⟩ := eD ((h9.block _ p9).trans HR9.out)
    go_simp
    (try with_reducible rfl)
    done
   simp only [Act.put, List.getElem_toArray, List.getElem_cons_succ, List.getElem_cons_zero, List.setIfInBounds_toArray, List.set_cons_zero, List.set_cons_succ]
  refine ax.one 23 rfl (by decide +kernel) (by rfl) (fun K hK => ?_)
  go_simp
  go_at_call 21
  refine (HE1.out _ (hbwB.trans (bx.mono hbwB.size))).mono ?_
  rintro e WD ⟨rfl, hbK⟩
  have bx := bx.trans (hbK.mono bx.size)
  try go_simp
  refine hK.out _ _ (fun _ => bx) ?_
  clear hK K hbK
  refine ax.one 26 rfl (by decide +kernel) (by rfl) (fun K hK => ?_)
  go_simp
  go_at_call 22
  refine (HE2.out _ (hbwB.trans (bx.mono hbwB.size))).mono ?_
  rintro e WE ⟨rfl, hbK⟩
  have bx := bx.trans (hbK.mono bx.size)
  try go_simp
  refine hK.out _ _ (fun _ => bx) ?_
  clear hK K hbK
  repeat
   refine ax.take (v := ?_) rfl (by decide +kernel) (by rfl) (fun _ _ _ h => h) bx ?_ ?_
   rotate_left
   focus
    intro w9 h9
    obtain ⟨⟨c0, c1, c2, c3, c4, c5⟩, d0, d1, d2, d3, d4, d5⟩ := HBX.out w9 (bB.trans (h9.mono bB.size))
    obtain ⟨m0, m1, m2, m3, m4, m5⟩ := eD ((h9.block _ p7).trans HR7.out)
    obtain ⟨n0, n1, n2, n3, n4, n5⟩ := eD ((h9.block _ p9).trans HR9.out)
    go_simp
    (try with_reducible rfl)
    done
   simp only [Act.put, List.getElem_toArray, List.getElem_cons_succ, List.getElem_cons_zero, List.setIfInBounds_toArray, List.set_cons_zero, List.set_cons_succ]
  refine ax.one 32 rfl (by decide +kernel) (by rfl) (fun K hK => ?_)
  go_simp
  go_at_call 21
  refine (HE3.out _ (hbwB.trans (bx.mono hbwB.size))).mono ?_
  rintro e WF ⟨rfl, hbK⟩
  have bx := bx.trans (hbK.mono bx.size)
  try go_simp
  refine hK.out _ _ (fun _ => bx) ?_
  clear hK K hbK
  repeat
   refine ax.take (v := ?_) rfl (by decide +kernel) (by rfl) (fun _ _ _ h => h) bx ?_ ?_
   rotate_left
   focus
    intro w9 h9
    obtain ⟨⟨c0, c1, c2, c3, c4, c5⟩, d0, d1, d2, d3, d4, d5⟩ := HBX.out w9 (bB.trans (h9.mono bB.size))
    obtain ⟨m0, m1, m2, m3, m4, m5⟩ := eD ((h9.block _ p7).trans HR7.out)
    obtain ⟨n0, n1, n2, n3, n4, n5⟩ := eD ((h9.block _ p9).trans HR9.out)
    go_simp
    (try with_reducible rfl)
    done
   simp only [Act.put, List.getElem_toArray, List.getElem_cons_succ, List.getElem_cons_zero, List.setIfInBounds_toArray, List.set_cons_zero, List.set_cons_succ]
  refine ax.done (by decide +kernel) ?_
  go_wp2_with fail
  go_ret
  exact ⟨by simp, hbwB.trans (bx.mono hbwB.size)⟩
 ·go_simp
  rw [← HY1.out]
  refine hK.out _ _ (fun _ => bY1) ?_
  clear hK K
  refine ax.one 15 rfl (by decide +kernel) (by rfl) (fun K hK => ?_)
  go_simp
  rw [← HY2.out, HY11.out]
  refine hK.out _ _ (fun _ => bY) ?_
  clear hK K
  have HSA := Lib.hid (same_ref [q] [q] (some ⟨WB.heap.size + 1, 0, none⟩) (some ⟨WB.heap.size, 0, none⟩) 1 1 Y2.drew (· < Y2.drew.heap.size) (· < Y2.drew.heap.size) (list_cfg HUX.out.2 ((HC7.out.keep (ai bY (fun g h => h))).mono (fun g _ h => h)) (by have := HYZ.out; show WB.heap.size + 1 < _; omega)) (list_cfg HUX.out.1 ((HC9.out.keep (ai bY (fun g h => h))).mono (fun g _ h => h)) (by have := HYZ.out; show WB.heap.size < _; omega)) (fun g h => h) (fun g h => h) (by simp) (by simp) (fun y hy => by rw [List.mem_singleton.1 hy]; exact HSM.out))
  rw [allB_one] at HSA
  refine ax.one 18 rfl (by decide +kernel) (by rfl) (fun K hK => ?_)
  go_simp
  go_at_call 20
  refine HSA.out.mono ?_
  rintro e WC ⟨rfl, hbC⟩
  have bx := bY.trans (hbC.mono bY.size)
  try go_simp
  refine hK.out _ _ (fun _ => bx) ?_
  clear hK K hbC
  repeat
   refine ax.take (v := ?_) rfl (by decide +kernel) (by rfl) (fun _ _ _ h => h) bx ?_ ?_
   rotate_left
   focus
    intro w9 h9
    obtain ⟨⟨c0, c1, c2, c3, c4, c5⟩, d0, d1, d2, d3, d4, d5⟩ := HBX.out w9 (bB.trans (h9.mono bB.size))
    obtain ⟨m0, m1, m2, m3, m4, m5⟩ := eD ((h9.block _ p7).trans HR7.out)
    obtain ⟨n0, n1, n2, n3, n4, n5⟩ := eD ((h9.block _ p9).trans HR9.out)
    go_simp
    (try with_reducible rfl)
    done
   simp only [Act.put, List.getElem_toArray, List.getElem_cons_succ, List.getElem_cons_zero, List.setIfInBounds_toArray, List.set_cons_zero, List.set_cons_succ]
  refine ax.one 23 rfl (by decide +kernel) (by rfl) (fun K hK => ?_)
  go_simp
  go_at_call 21
  refine (HE1.out _ (hbwB.trans (bx.mono hbwB.size))).mono ?_
  rintro e WD ⟨rfl, hbK⟩
  have bx := bx.trans (hbK.mono bx.size)
  try go_simp
  refine hK.out _ _ (fun _ => bx) ?_
  clear hK K hbK
  refine ax.one 26 rfl (by decide +kernel) (by rfl) (fun K hK => ?_)
  go_simp
  go_at_call 22
  refine (HE2.out _ (hbwB.trans (bx.mono hbwB.size))).mono ?_
  rintro e WE ⟨rfl, hbK⟩
  have bx := bx.trans (hbK.mono bx.size)
  try go_simp
  refine hK.out _ _ (fun _ => bx) ?_
  clear hK K hbK
  repeat
   refine ax.take (v := ?_) rfl (by decide +kernel) (by rfl) (fun _ _ _ h => h) bx ?_ ?_
   rotate_left
   focus
    intro w9 h9
    obtain ⟨⟨c0, c1, c2, c3, c4, c5⟩, d0, d1, d2, d3, d4, d5⟩ := HBX.out w9 (bB.trans (h9.mono bB.size))
    obtain ⟨m0, m1, m2, m3, m4, m5⟩ := eD ((h9.block _ p7).trans HR7.out)
    obtain ⟨n0, n1, n2, n3, n4, n5⟩ := eD ((h9.block _ p9).trans HR9.out)
    go_simp
    (try with_reducible rfl)
    done
   simp only [Act.put, List.getElem_toArray, List.getElem_cons_succ, List.getElem_cons_zero, List.setIfInBounds_toArray, List.set_cons_zero, List.set_cons_succ]
  refine ax.one 32 rfl (by decide +kernel) (by rfl) (fun K hK => ?_)
  go_simp
  go_at_call 21
  refine (HE3.out _ (hbwB.trans (bx.mono hbwB.size))).mono ?_
  rintro e WF ⟨rfl, hbK⟩
  have bx := bx.trans (hbK.mono bx.size)
  try go_simp
  refine hK.out _ _ (fun _ => bx) ?_
  clear hK K hbK
  repeat
   refine ax.take (v := ?_) rfl (by decide +kernel) (by rfl) (fun _ _ _ h => h) bx ?_ ?_
   rotate_left
   focus
    intro w9 h9
    obtain ⟨⟨c0, c1, c2, c3, c4, c5⟩, d0, d1, d2, d3, d4, d5⟩ := HBX.out w9 (bB.trans (h9.mono bB.size))
    obtain ⟨m0, m1, m2, m3, m4, m5⟩ := eD ((h9.block _ p7).trans HR7.out)
    obtain ⟨n0, n1, n2, n3, n4, n5⟩ := eD ((h9.block _ p9).trans HR9.out)
    go_simp
    (try with_reducible rfl)
    done
   simp only [Act.put, List.getElem_toArray, List.getElem_cons_succ, List.getElem_cons_zero, List.setIfInBounds_toArray, List.set_cons_zero, List.set_cons_succ]
  refine ax.done (by decide +kernel) ?_
  go_wp2_with fail
  go_ret
  exact ⟨by simp, hbwB.trans (bx.mono hbwB.size)⟩
end Go.Proofs.YtmohibkomlhlaaaGreatDoor
namespace Go.Proofs.YtmohibkomlhlaaaGreatDoor
open Go.ChangeShapes Go.WideShapes Go.ChangeAt Go.RowKit
open _root_.Go.Proofs.Tryz
theorem gTab : prog.globalNamed "math/bits.deBruijn32tab" = some 2 := by kernel_rfl
theorem gTabType : (prog.globals[2]?).map (·.type) = some 290 := by kernel_rfl
theorem cellsTab : prog.cellsOf 290 = 32 := by kernel_rfl
theorem cells5 : prog.cellsOf 5 = 1 := by kernel_rfl
theorem Fb {W : World} (h : laidMetH prog laid3 W) : Tz W := by
 rw [MakeChecks.laidMetH_plain _ _ _ (by kernel_rfl)] at h
 have ht : Lib.TabIs prog W "math/bits.deBruijn32tab" .u8 [0, 1, 28, 2, 29, 14, 24, 3, 30, 22, 20, 15, 25, 17, 4, 8, 31, 27, 13, 23, 21, 19, 16, 7, 26, 12, 18, 6, 11, 5, 10, 9] :=
  Lib.tabIs_of_head gTab gTabType underlying290 underlying5 cells5 cellsTab h
 have hc := fun i hi => ht.cell gTab i hi
 refine ⟨World.block_lt_of_cell? W _ (hc 0 (by decide)), fun i hi => ?_⟩
 rw [hc i hi]
 have : ∀ i, i < 32 → ([0, 1, 28, 2, 29, 14, 24, 3, 30, 22, 20, 15, 25, 17, 4, 8, 31, 27, 13, 23, 21, 19, 16, 7, 26, 12, 18, 6, 11, 5, 10, 9] : List Int).getD i 0 = ((tzTab.getD i 0 : Nat) : Int) := by decide
 rw [this i hi]
theorem u16_of {x : Int} (h : (Lit.int .u16 x).wf = true) : ∃ s : Nat, s < 65536 ∧ x = s := by
 simp [Lit.wf, IntKind.min, IntKind.max, IntKind.signed, IntKind.bits] at h
 exact ⟨x.toNat, by omega, by omega⟩
end Go.Proofs.YtmohibkomlhlaaaGreatDoor
namespace Go.Proofs.YtmohibkomlhlaaaGreatDoor
open Go.ChangeShapes Go.WideShapes Go.ChangeAt Go.RowKit
open _root_.Go.Proofs.Tryz
section
variable {H : Type} {enc : TypeId × Value → H} {W : World} {sp : Nat → Bool} {held : Bool}
theorem slice_lim {t e : TypeId} {A : Option Addr} {n cap m : Nat} {y : DataW H × List MemPlace} (ht : prog.underlying t = some (.slice e)) (h : DataW.trod enc prog W 0 sp held m t [.slice A n cap] = some y) : n ≤ 9223372036854775807 := by
 rcases DataW.trod_slice ht h with ⟨e, -⟩ | ⟨a, len, cap', elems, rest, n', -, e, -, -, hl, hm, -⟩
 ·cases e; omega
 ·cases e
  exact Nat.le_trans hl hm
theorem listAt_flat {α : Type} {q : α → Value} {m : Nat} {w : World} {S : Nat → Prop} {A : Option Addr} {l : List α} (h : aL (fun a v => v = q a) w S m A l) : ak w S m A l.length (l.flatMap fun a => cellsOf (q a)) := by
 obtain ⟨vs, h1, h2, h3⟩ := h
 have e : vs = l.map q := by
  apply List.ext_getElem (by simpa using h1)
  intro i a b
  have hi : i < l.length := by simpa using b
  rw [h3 i l[i] vs[i] (List.getElem?_eq_getElem hi) (List.getElem?_eq_getElem a)]; simp
 have e2 : vs.flatMap cellsOf = l.flatMap fun a => cellsOf (q a) := by rw [e, List.flatMap_map]
 rw [e2] at h2
 exact h2
theorem list2 {α : Type} {l : List α} (h : l.length = 2) : ∃ a b, l = [a, b] := by
 match l, h with
 |[a, b], _ => exact ⟨a, b, rfl⟩
theorem list3 {α : Type} {l : List α} (h : l.length = 3) : ∃ a b c, l = [a, b, c] := by
 match l, h with
 |[a, b, c], _ => exact ⟨a, b, c, rfl⟩
theorem openSets {n : Nat} {cs : List Value} {y : DataW H × List MemPlace} (h : DataW.trod enc prog W 0 sp held n 51 cs = some y) :
  ∃ (A : Option Addr) (cap : Nat) (l : List Nat), cs = [.slice A l.length cap] ∧ ak W (· < W.heap.size) 1 A l.length (fG l) := by
 obtain ⟨A, cap, l, h1, h2, -, -⟩ := pQ (Q := fun (a : Nat) v => v = .int .u16 (a : Nat)) (f := fun _ => 0) underlying51 (size := 1) (by kernel_rfl) (by decide) (fun n' cs x _ hx => by
  obtain ⟨z, rfl, rfl, wz⟩ := DataW.trod_int underlying28 hx
  obtain ⟨s, -, rfl⟩ := u16_of wz
  exact ⟨s, _, rfl, rfl, Nat.zero_le _⟩) h
 exact ⟨A, cap, l, h1, xq (q := fun a : Nat => Value.int .u16 (a : Nat)) (fun _ => rfl) h2⟩
theorem openFlts {n : Nat} {cs : List Value} {y : DataW H × List MemPlace} (h : DataW.trod enc prog W 0 sp held n 52 cs = some y) :
  ∃ (A : Option Addr) (cap : Nat) (l : List (Nat × Nat)), cs = [.slice A l.length cap] ∧ ak W (· < W.heap.size) 2 A l.length (bG l) ∧ l.length ≤ 9223372036854775807 := by
 obtain ⟨A, cap, l, h1, h2, -, -⟩ := pQ (Q := fun (a : Nat × Nat) v => v = .agg #[.int .u16 (a.1 : Nat), .int .u16 (a.2 : Nat)]) (f := fun _ => 0) underlying52 (size := 2) (by kernel_rfl) (by decide) (fun n' cs x _ hx => by
  obtain ⟨xs, m, rfl, rfl, hl, hlen, hf⟩ := DataW.trod_struct underlying148 hx
  rw [show prog.cellsOf 148 = 2 by kernel_rfl] at hl
  obtain ⟨c0, c1, rfl⟩ := list2 hl
  obtain ⟨y0, y1, rfl⟩ := list2 hlen
  have h0 : DataW.trod enc prog W 0 sp held m 28 [c0] = some y0 := hf 0 _ rfl
  have h1 : DataW.trod enc prog W 0 sp held m 28 [c1] = some y1 := hf 1 _ rfl
  obtain ⟨z, e0, rfl, wz⟩ := DataW.trod_int underlying28 h0
  obtain ⟨z1, e1, rfl, wz1⟩ := DataW.trod_int underlying28 h1
  obtain ⟨s, -, rfl⟩ := u16_of wz
  obtain ⟨s1, -, rfl⟩ := u16_of wz1
  simp only [List.cons.injEq, and_true] at e0 e1
  subst e0 e1
  exact ⟨(s, s1), _, rfl, rfl, Nat.zero_le _⟩) h
 exact ⟨A, cap, l, h1, listAt_flat (q := fun a : Nat × Nat => Value.agg #[.int .u16 (a.1 : Nat), .int .u16 (a.2 : Nat)]) h2, by subst h1; exact slice_lim underlying52 h⟩
theorem openSites {n : Nat} {cs : List Value} {y : DataW H × List MemPlace} (h : DataW.trod enc prog W 0 sp held n 44 cs = some y) :
  ∃ (A : Option Addr) (cap : Nat) (l : List (ByteArray × Nat)), cs = [.slice A l.length cap] ∧ ak W (· < W.heap.size) 2 A l.length (siteVals l) ∧ l.length ≤ 9223372036854775807 := by
 obtain ⟨A, cap, l, h1, h2, -, -⟩ := pQ (Q := fun (a : ByteArray × Nat) v => v = .agg #[.string a.1, .int .u16 (a.2 : Nat)]) (f := fun _ => 0) underlying44 (size := 2) (by kernel_rfl) (by decide) (fun n' cs x _ hx => by
  obtain ⟨xs, m, rfl, rfl, hl, hlen, hf⟩ := DataW.trod_struct underlying90 hx
  rw [show prog.cellsOf 90 = 2 by kernel_rfl] at hl
  obtain ⟨c0, c1, rfl⟩ := list2 hl
  obtain ⟨y0, y1, rfl⟩ := list2 hlen
  have h0 : DataW.trod enc prog W 0 sp held m 9 [c0] = some y0 := hf 0 _ rfl
  have h1 : DataW.trod enc prog W 0 sp held m 28 [c1] = some y1 := hf 1 _ rfl
  obtain ⟨z, e0, rfl, _⟩ := DataW.trod_string underlying9 h0
  obtain ⟨z1, e1, rfl, wz1⟩ := DataW.trod_int underlying28 h1
  obtain ⟨s1, -, rfl⟩ := u16_of wz1
  simp only [List.cons.injEq, and_true] at e0 e1
  subst e0 e1
  exact ⟨(z, s1), _, rfl, rfl, Nat.zero_le _⟩) h
 exact ⟨A, cap, l, h1, listAt_flat (q := fun a : ByteArray × Nat => Value.agg #[.string a.1, .int .u16 (a.2 : Nat)]) h2, by subst h1; exact slice_lim underlying44 h⟩
theorem openCfg (n : Nat) (cs : List Value) (x : DataW H × List MemPlace) (h : DataW.trod enc prog W 0 sp held n 54 cs = some x) :
  ∃ (f : DCfg) (v : Value), DCfgAt W (· < W.heap.size) f v ∧ cs = cellsOf v := by
 obtain ⟨xs, m, rfl, rfl, hl, hlen, hf⟩ := DataW.trod_struct underlying54 h
 rw [show prog.cellsOf 54 = 6 by kernel_rfl] at hl
 obtain ⟨c0, c1, c2, c3, c4, c5, rfl⟩ := list6 hl
 obtain ⟨y0, y1, y2, y3, y4, y5, rfl⟩ := list6 hlen
 have h0 : DataW.trod enc prog W 0 sp held m 9 [c0] = some y0 := hf 0 _ rfl
 have h1 : DataW.trod enc prog W 0 sp held m 3 [c1] = some y1 := hf 1 _ rfl
 have h2 : DataW.trod enc prog W 0 sp held m 28 [c2] = some y2 := hf 2 _ rfl
 have h3 : DataW.trod enc prog W 0 sp held m 51 [c3] = some y3 := hf 3 _ rfl
 have h4 : DataW.trod enc prog W 0 sp held m 51 [c4] = some y4 := hf 4 _ rfl
 have h5 : DataW.trod enc prog W 0 sp held m 52 [c5] = some y5 := hf 5 _ rfl
 obtain ⟨name, e0, rfl, _⟩ := DataW.trod_string underlying9 h0
 obtain ⟨kd, e1, rfl, _⟩ := DataW.trod_int underlying3 h1
 obtain ⟨z, e2, rfl, wz⟩ := DataW.trod_int underlying28 h2
 obtain ⟨s, -, rfl⟩ := u16_of wz
 obtain ⟨rA, rc, rl, e3, hr⟩ := openSets h3
 obtain ⟨wA, wc, wl, e4, hw⟩ := openSets h4
 obtain ⟨fA, fc, fl, e5, hfl, -⟩ := openFlts h5
 simp only [List.cons.injEq, and_true] at e0 e1 e2 e3 e4 e5
 subst e0 e1 e2 e3 e4 e5
 exact ⟨⟨name, kd, s, rl, wl, fl⟩, _, ⟨rA, rc, wA, wc, fA, fc, rfl, hr, hw, hfl⟩, rfl⟩
theorem openCli (n : Nat) (cs : List Value) (x : DataW H × List MemPlace) (h : DataW.trod enc prog W 0 sp held n 93 cs = some x) :
  ∃ (f : DCli) (v : Value), (DCliAt W (· < W.heap.size) f v ∧ f.faults.length ≤ 9223372036854775807) ∧ cs = cellsOf v := by
 obtain ⟨xs, m, rfl, rfl, hl, hlen, hf⟩ := DataW.trod_struct underlying93 h
 rw [show prog.cellsOf 93 = 3 by kernel_rfl] at hl
 obtain ⟨c0, c1, c2, rfl⟩ := list3 hl
 obtain ⟨y0, y1, y2, rfl⟩ := list3 hlen
 have h0 : DataW.trod enc prog W 0 sp held m 9 [c0] = some y0 := hf 0 _ rfl
 have h1 : DataW.trod enc prog W 0 sp held m 4 [c1] = some y1 := hf 1 _ rfl
 have h2 : DataW.trod enc prog W 0 sp held m 52 [c2] = some y2 := hf 2 _ rfl
 obtain ⟨name, e0, rfl, _⟩ := DataW.trod_string underlying9 h0
 obtain ⟨pl, e1, rfl⟩ := DataW.trod_bool underlying4 h1
 obtain ⟨fA, fc, fl, e2, hfl, hlm⟩ := openFlts h2
 simp only [List.cons.injEq, and_true] at e0 e1 e2
 subst e0 e1 e2
 exact ⟨⟨name, pl, fl⟩, _, ⟨⟨fA, fc, rfl, hfl⟩, hlm⟩, rfl⟩
theorem open_dep {b0 : Nat} {v : Value} {d : DataW H} {p : List MemPlace} (hv : Value.okWide prog W .any b0 48 v) (h : DataW.Trod enc prog W 0 sp held 48 v d p) :
  ∃ a, DDepAt W (· < W.heap.size) a v ∧ DCnt a ∧ ∀ x ∈ a.clients, x.faults.length ≤ 9223372036854775807 := by
 obtain ⟨cs, rfl, hcs⟩ := okWide_struct underlying48 hv
 obtain ⟨n, hn⟩ := h
 obtain ⟨xs, m, e, -, hl, hlen, hf⟩ := DataW.trod_struct underlying48 hn
 rw [show prog.cellsOf 48 = 6 by kernel_rfl] at hl
 have hl6 : cs.toList.length = 6 := hl
 obtain ⟨c0, c1, c2, c3, c4, c5, hc⟩ := list6 hl6
 obtain rfl : cs = #[c0, c1, c2, c3, c4, c5] := Array.toList_inj.1 hc
 obtain ⟨y0, y1, y2, y3, y4, y5, rfl⟩ := list6 hlen
 have h0 : DataW.trod enc prog W 0 sp held m 32 [c0] = some y0 := hf 0 _ rfl
 have h1 : DataW.trod enc prog W 0 sp held m 44 [c1] = some y1 := hf 1 _ rfl
 have h2 : DataW.trod enc prog W 0 sp held m 28 [c2] = some y2 := hf 2 _ rfl
 have h3 : DataW.trod enc prog W 0 sp held m 45 [c3] = some y3 := hf 3 _ rfl
 have h4 : DataW.trod enc prog W 0 sp held m 23 [c4] = some y4 := hf 4 _ rfl
 have h5 : DataW.trod enc prog W 0 sp held m 46 [c5] = some y5 := hf 5 _ rfl
 obtain ⟨sA, sc, sl, e0, hs, -, -⟩ := uo h0
 obtain ⟨tA, tc, tl, e1, ht, htl⟩ := openSites h1
 obtain ⟨z, e2, rfl, wz⟩ := DataW.trod_int underlying28 h2
 obtain ⟨s, -, rfl⟩ := u16_of wz
 obtain ⟨cA, cc, cl, e3, hcf, -, -⟩ := pQ (Q := DCfgAt W (· < W.heap.size)) (f := fun _ => 0) underlying45 (size := 6) (by kernel_rfl) (by decide) (fun n' cs x hn hx => by
  obtain ⟨f, v, q1, q2⟩ := openCfg n' cs x hx
  exact ⟨f, v, q1, q2, Nat.zero_le _⟩) h3
 obtain ⟨hA, hc', hl', e4, hch, -, -⟩ := openInts h4
 obtain ⟨kA, kc, kl, e5, hk, -, -⟩ := pQ (Q := fun (f : DCli) v => DCliAt W (· < W.heap.size) f v ∧ f.faults.length ≤ 9223372036854775807) (f := fun _ => 0) underlying46 (size := 3) (by kernel_rfl) (by decide) (fun n' cs x hn hx => by
  obtain ⟨f, v, q1, q2⟩ := openCli n' cs x hx
  exact ⟨f, v, q1, q2, Nat.zero_le _⟩) h5
 simp only [List.cons.injEq, and_true] at e0 e1 e2 e3 e4 e5
 subst e0 e1 e2 e3 e4 e5
 have hk1 : aL (DCliAt W (· < W.heap.size)) W (· < W.heap.size) 3 kA kl := by
  obtain ⟨vs, k1, k2, k3⟩ := hk
  exact ⟨vs, k1, k2, fun i x v a b => (k3 i x v a b).1⟩
 refine ⟨⟨sl, tl, s, cl, hl', kl⟩, ⟨sA, sc, tA, tc, cA, cc, hA, hc', kA, kc, rfl, hs, ht, hcf, hch, hk1⟩, ⟨slice_lim underlying32 h0, htl, slice_lim underlying45 h3, slice_lim underlying23 h4, slice_lim underlying46 h5⟩, fun x hx => ?_⟩
 obtain ⟨vs, k1, k2, k3⟩ := hk
 obtain ⟨i, hi, rfl⟩ := List.getElem_of_mem hx
 have hi2 : i < kl.length := hi
 exact (k3 i _ (vs[i]'(by omega)) (List.getElem?_eq_getElem hi) (List.getElem?_eq_getElem _)).2
end
end Go.Proofs.YtmohibkomlhlaaaGreatDoor
