/- Equality of configurations and of deployments: the aU functions. Condition: few parts. -/
import Derived.Test.YtmohibkomlhlaaaGreatDoorPnc
set_option maxRecDepth 100000
set_option maxHeartbeats 16000000
namespace Go.Proofs.YtmohibkomlhlaaaGreatDoor
open Go.RowKit
open _root_.Go.Proofs.Tryz
theorem same_ref (a b : List DCfg) (A B : Option Addr) (c d : Nat) (w : World) (S T : Nat → Prop) (ha : aL (DCfgAt w S) w S 6 A a) (hb : aL (DCfgAt w T) w T 6 B b) (hS : ∀ g, S g → g < w.heap.size) (hT : ∀ g, T g → g < w.heap.size) (hal : a.length ≤ 1000000) (hbl : b.length ≤ 9223372036854775807) (hlim : ∀ x ∈ a, SmallC x) :
  Calls prog 20 #[.slice A a.length c, .slice B b.length d] w fun e w' => e = .returned (.bool (allB cfgB a b)) ∧ Below w.heap.size w w' := by
 have HA := Lib.hid (fun (X : World) (hX : Below w.heap.size w X) => show aL (DCfgAt X S) X S 6 A a from ha.keep (ai hX hS) (fun _ _ h => h.keep (ai hX hS)))
 have HB := Lib.hid (fun (X : World) (hX : Below w.heap.size w X) => show aL (DCfgAt X T) X T 6 B b from hb.keep (ai hX hT) (fun _ _ h => h.keep (ai hX hT)))
 obtain ⟨n, hn⟩ : ∃ n, n = a.length := ⟨_, rfl⟩
 obtain ⟨m, hm⟩ : ∃ m, m = b.length := ⟨_, rfl⟩
 have HN := Lib.hid hn
 have HM := Lib.hid hm
 rw [← hn] at hal
 rw [← hm] at hbl
 rw [← hn, ← hm]
 clear ha hb hn hm
 go_enter func20, ntmps20
 by_cases hnm : n = m
 ·subst hnm
  go_wp2
  go_loopw [5] (fun x wr => ∃ k : Nat, k ≤ n ∧ x = .int .i64 k ∧ Hid (∀ j (h1 : j < a.length) (h2 : j < b.length), j < k → cfgB a[j] b[j] = true) ∧ Below w.heap.size w wr) (fun x _ => n - (intOf x).toNat)
  case atStart => exact ⟨0, Nat.zero_le _, rfl, Lib.hid (fun j _ _ h => absurd h (by omega)), Below.refl _ _⟩
  case round =>
  obtain ⟨k, hk, rfl, hs, hbr⟩ := hrel
  by_cases hkn : k < n
  ·have hlt : k < a.length := by rw [← HN.out]; exact hkn
   have hlb : k < b.length := by rw [← HM.out]; exact hkn
   have hsz := hbr.size
   obtain ⟨gA, oA, rA, rcA, wA, wcA, fA, fcA, rfl, hSA, hpA, kA0, kA1, kA2, kA3, kA4, kA5⟩ := cfg_at (HA.out wr hbr) hlt
   obtain ⟨gB, oB, rB, rcB, wB, wcB, fB, fcB, rfl, hSB, hpB, kB0, kB1, kB2, kB3, kB4, kB5⟩ := cfg_at (HB.out wr hbr) hlb
   obtain ⟨x, hx⟩ : ∃ x, x = a[k] := ⟨_, rfl⟩
   obtain ⟨y, hy⟩ : ∃ y, y = b[k] := ⟨_, rfl⟩
   rw [← hx] at hpA kA0 kA1 kA2 kA3 kA4 kA5
   rw [← hy] at hpB kB0 kB1 kB2 kB3 kB4 kB5
   have HXX := Lib.hid hx
   have HYY := Lib.hid hy
   have HLX := Lib.hid (hlim x (hx ▸ List.getElem_mem hlt))
   have hgA := World.block_lt_of_cell? wr _ kA0
   have hgB := World.block_lt_of_cell? wr _ kB0
   have HPA := Lib.hid hpA
   have HPB := Lib.hid hpB
   have hkI : (k : Int) < (n : Int) := by omega
   have hk0 : (0 : Int) ≤ (k : Int) := by omega
   clear hx hy hpA hpB
   go_upto_region 6 with fail
   go_cut [6, 7] (fun s6 s7 wx => ∃ B6 B7, s6 = .pointer (some ⟨B6, 0, none⟩) ∧ s7 = .pointer (some ⟨B7, 0, none⟩) ∧ Hid (wx.heap[B6]? = some (.cells #[.string x.name, .int .i64 x.kind, .int .u16 (x.mem : Nat), .slice rA x.read.length rcA, .slice wA x.write.length wcA, .slice fA x.faults.length fcA] 54 (0, 0))) ∧ Hid (wx.heap[B7]? = some (.cells #[.string y.name, .int .i64 y.kind, .int .u16 (y.mem : Nat), .slice rB y.read.length rcB, .slice wB y.write.length wcB, .slice fB y.faults.length fcB] 54 (0, 0))) ∧ Below wr.heap.size wr wx)
   case first =>
    obtain ⟨X1, X2, hX1, hX2, hy1, hy2, hyw, hyx⟩ := two_box wr #[.string ⟨#[]⟩, .int .i64 0, .int .u16 0, .slice none 0 0, .slice none 0 0, .slice none 0 0] #[.string ⟨#[]⟩, .int .i64 0, .int .u16 0, .slice none 0 0, .slice none 0 0, .slice none 0 0] 54 54
    have HX1 := Lib.hid hX1
    have HX2 := Lib.hid hX2
    have HYW := Lib.hid hyw
    have HY1 := Lib.hid hy1
    have HY2 := Lib.hid hy2
    have HYX := Lib.hid hyx
    clear hX1 hX2 hy1 hy2 hyw hyx
    refine ax.start (fun W' => Below wr.heap.size wr W') [] [0, 1, 2, 3, 4, 5, 6, 7] (by kernel_rfl) (Below.refl _ _).drew (fun bx => ?_)
    repeat
     refine ax.take (v := ?_) rfl (by decide +kernel) (by rfl) (fun _ _ _ h => h) bx ?_ ?_
     rotate_left
     focus
      intro w9 h9
      have kA0z := (h9.cell (p := ⟨gA, oA + k * 6, none⟩) hgA).trans kA0
      have kA1z := (h9.cell (p := ⟨gA, oA + k * 6 + 1, none⟩) hgA).trans kA1
      have kA2z := (h9.cell (p := ⟨gA, oA + k * 6 + 2, none⟩) hgA).trans kA2
      have kA3z := (h9.cell (p := ⟨gA, oA + k * 6 + 3, none⟩) hgA).trans kA3
      have kA4z := (h9.cell (p := ⟨gA, oA + k * 6 + 4, none⟩) hgA).trans kA4
      have kA5z := (h9.cell (p := ⟨gA, oA + k * 6 + 5, none⟩) hgA).trans kA5
      have kB0z := (h9.cell (p := ⟨gB, oB + k * 6, none⟩) hgB).trans kB0
      have kB1z := (h9.cell (p := ⟨gB, oB + k * 6 + 1, none⟩) hgB).trans kB1
      have kB2z := (h9.cell (p := ⟨gB, oB + k * 6 + 2, none⟩) hgB).trans kB2
      have kB3z := (h9.cell (p := ⟨gB, oB + k * 6 + 3, none⟩) hgB).trans kB3
      have kB4z := (h9.cell (p := ⟨gB, oB + k * 6 + 4, none⟩) hgB).trans kB4
      have kB5z := (h9.cell (p := ⟨gB, oB + k * 6 + 5, none⟩) hgB).trans kB5
      go_simp
      (try with_reducible rfl)
      done
     simp only [Act.put, List.getElem_toArray, List.getElem_cons_succ, List.getElem_cons_zero, List.setIfInBounds_toArray, List.set_cons_zero, List.set_cons_succ]
    refine ax.two 8 9 rfl rfl (by decide +kernel) (by rfl) (by rfl) (fun K hK => ?_) (fun K hK => ?_)
    ·go_simp
     rw [← HX1.out]
     have b1 : Below wr.heap.size wr X1.drew := by rw [HX1.out]; exact ((Below.refl _ _).alloc (Nat.le_refl _) _).drew
     refine hK.out _ _ (fun _ => b1) ?_
     clear hK K
     refine ax.one 9 rfl (by decide +kernel) (by rfl) (fun K hK => ?_)
     go_simp
     rw [← HX2.out, HY1.out]
     refine hK.out _ _ (fun _ => HYW.out.drew) ?_
     clear hK K
     refine ax.one 10 rfl (by decide +kernel) (by rfl) (fun K hK => ?_)
     obtain ⟨GA, GB⟩ := HYX.out X2.drew (Below.refl _ _).drew
     have bx2 : Below wr.heap.size wr X2.drew := HYW.out.drew
     have hsz2 : X2.drew.heap.size = wr.heap.size + 2 := HY2.out
     generalize X2.drew = Z2 at GA GB bx2 hsz2 ⊢
     refine wp_store_row 54 (.tmp 6) (.tmp 22) rfl wr.heap.size #[.string x.name, .int .i64 x.kind, .int .u16 (x.mem : Nat), .slice rA x.read.length rcA, .slice wA x.write.length wcA, .slice fA x.faults.length fcA] rfl rfl 54 #[.string ⟨#[]⟩, .int .i64 0, .int .u16 0, .slice none 0 0, .slice none 0 0, .slice none 0 0] GA Cw rfl (by simp [Value.oneCell']) ?_
     have G6 := setRow_heap Z2 wr.heap.size #[.string ⟨#[]⟩, .int .i64 0, .int .u16 0, .slice none 0 0, .slice none 0 0, .slice none 0 0] #[.string x.name, .int .i64 x.kind, .int .u16 (x.mem : Nat), .slice rA x.read.length rcA, .slice wA x.write.length wcA, .slice fA x.faults.length fcA] _ _ GA
     have G7 := (setRow_other Z2 wr.heap.size (wr.heap.size + 1) #[.string x.name, .int .i64 x.kind, .int .u16 (x.mem : Nat), .slice rA x.read.length rcA, .slice wA x.write.length wcA, .slice fA x.faults.length fcA] (by omega)).trans GB
     have bx3 := bx2.trans (below_grown (Ab Z2 wr.heap.size #[.string x.name, .int .i64 x.kind, .int .u16 (x.mem : Nat), .slice rA x.read.length rcA, .slice wA x.write.length wcA, .slice fA x.faults.length fcA]) (by omega) (by have := bx2.size; omega))
     refine hK.out _ _ (fun _ => bx3) ?_
     clear hK K
     refine ax.one 11 rfl (by decide +kernel) (by rfl) (fun K hK => ?_)
     refine wp_store_row 54 (.tmp 7) (.tmp 26) rfl (wr.heap.size + 1) #[.string y.name, .int .i64 y.kind, .int .u16 (y.mem : Nat), .slice rB y.read.length rcB, .slice wB y.write.length wcB, .slice fB y.faults.length fcB] rfl rfl 54 #[.string ⟨#[]⟩, .int .i64 0, .int .u16 0, .slice none 0 0, .slice none 0 0, .slice none 0 0] G7 Cw rfl (by simp [Value.oneCell']) ?_
     have Q7 := setRow_heap _ (wr.heap.size + 1) #[.string ⟨#[]⟩, .int .i64 0, .int .u16 0, .slice none 0 0, .slice none 0 0, .slice none 0 0] #[.string y.name, .int .i64 y.kind, .int .u16 (y.mem : Nat), .slice rB y.read.length rcB, .slice wB y.write.length wcB, .slice fB y.faults.length fcB] _ _ G7
     have Q6 := (setRow_other (Z2.setRow wr.heap.size #[.string x.name, .int .i64 x.kind, .int .u16 (x.mem : Nat), .slice rA x.read.length rcA, .slice wA x.write.length wcA, .slice fA x.faults.length fcA]) (wr.heap.size + 1) wr.heap.size #[.string y.name, .int .i64 y.kind, .int .u16 (y.mem : Nat), .slice rB y.read.length rcB, .slice wB y.write.length wcB, .slice fB y.faults.length fcB] (by omega)).trans G6
     have bx4 := bx3.trans (below_grown (Ab (Z2.setRow wr.heap.size #[.string x.name, .int .i64 x.kind, .int .u16 (x.mem : Nat), .slice rA x.read.length rcA, .slice wA x.write.length wcA, .slice fA x.faults.length fcA]) (wr.heap.size + 1) #[.string y.name, .int .i64 y.kind, .int .u16 (y.mem : Nat), .slice rB y.read.length rcB, .slice wB y.write.length wcB, .slice fB y.faults.length fcB]) (by omega) (by have := bx3.size; omega))
     refine hK.out _ _ (fun _ => bx4) ?_
     clear hK K
     refine ax.done (by decide +kernel) ?_
     go_wp2_with fail
     go_meet
     exact ⟨wr.heap.size, (wr.heap.size + 1), rfl, rfl, Lib.hid Q6, Lib.hid Q7, bx4⟩
    ·go_simp
     rw [← HX1.out]
     have b1 : Below wr.heap.size wr X1.drew := by rw [HX1.out]; exact ((Below.refl _ _).alloc (Nat.le_refl _) _).drew
     refine hK.out _ _ (fun _ => b1) ?_
     clear hK K
     refine ax.one 8 rfl (by decide +kernel) (by rfl) (fun K hK => ?_)
     go_simp
     rw [← HX2.out, HY1.out]
     refine hK.out _ _ (fun _ => HYW.out.drew) ?_
     clear hK K
     refine ax.one 10 rfl (by decide +kernel) (by rfl) (fun K hK => ?_)
     obtain ⟨GA, GB⟩ := HYX.out X2.drew (Below.refl _ _).drew
     have bx2 : Below wr.heap.size wr X2.drew := HYW.out.drew
     have hsz2 : X2.drew.heap.size = wr.heap.size + 2 := HY2.out
     generalize X2.drew = Z2 at GA GB bx2 hsz2 ⊢
     refine wp_store_row 54 (.tmp 6) (.tmp 22) rfl (wr.heap.size + 1) #[.string x.name, .int .i64 x.kind, .int .u16 (x.mem : Nat), .slice rA x.read.length rcA, .slice wA x.write.length wcA, .slice fA x.faults.length fcA] rfl rfl 54 #[.string ⟨#[]⟩, .int .i64 0, .int .u16 0, .slice none 0 0, .slice none 0 0, .slice none 0 0] GB Cw rfl (by simp [Value.oneCell']) ?_
     have G6 := setRow_heap Z2 (wr.heap.size + 1) #[.string ⟨#[]⟩, .int .i64 0, .int .u16 0, .slice none 0 0, .slice none 0 0, .slice none 0 0] #[.string x.name, .int .i64 x.kind, .int .u16 (x.mem : Nat), .slice rA x.read.length rcA, .slice wA x.write.length wcA, .slice fA x.faults.length fcA] _ _ GB
     have G7 := (setRow_other Z2 (wr.heap.size + 1) wr.heap.size #[.string x.name, .int .i64 x.kind, .int .u16 (x.mem : Nat), .slice rA x.read.length rcA, .slice wA x.write.length wcA, .slice fA x.faults.length fcA] (by omega)).trans GA
     have bx3 := bx2.trans (below_grown (Ab Z2 (wr.heap.size + 1) #[.string x.name, .int .i64 x.kind, .int .u16 (x.mem : Nat), .slice rA x.read.length rcA, .slice wA x.write.length wcA, .slice fA x.faults.length fcA]) (by omega) (by have := bx2.size; omega))
     refine hK.out _ _ (fun _ => bx3) ?_
     clear hK K
     refine ax.one 11 rfl (by decide +kernel) (by rfl) (fun K hK => ?_)
     refine wp_store_row 54 (.tmp 7) (.tmp 26) rfl wr.heap.size #[.string y.name, .int .i64 y.kind, .int .u16 (y.mem : Nat), .slice rB y.read.length rcB, .slice wB y.write.length wcB, .slice fB y.faults.length fcB] rfl rfl 54 #[.string ⟨#[]⟩, .int .i64 0, .int .u16 0, .slice none 0 0, .slice none 0 0, .slice none 0 0] G7 Cw rfl (by simp [Value.oneCell']) ?_
     have Q7 := setRow_heap _ wr.heap.size #[.string ⟨#[]⟩, .int .i64 0, .int .u16 0, .slice none 0 0, .slice none 0 0, .slice none 0 0] #[.string y.name, .int .i64 y.kind, .int .u16 (y.mem : Nat), .slice rB y.read.length rcB, .slice wB y.write.length wcB, .slice fB y.faults.length fcB] _ _ G7
     have Q6 := (setRow_other (Z2.setRow (wr.heap.size + 1) #[.string x.name, .int .i64 x.kind, .int .u16 (x.mem : Nat), .slice rA x.read.length rcA, .slice wA x.write.length wcA, .slice fA x.faults.length fcA]) wr.heap.size (wr.heap.size + 1) #[.string y.name, .int .i64 y.kind, .int .u16 (y.mem : Nat), .slice rB y.read.length rcB, .slice wB y.write.length wcB, .slice fB y.faults.length fcB] (by omega)).trans G6
     have bx4 := bx3.trans (below_grown (Ab (Z2.setRow (wr.heap.size + 1) #[.string x.name, .int .i64 x.kind, .int .u16 (x.mem : Nat), .slice rA x.read.length rcA, .slice wA x.write.length wcA, .slice fA x.faults.length fcA]) wr.heap.size #[.string y.name, .int .i64 y.kind, .int .u16 (y.mem : Nat), .slice rB y.read.length rcB, .slice wB y.write.length wcB, .slice fB y.faults.length fcB]) (by omega) (by have := bx3.size; omega))
     refine hK.out _ _ (fun _ => bx4) ?_
     clear hK K
     refine ax.done (by decide +kernel) ?_
     go_wp2_with fail
     go_meet
     exact ⟨(wr.heap.size + 1), wr.heap.size, rfl, rfl, Lib.hid Q6, Lib.hid Q7, bx4⟩
   case rest =>
   obtain ⟨B6, B7, rfl, rfl, HG6, HG7, hb7⟩ := hcut
   have hbw := hbr.trans (hb7.mono hsz)
   have hs7 := hb7.size
   obtain ⟨_, _, _, _, _, _, ea, a1, a2, a3⟩ := HPA.out.keep (ai hb7 (fun g hg => by have := hS g hg; omega))
   obtain ⟨_, _, _, _, _, _, eb, b1, b2, b3⟩ := HPB.out.keep (ai hb7 (fun g hg => by have := hT g hg; omega))
   cases ea
   cases eb
   obtain ⟨l1, l2, l3⟩ := HLX.out
   have hbx := fun (X : World) (hX : Below wc.heap.size wc X) => And.intro (eD ((hX.block _ (lt_of_block HG6.out)).trans HG6.out)) (eD ((hX.block _ (lt_of_block HG7.out)).trans HG7.out))
   obtain ⟨z0, hz10⟩ : ∃ z, z = decide (x.name = y.name) := ⟨_, rfl⟩
   obtain ⟨z1, hz11⟩ : ∃ z, z = decide (x.kind = y.kind) := ⟨_, rfl⟩
   obtain ⟨z2, hz12⟩ : ∃ z, z = decide (x.mem = y.mem) := ⟨_, rfl⟩
   obtain ⟨z3, hz13⟩ : ∃ z, z = decide (x.read = y.read) := ⟨_, rfl⟩
   obtain ⟨z4, hz14⟩ : ∃ z, z = decide (x.write = y.write) := ⟨_, rfl⟩
   obtain ⟨z5, hz15⟩ : ∃ z, z = decide (x.faults = y.faults) := ⟨_, rfl⟩
   have E : Hid (cfgB x y = (z0 && (z1 && (z2 && (z3 && (z4 && z5)))))) := Lib.hid (by unfold cfgB; rw [← hz10, ← hz11, ← hz12, ← hz13, ← hz14, ← hz15])
   have e0 : (x.name.toList == y.name.toList) = z0 := by rw [hz10]; exact ba_dec _ _
   have e9 : (x.name == y.name) = z0 := by rw [hz10]; exact ba_dec2 _ _
   have e1 : (x.kind == y.kind) = z1 := by rw [hz11]; exact int_dec _ _
   have e2 : ((x.mem : Int) == (y.mem : Int)) = z2 := by rw [hz12]; exact nat_dec _ _
   have e3 : (x.kind != y.kind) = !z1 := congrArg (!·) e1
   have e4 : ((x.mem : Int) != (y.mem : Int)) = !z2 := congrArg (!·) e2
   have hS7 : ∀ g, S g → g < wc.heap.size := fun g hg => by have := hS g hg; omega
   have hT7 : ∀ g, T g → g < wc.heap.size := fun g hg => by have := hT g hg; omega
   have HR := Lib.hid (fun (X : World) (hX : Below wc.heap.size wc X) => sets_ref x.read y.read rA rB rcA rcB X S T (a1.keep (ai hX hS7)) (b1.keep (ai hX hT7)) (by omega))
   rw [← hz13] at HR
   have HV := Lib.hid (fun (X : World) (hX : Below wc.heap.size wc X) => sets_ref x.write y.write wA wB wcA wcB X S T (a2.keep (ai hX hS7)) (b2.keep (ai hX hT7)) (by omega))
   rw [← hz14] at HV
   have HF := Lib.hid (fun (X : World) (hX : Below wc.heap.size wc X) => flts_ref x.faults y.faults fA fB fcA fcB X S T (a3.keep (ai hX hS7)) (b3.keep (ai hX hT7)) (by omega))
   rw [← hz15] at HF
   have HBX := Lib.hid hbx
   have HBW := Lib.hid (fun (X : World) (hX : Below wc.heap.size wc X) => hbw.trans (hX.mono hbw.size))
   clear hbx hz10 hz11 hz12 hz13 hz14 hz15 a1 a2 a3 b1 b2 b3 hbw
   have bx : Below wc.heap.size wc wc := Below.refl _ _
   obtain ⟨⟨c0, c1, c2, c3, c4, c5⟩, d0, d1, d2, d3, d4, d5⟩ := HBX.out wc bx
   rcases ways6 z0 z1 z2 z3 z4 z5 with rfl | ⟨rfl, rfl⟩ | ⟨rfl, rfl, rfl⟩ | ⟨rfl, rfl, rfl, rfl⟩ | ⟨rfl, rfl, rfl, rfl, rfl⟩ | ⟨rfl, rfl, rfl, rfl, rfl, rfl⟩ | ⟨rfl, rfl, rfl, rfl, rfl, rfl⟩
   case inr.inr.inr.inr.inr.inr =>
    have HS1 := Lib.hid (fun j (h1 : j < a.length) (h2 : j < b.length) (hj : j < k + 1) => show cfgB a[j] b[j] = true from by
     by_cases h9 : j = k
     ·subst h9; rw [← HXX.out, ← HYY.out]; exact E.out
     ·exact hs.out j h1 h2 (by omega))
    go_wp2_with (first | ((with_reducible refine (HR.out _ bx).mono ?_); rintro e W5 ⟨rfl, hb5⟩; have bx := bx.trans (hb5.mono bx.size); obtain ⟨⟨c0, c1, c2, c3, c4, c5⟩, d0, d1, d2, d3, d4, d5⟩ := HBX.out W5 bx) | ((with_reducible refine (HV.out _ bx).mono ?_); rintro e W5 ⟨rfl, hb5⟩; have bx := bx.trans (hb5.mono bx.size); obtain ⟨⟨c0, c1, c2, c3, c4, c5⟩, d0, d1, d2, d3, d4, d5⟩ := HBX.out W5 bx) | ((with_reducible refine (HF.out _ bx).mono ?_); rintro e W5 ⟨rfl, hb5⟩; have bx := bx.trans (hb5.mono bx.size); obtain ⟨⟨c0, c1, c2, c3, c4, c5⟩, d0, d1, d2, d3, d4, d5⟩ := HBX.out W5 bx))
    go_wp2
    go_roundw
    case rel => exact ⟨k + 1, by omega, by go_num, HS1, HBW.out _ bx⟩
    case measure => simp [intOf]; omega
   all_goals
    have HE := Lib.hid (allB_false (f := cfgB) hlt hlb (by rw [← HXX.out, ← HYY.out]; exact E.out))
    go_wp2_with (first | ((with_reducible refine (HR.out _ bx).mono ?_); rintro e W5 ⟨rfl, hb5⟩; have bx := bx.trans (hb5.mono bx.size); obtain ⟨⟨c0, c1, c2, c3, c4, c5⟩, d0, d1, d2, d3, d4, d5⟩ := HBX.out W5 bx) | ((with_reducible refine (HV.out _ bx).mono ?_); rintro e W5 ⟨rfl, hb5⟩; have bx := bx.trans (hb5.mono bx.size); obtain ⟨⟨c0, c1, c2, c3, c4, c5⟩, d0, d1, d2, d3, d4, d5⟩ := HBX.out W5 bx) | ((with_reducible refine (HF.out _ bx).mono ?_); rintro e W5 ⟨rfl, hb5⟩; have bx := bx.trans (hb5.mono bx.size); obtain ⟨⟨c0, c1, c2, c3, c4, c5⟩, d0, d1, d2, d3, d4, d5⟩ := HBX.out W5 bx))
    (try go_wp2)
    go_ret
    exact ⟨by rw [HE.out]; rfl, HBW.out _ bx⟩
  ·obtain rfl : k = n := by omega
   have hkI : ¬ (k : Int) < (k : Int) := by omega
   have HE := Lib.hid (allB_true (f := cfgB) (HN.out.symm.trans HM.out) (fun j h1 h2 => hs.out j h1 h2 (by rw [HN.out]; exact h1)))
   clear hs
   go_wp2
   go_ret
   exact ⟨by rw [HE.out]; rfl, hbr⟩
 ·have HE := Lib.hid (allB_len (f := cfgB) (fun e => hnm (by rw [HN.out, HM.out, e])))
  have hnI := natNeq2 hnm
  clear hnm
  go_wp2
  go_ret
  exact ⟨by rw [HE.out]; rfl, Below.refl _ _⟩
theorem depB_no {a b : DDep} (h : (decide (a.servers = b.servers) && (decide (a.wit = b.wit) && (decide (a.sites.length = b.sites.length) && (decide (a.chain.length = b.chain.length) && (decide (a.clients.length = b.clients.length) && allB cfgB a.configs b.configs))))) = false) : depB a b = false := by
 cases hd : depB a b
 ·rfl
 ·exfalso
  unfold depB at hd
  simp only [Bool.and_eq_true, decide_eq_true_eq] at hd
  obtain ⟨h1, h2, h3, h4, h5, h6⟩ := hd
  have h7 : a.clients.length = b.clients.length := by
   by_cases e : a.clients.length = b.clients.length
   ·exact e
   ·rw [allB_len e] at h6; cases h6
  rw [h1, h2, h3, h4, h5, h7] at h
  simp at h
theorem depB_sites {a b : DDep} (h : ¬ a.sites = b.sites) : depB a b = false := by unfold depB; rw [decide_eq_false h]; simp
theorem depB_chain {a b : DDep} (h : ¬ a.chain = b.chain) : depB a b = false := by unfold depB; rw [decide_eq_false h]; simp
theorem depB_cli {a b : DDep} (h : allB cliB a.clients b.clients = false) : depB a b = false := by unfold depB; rw [h]; simp
theorem depB_yes {a b : DDep} (h1 : true = decide (a.servers = b.servers)) (h2 : true = decide (a.wit = b.wit)) (h3 : a.sites = b.sites) (h4 : true = allB cfgB a.configs b.configs) (h5 : a.chain = b.chain) (h6 : allB cliB a.clients b.clients = true) : depB a b = true := by
 unfold depB; rw [← h1, ← h2, ← h4, h6, h3, h5]; simp
theorem equal_ref (a b : DDep) (v u : Value) (w : World) (S T : Nat → Prop) (hx : DDepAt w S a v) (hy : DDepAt w T b u) (hS : ∀ g, S g → g < w.heap.size) (hT : ∀ g, T g → g < w.heap.size) (hl : DLim a) (hm : ∀ x ∈ a.clients, x.faults.length ≤ 9223372036854775807) (hlb : DCnt b) :
  Calls prog 22 #[v, u] w fun e w' => e = .returned (.bool (depB a b)) ∧ Below w.heap.size w w' := by
 obtain ⟨sa, sca, ta, tca, ca, cca, ha, hca, ka, kca, rfl, a1, a2, a3, a4, a5⟩ := hx
 obtain ⟨sb, scb, tb, tcb, cb, ccb, hb, hcb, kb, kcb, rfl, b1, b2, b3, b4, b5⟩ := hy
 obtain ⟨n1, hn1⟩ : ∃ n, n = a.sites.length := ⟨_, rfl⟩
 obtain ⟨m1, hm1⟩ : ∃ n, n = b.sites.length := ⟨_, rfl⟩
 obtain ⟨n2, hn2⟩ : ∃ n, n = a.chain.length := ⟨_, rfl⟩
 obtain ⟨m2, hm2⟩ : ∃ n, n = b.chain.length := ⟨_, rfl⟩
 obtain ⟨n3, hn3⟩ : ∃ n, n = a.clients.length := ⟨_, rfl⟩
 obtain ⟨m3, hm3⟩ : ∃ n, n = b.clients.length := ⟨_, rfl⟩
 have hl1 : n1 ≤ 1000000 ∧ n2 ≤ 1000000 ∧ n3 ≤ 1000000 := by rw [hn1, hn2, hn3]; exact ⟨hl.2.1, hl.2.2.2.1, hl.2.2.2.2.1⟩
 obtain ⟨q1, q2, q3⟩ := hl1
 have hb1 : m1 ≤ 9223372036854775807 ∧ m2 ≤ 9223372036854775807 ∧ m3 ≤ 9223372036854775807 := by rw [hm1, hm2, hm3]; exact ⟨hlb.2.1, hlb.2.2.2.1, hlb.2.2.2.2⟩
 obtain ⟨q4, q5, q6⟩ := hb1
 have hcbl := hlb.2.2.1
 obtain ⟨W1, W2, hW1, hW2, hz1, hz2, hbw, hbx⟩ := two_box w #[.slice sa a.servers.length sca, .slice ta n1 tca, .int .u16 (a.wit : Nat), .slice ca a.configs.length cca, .slice ha n2 hca, .slice ka n3 kca] #[.slice sb b.servers.length scb, .slice tb m1 tcb, .int .u16 (b.wit : Nat), .slice cb b.configs.length ccb, .slice hb m2 hcb, .slice kb m3 kcb] 48 48
 obtain ⟨z0, hz10⟩ : ∃ z, z = decide (a.servers = b.servers) := ⟨_, rfl⟩
 obtain ⟨z1, hz11⟩ : ∃ z, z = decide (a.wit = b.wit) := ⟨_, rfl⟩
 obtain ⟨z2, hz12⟩ : ∃ z, z = decide (n1 = m1) := ⟨_, rfl⟩
 obtain ⟨z3, hz13⟩ : ∃ z, z = decide (n2 = m2) := ⟨_, rfl⟩
 obtain ⟨z4, hz14⟩ : ∃ z, z = decide (n3 = m3) := ⟨_, rfl⟩
 obtain ⟨z5, hz15⟩ : ∃ z, z = allB cfgB a.configs b.configs := ⟨_, rfl⟩
 have E : Hid ((z0 && (z1 && (z2 && (z3 && (z4 && z5))))) = false → depB a b = false) := Lib.hid (fun h => depB_no (by rw [← hz10, ← hz11, ← hn1, ← hm1, ← hz12, ← hn2, ← hm2, ← hz13, ← hn3, ← hm3, ← hz14, ← hz15]; exact h))
 have e1 : ((a.wit : Int) == (b.wit : Int)) = z1 := by rw [hz11]; exact nat_dec _ _
 have e2 : ((n1 : Int) == (m1 : Int)) = z2 := by rw [hz12]; exact nat_dec _ _
 have e3 : ((n2 : Int) == (m2 : Int)) = z3 := by rw [hz13]; exact nat_dec _ _
 have e4 : ((n3 : Int) == (m3 : Int)) = z4 := by rw [hz14]; exact nat_dec _ _
 have e5 : ((a.wit : Int) != (b.wit : Int)) = !z1 := congrArg (!·) e1
 have e6 : ((n1 : Int) != (m1 : Int)) = !z2 := congrArg (!·) e2
 have e7 : ((n2 : Int) != (m2 : Int)) = !z3 := congrArg (!·) e3
 have e8 : ((n3 : Int) != (m3 : Int)) = !z4 := congrArg (!·) e4
 have HSS := Lib.hid (fun (X : World) (hX : Below w.heap.size w X) => strs_ref a.servers b.servers sa sb sca scb X S T (a1.keep (ai hX hS)) (b1.keep (ai hX hT)) (by have := hl.1; omega))
 rw [← hz10] at HSS
 have HCC := Lib.hid (fun (X : World) (hX : Below w.heap.size w X) => same_ref a.configs b.configs ca cb cca ccb X S T (a3.keep (ai hX hS) (fun _ _ h => h.keep (ai hX hS))) (b3.keep (ai hX hT) (fun _ _ h => h.keep (ai hX hT))) (fun g hg => Nat.lt_of_lt_of_le (hS g hg) hX.size) (fun g hg => Nat.lt_of_lt_of_le (hT g hg) hX.size) hl.2.2.1 hcbl hl.2.2.2.2.2)
 rw [← hz15] at HCC
 have H2S := Lib.hid (fun (X : World) (hX : Below w.heap.size w X) => And.intro (a2.keep (ai hX hS)) (b2.keep (ai hX hT)))
 have H4S := Lib.hid (fun (X : World) (hX : Below w.heap.size w X) => And.intro (a4.keep (ai hX hS)) (b4.keep (ai hX hT)))
 have H5S := Lib.hid (fun (X : World) (hX : Below w.heap.size w X) => And.intro (show aL (DCliAt X S) X S 3 ka a.clients from a5.keep (ai hX hS) (fun _ _ h => h.keep (ai hX hS))) (show aL (DCliAt X T) X T 3 kb b.clients from b5.keep (ai hX hT) (fun _ _ h => h.keep (ai hX hT))))
 have HBX := Lib.hid (fun (X : World) (hX : Below W2.heap.size W2 X) => And.intro (eD (hbx X hX).1) (eD (hbx X hX).2))
 have HBW := Lib.hid (fun (X : World) (hX : Below W2.heap.size W2 X) => hbw.trans (hX.mono hbw.size))
 have H1 := Lib.hid hW1
 have H2 := Lib.hid hW2
 have HZ2 := Lib.hid hz2
 have HN1 := Lib.hid hn1
 have HM1 := Lib.hid hm1
 have HN2 := Lib.hid hn2
 have HM2 := Lib.hid hm2
 have HN3 := Lib.hid hn3
 have HM3 := Lib.hid hm3
 have HQ0 := Lib.hid hz10
 have HQ1 := Lib.hid hz11
 have HQ2 := Lib.hid hz12
 have HQ3 := Lib.hid hz13
 have HQ4 := Lib.hid hz14
 have HQ5 := Lib.hid hz15
 have HCM := Lib.hid hm
 rw [← hn1, ← hm1, ← hn2, ← hm2, ← hn3, ← hm3]
 clear hbx hW1 hW2 hz1 hz2 hz10 hz11 hz12 hz13 hz14 hz15 a1 a2 a3 a4 a5 b1 b2 b3 b4 b5 hm hl hlb hcbl hn1 hm1 hn2 hm2 hn3 hm3 hbw
 have bx : Below W2.heap.size W2 W2 := Below.refl _ _
 obtain ⟨⟨c0, c1, c2, c3, c4, c5⟩, d0, d1, d2, d3, d4, d5⟩ := HBX.out W2 bx
 rcases ways6 z0 z1 z2 z3 z4 z5 with rfl | ⟨rfl, rfl⟩ | ⟨rfl, rfl, rfl⟩ | ⟨rfl, rfl, rfl, rfl⟩ | ⟨rfl, rfl, rfl, rfl, rfl⟩ | ⟨rfl, rfl, rfl, rfl, rfl, rfl⟩ | ⟨rfl, rfl, rfl, rfl, rfl, rfl⟩
 case inr.inr.inr.inr.inr.inr =>
  go_enter func22, ntmps22
  go_upto_region 1 with fail
  rw [← H1.out, ← H2.out]
  go_wp2_with (first | ((with_reducible refine (HSS.out _ (HBW.out _ bx)).mono ?_); rintro e W5 ⟨rfl, hb5⟩; have bx := bx.trans (hb5.mono bx.size); obtain ⟨⟨c0, c1, c2, c3, c4, c5⟩, d0, d1, d2, d3, d4, d5⟩ := HBX.out W5 bx) | ((with_reducible refine (HCC.out _ (HBW.out _ bx)).mono ?_); rintro e W5 ⟨rfl, hb5⟩; have bx := bx.trans (hb5.mono bx.size); obtain ⟨⟨c0, c1, c2, c3, c4, c5⟩, d0, d1, d2, d3, d4, d5⟩ := HBX.out W5 bx))
  obtain rfl : n1 = m1 := of_decide_eq_true HQ2.out.symm
  obtain rfl : n2 = m2 := of_decide_eq_true HQ3.out.symm
  obtain rfl : n3 = m3 := of_decide_eq_true HQ4.out.symm
  go_wp2
  go_loopw [5] (fun x wr => ∃ k : Nat, k ≤ n1 ∧ x = .int .i64 k ∧ Hid (∀ j, j < k → a.sites[j]? = b.sites[j]?) ∧ Below W2.heap.size W2 wr) (fun x _ => n1 - (intOf x).toNat)
  case atStart => exact ⟨0, Nat.zero_le _, rfl, Lib.hid (fun j h => absurd h (by omega)), bx⟩
  case round =>
  obtain ⟨k, hk, rfl, hs, bx⟩ := hrel
  obtain ⟨⟨c0, c1, c2, c3, c4, c5⟩, d0, d1, d2, d3, d4, d5⟩ := HBX.out wr bx
  by_cases hkn : k < n1
  ·have hlt : k < a.sites.length := by rw [← HN1.out]; exact hkn
   have hlb : k < b.sites.length := by rw [← HM1.out]; exact hkn
   obtain ⟨g1, o1, rfl, -, p1, p2⟩ := two_cell (H2S.out wr (HBW.out wr bx)).1 hlt
   obtain ⟨g2, o2, rfl, -, r1, r2⟩ := two_cell (H2S.out wr (HBW.out wr bx)).2 hlb
   have hg1 : g1 < wr.heap.size := World.block_lt_of_cell? wr _ p1
   have hg2 : g2 < wr.heap.size := World.block_lt_of_cell? wr _ r1
   obtain ⟨x1, hx1⟩ : ∃ x1, x1 = a.sites[k].1 := ⟨_, rfl⟩
   obtain ⟨x2, hx2⟩ : ∃ x2, x2 = a.sites[k].2 := ⟨_, rfl⟩
   obtain ⟨y1, hy1⟩ : ∃ y1, y1 = b.sites[k].1 := ⟨_, rfl⟩
   obtain ⟨y2, hy2⟩ : ∃ y2, y2 = b.sites[k].2 := ⟨_, rfl⟩
   rw [← hx1] at p1; rw [← hx2] at p2; rw [← hy1] at r1; rw [← hy2] at r2
   have HX1 := Lib.hid hx1
   have HX2 := Lib.hid hx2
   have HY1 := Lib.hid hy1
   have HY2 := Lib.hid hy2
   clear hx1 hx2 hy1 hy2
   have hkI : (k : Int) < (n1 : Int) := by omega
   have hk0 : (0 : Int) ≤ (k : Int) := by omega
   by_cases h1 : x1 = y1
   ·subst h1
    by_cases h2 : x2 = y2
    ·subst h2
     go_wp2_with go_quiet (fail)
     go_wp2
     go_roundw
     case rel => exact ⟨k + 1, by omega, by go_num, Lib.hid (same_step hlt hlb (Prod.ext (HX1.out.symm.trans HY1.out) (HX2.out.symm.trans HY2.out)) hs.out), by first | exact bx | exact below_drewN bx _⟩
     case measure => simp [intOf]; omega
    ·have HE := Lib.hid (depB_sites (same_not hlt hlb (fun e => h2 (by rw [HX2.out, HY2.out, e]))))
     have e2 := nat_ne h2
     clear h2
     go_wp2_with go_quiet (fail)
     go_wp2
     go_ret
     exact ⟨by rw [HE.out]; rfl, by first | exact HBW.out _ bx | exact HBW.out _ (below_drewN bx _)⟩
   ·have HE := Lib.hid (depB_sites (same_not hlt hlb (fun e => h1 (by rw [HX1.out, HY1.out, e]))))
    have e1 := ba_ne h1
    clear h1
    go_wp2_with go_quiet (fail)
    go_wp2
    go_ret
    exact ⟨by rw [HE.out]; rfl, by first | exact HBW.out _ bx | exact HBW.out _ (below_drewN bx _)⟩
  ·obtain rfl : k = n1 := by omega
   have hkI : ¬ (k : Int) < (k : Int) := by omega
   have HSI := Lib.hid (same_all HN1.out.symm HM1.out.symm hs.out)
   clear hs
   go_wp2
   go_loopw [6] (fun x wr => ∃ j : Nat, j ≤ n2 ∧ x = .int .i64 j ∧ Hid (∀ i, i < j → a.chain[i]? = b.chain[i]?) ∧ Below W2.heap.size W2 wr) (fun x _ => n2 - (intOf x).toNat)
   case atStart => exact ⟨0, Nat.zero_le _, rfl, Lib.hid (fun j h => absurd h (by omega)), bx⟩
   case round =>
   obtain ⟨j, hj, rfl, hs, bx⟩ := hrel
   obtain ⟨⟨c0, c1, c2, c3, c4, c5⟩, d0, d1, d2, d3, d4, d5⟩ := HBX.out wr bx
   by_cases hjn : j < n2
   ·have hlt : j < a.chain.length := by rw [← HN2.out]; exact hjn
    have hlb : j < b.chain.length := by rw [← HM2.out]; exact hjn
    obtain ⟨g1, o1, rfl, -, p1⟩ := one_cell (H4S.out wr (HBW.out wr bx)).1 hlt
    obtain ⟨g2, o2, rfl, -, r1⟩ := one_cell (H4S.out wr (HBW.out wr bx)).2 hlb
    have hg1 : g1 < wr.heap.size := World.block_lt_of_cell? wr _ p1
    have hg2 : g2 < wr.heap.size := World.block_lt_of_cell? wr _ r1
    obtain ⟨x1, hx1⟩ : ∃ x1, x1 = a.chain[j] := ⟨_, rfl⟩
    obtain ⟨y1, hy1⟩ : ∃ y1, y1 = b.chain[j] := ⟨_, rfl⟩
    rw [← hx1] at p1; rw [← hy1] at r1
    have HX1 := Lib.hid hx1
    have HY1 := Lib.hid hy1
    clear hx1 hy1
    have hkI : (j : Int) < (n2 : Int) := by omega
    have hk0 : (0 : Int) ≤ (j : Int) := by omega
    by_cases h1 : x1 = y1
    ·subst h1
     go_wp2_with go_quiet (fail)
     go_wp2
     go_roundw
     case rel => exact ⟨j + 1, by omega, by go_num, Lib.hid (same_step hlt hlb (HX1.out.symm.trans HY1.out) hs.out), by first | exact bx | exact below_drewN bx _⟩
     case measure => simp [intOf]; omega
    ·have HE := Lib.hid (depB_chain (same_not hlt hlb (fun e => h1 (by rw [HX1.out, HY1.out, e]))))
     have e1 := int_ne h1
     clear h1
     go_wp2_with go_quiet (fail)
     go_wp2
     go_ret
     exact ⟨by rw [HE.out]; rfl, by first | exact HBW.out _ bx | exact HBW.out _ (below_drewN bx _)⟩
   ·obtain rfl : j = n2 := by omega
    have hkI : ¬ (j : Int) < (j : Int) := by omega
    have HCH := Lib.hid (same_all HN2.out.symm HM2.out.symm hs.out)
    clear hs
    go_wp2
    go_loopw [7] (fun x wr => ∃ k : Nat, k ≤ n3 ∧ x = .int .i64 k ∧ Hid (∀ i (h1 : i < a.clients.length) (h2 : i < b.clients.length), i < k → cliB a.clients[i] b.clients[i] = true) ∧ Below W2.heap.size W2 wr) (fun x _ => n3 - (intOf x).toNat)
    case atStart => exact ⟨0, Nat.zero_le _, rfl, Lib.hid (fun j _ _ h => absurd h (by omega)), bx⟩
    case round =>
    obtain ⟨k, hk, rfl, hs, bx⟩ := hrel
    obtain ⟨⟨c0, c1, c2, c3, c4, c5⟩, d0, d1, d2, d3, d4, d5⟩ := HBX.out wr bx
    by_cases hkn : k < n3
    ·have hlt : k < a.clients.length := by rw [← HN3.out]; exact hkn
     have hlb : k < b.clients.length := by rw [← HM3.out]; exact hkn
     have hsz := bx.size
     have hz2 := HZ2.out
     obtain ⟨gA, oA, fA, fcA, rfl, hSA, hpA, kA0, kA1, kA2⟩ := cli_at (H5S.out wr (HBW.out wr bx)).1 hlt
     obtain ⟨gB, oB, fB, fcB, rfl, hSB, hpB, kB0, kB1, kB2⟩ := cli_at (H5S.out wr (HBW.out wr bx)).2 hlb
     obtain ⟨x, hx⟩ : ∃ x, x = a.clients[k] := ⟨_, rfl⟩
     obtain ⟨y, hy⟩ : ∃ y, y = b.clients[k] := ⟨_, rfl⟩
     rw [← hx] at hpA kA0 kA1 kA2
     rw [← hy] at hpB kB0 kB1 kB2
     have HXX := Lib.hid hx
     have HYY := Lib.hid hy
     have HLX := Lib.hid (HCM.out x (hx ▸ List.getElem_mem hlt))
     have hgA := World.block_lt_of_cell? wr _ kA0
     have hgB := World.block_lt_of_cell? wr _ kB0
     have HPA := Lib.hid hpA
     have HPB := Lib.hid hpB
     have hkI : (k : Int) < (n3 : Int) := by omega
     have hk0 : (0 : Int) ≤ (k : Int) := by omega
     clear hx hy hpA hpB
     go_upto_region 16 with fail
     go_cut [8, 9] (fun s6 s7 wx => ∃ B6 B7, s6 = .pointer (some ⟨B6, 0, none⟩) ∧ s7 = .pointer (some ⟨B7, 0, none⟩) ∧ Hid (wx.heap[B6]? = some (.cells #[.string x.name, .bool x.plain, .slice fA x.faults.length fcA] 93 (0, 0))) ∧ Hid (wx.heap[B7]? = some (.cells #[.string y.name, .bool y.plain, .slice fB y.faults.length fcB] 93 (0, 0))) ∧ Below wr.heap.size wr wx)
     case first =>
      obtain ⟨X1, X2, hX1, hX2, hy1, hy2, hyw, hyx⟩ := two_box wr #[.string ⟨#[]⟩, .bool false, .slice none 0 0] #[.string ⟨#[]⟩, .bool false, .slice none 0 0] 93 93
      have HX1 := Lib.hid hX1
      have HX2 := Lib.hid hX2
      have HYW := Lib.hid hyw
      have HY1 := Lib.hid hy1
      have HY2 := Lib.hid hy2
      have HYX := Lib.hid hyx
      clear hX1 hX2 hy1 hy2 hyw hyx
      refine ax.start (fun W' => Below wr.heap.size wr W') [] [0, 1, 2, 3, 4, 5, 6, 7, 8, 9] (by kernel_rfl) (Below.refl _ _).drew (fun bx => ?_)
      repeat
       refine ax.take (v := ?_) rfl (by decide +kernel) (by rfl) (fun _ _ _ h => h) bx ?_ ?_
       rotate_left
       focus
        intro w9 h9
        have kA0z := (h9.cell (p := ⟨gA, oA + k * 3, none⟩) hgA).trans kA0
        have kA1z := (h9.cell (p := ⟨gA, oA + k * 3 + 1, none⟩) hgA).trans kA1
        have kA2z := (h9.cell (p := ⟨gA, oA + k * 3 + 2, none⟩) hgA).trans kA2
        have kB0z := (h9.cell (p := ⟨gB, oB + k * 3, none⟩) hgB).trans kB0
        have kB1z := (h9.cell (p := ⟨gB, oB + k * 3 + 1, none⟩) hgB).trans kB1
        have kB2z := (h9.cell (p := ⟨gB, oB + k * 3 + 2, none⟩) hgB).trans kB2
        have c5z := (h9.cell (p := ⟨w.heap.size, 5, none⟩) (by show w.heap.size < _; omega)).trans c5
        have d5z := (h9.cell (p := ⟨w.heap.size + 1, 5, none⟩) (by show w.heap.size + 1 < _; omega)).trans d5
        go_simp
        (try with_reducible rfl)
        done
       simp only [Act.put, List.getElem_toArray, List.getElem_cons_succ, List.getElem_cons_zero, List.setIfInBounds_toArray, List.set_cons_zero, List.set_cons_succ]
      refine ax.two 10 11 rfl rfl (by decide +kernel) (by rfl) (by rfl) (fun K hK => ?_) (fun K hK => ?_)
      ·go_simp
       rw [← HX1.out]
       have b1 : Below wr.heap.size wr X1.drew := by rw [HX1.out]; exact ((Below.refl _ _).alloc (Nat.le_refl _) _).drew
       refine hK.out _ _ (fun _ => b1) ?_
       clear hK K
       refine ax.one 11 rfl (by decide +kernel) (by rfl) (fun K hK => ?_)
       go_simp
       rw [← HX2.out, HY1.out]
       refine hK.out _ _ (fun _ => HYW.out.drew) ?_
       clear hK K
       refine ax.one 12 rfl (by decide +kernel) (by rfl) (fun K hK => ?_)
       obtain ⟨GA, GB⟩ := HYX.out X2.drew (Below.refl _ _).drew
       have bx2 : Below wr.heap.size wr X2.drew := HYW.out.drew
       have hsz2 : X2.drew.heap.size = wr.heap.size + 2 := HY2.out
       generalize X2.drew = Z2 at GA GB bx2 hsz2 ⊢
       refine wp_store_row 93 (.tmp 8) (.tmp 105) rfl wr.heap.size #[.string x.name, .bool x.plain, .slice fA x.faults.length fcA] rfl rfl 93 #[.string ⟨#[]⟩, .bool false, .slice none 0 0] GA size_client rfl (by simp [Value.oneCell']) ?_
       have G6 := setRow_heap Z2 wr.heap.size #[.string ⟨#[]⟩, .bool false, .slice none 0 0] #[.string x.name, .bool x.plain, .slice fA x.faults.length fcA] _ _ GA
       have G7 := (setRow_other Z2 wr.heap.size (wr.heap.size + 1) #[.string x.name, .bool x.plain, .slice fA x.faults.length fcA] (by omega)).trans GB
       have bx3 := bx2.trans (below_grown (Ab Z2 wr.heap.size #[.string x.name, .bool x.plain, .slice fA x.faults.length fcA]) (by omega) (by have := bx2.size; omega))
       refine hK.out _ _ (fun _ => bx3) ?_
       clear hK K
       refine ax.one 13 rfl (by decide +kernel) (by rfl) (fun K hK => ?_)
       refine wp_store_row 93 (.tmp 9) (.tmp 110) rfl (wr.heap.size + 1) #[.string y.name, .bool y.plain, .slice fB y.faults.length fcB] rfl rfl 93 #[.string ⟨#[]⟩, .bool false, .slice none 0 0] G7 size_client rfl (by simp [Value.oneCell']) ?_
       have Q7 := setRow_heap _ (wr.heap.size + 1) #[.string ⟨#[]⟩, .bool false, .slice none 0 0] #[.string y.name, .bool y.plain, .slice fB y.faults.length fcB] _ _ G7
       have Q6 := (setRow_other (Z2.setRow wr.heap.size #[.string x.name, .bool x.plain, .slice fA x.faults.length fcA]) (wr.heap.size + 1) wr.heap.size #[.string y.name, .bool y.plain, .slice fB y.faults.length fcB] (by omega)).trans G6
       have bx4 := bx3.trans (below_grown (Ab (Z2.setRow wr.heap.size #[.string x.name, .bool x.plain, .slice fA x.faults.length fcA]) (wr.heap.size + 1) #[.string y.name, .bool y.plain, .slice fB y.faults.length fcB]) (by omega) (by have := bx3.size; omega))
       refine hK.out _ _ (fun _ => bx4) ?_
       clear hK K
       refine ax.done (by decide +kernel) ?_
       go_wp2_with fail
       go_meet
       exact ⟨wr.heap.size, (wr.heap.size + 1), rfl, rfl, Lib.hid Q6, Lib.hid Q7, bx4⟩
      ·go_simp
       rw [← HX1.out]
       have b1 : Below wr.heap.size wr X1.drew := by rw [HX1.out]; exact ((Below.refl _ _).alloc (Nat.le_refl _) _).drew
       refine hK.out _ _ (fun _ => b1) ?_
       clear hK K
       refine ax.one 10 rfl (by decide +kernel) (by rfl) (fun K hK => ?_)
       go_simp
       rw [← HX2.out, HY1.out]
       refine hK.out _ _ (fun _ => HYW.out.drew) ?_
       clear hK K
       refine ax.one 12 rfl (by decide +kernel) (by rfl) (fun K hK => ?_)
       obtain ⟨GA, GB⟩ := HYX.out X2.drew (Below.refl _ _).drew
       have bx2 : Below wr.heap.size wr X2.drew := HYW.out.drew
       have hsz2 : X2.drew.heap.size = wr.heap.size + 2 := HY2.out
       generalize X2.drew = Z2 at GA GB bx2 hsz2 ⊢
       refine wp_store_row 93 (.tmp 8) (.tmp 105) rfl (wr.heap.size + 1) #[.string x.name, .bool x.plain, .slice fA x.faults.length fcA] rfl rfl 93 #[.string ⟨#[]⟩, .bool false, .slice none 0 0] GB size_client rfl (by simp [Value.oneCell']) ?_
       have G6 := setRow_heap Z2 (wr.heap.size + 1) #[.string ⟨#[]⟩, .bool false, .slice none 0 0] #[.string x.name, .bool x.plain, .slice fA x.faults.length fcA] _ _ GB
       have G7 := (setRow_other Z2 (wr.heap.size + 1) wr.heap.size #[.string x.name, .bool x.plain, .slice fA x.faults.length fcA] (by omega)).trans GA
       have bx3 := bx2.trans (below_grown (Ab Z2 (wr.heap.size + 1) #[.string x.name, .bool x.plain, .slice fA x.faults.length fcA]) (by omega) (by have := bx2.size; omega))
       refine hK.out _ _ (fun _ => bx3) ?_
       clear hK K
       refine ax.one 13 rfl (by decide +kernel) (by rfl) (fun K hK => ?_)
       refine wp_store_row 93 (.tmp 9) (.tmp 110) rfl wr.heap.size #[.string y.name, .bool y.plain, .slice fB y.faults.length fcB] rfl rfl 93 #[.string ⟨#[]⟩, .bool false, .slice none 0 0] G7 size_client rfl (by simp [Value.oneCell']) ?_
       have Q7 := setRow_heap _ wr.heap.size #[.string ⟨#[]⟩, .bool false, .slice none 0 0] #[.string y.name, .bool y.plain, .slice fB y.faults.length fcB] _ _ G7
       have Q6 := (setRow_other (Z2.setRow (wr.heap.size + 1) #[.string x.name, .bool x.plain, .slice fA x.faults.length fcA]) wr.heap.size (wr.heap.size + 1) #[.string y.name, .bool y.plain, .slice fB y.faults.length fcB] (by omega)).trans G6
       have bx4 := bx3.trans (below_grown (Ab (Z2.setRow (wr.heap.size + 1) #[.string x.name, .bool x.plain, .slice fA x.faults.length fcA]) wr.heap.size #[.string y.name, .bool y.plain, .slice fB y.faults.length fcB]) (by omega) (by have := bx3.size; omega))
       refine hK.out _ _ (fun _ => bx4) ?_
       clear hK K
       refine ax.done (by decide +kernel) ?_
       go_wp2_with fail
       go_meet
       exact ⟨(wr.heap.size + 1), wr.heap.size, rfl, rfl, Lib.hid Q6, Lib.hid Q7, bx4⟩
     case rest =>
     obtain ⟨B6, B7, rfl, rfl, HG6, HG7, hb7⟩ := hcut
     have bx7 := bx.trans (hb7.mono hsz)
     obtain ⟨_, _, ea, a3⟩ := HPA.out.keep (ai hb7 (fun g hg => by have := hS g hg; omega))
     obtain ⟨_, _, eb, b3⟩ := HPB.out.keep (ai hb7 (fun g hg => by have := hT g hg; omega))
     cases ea
     cases eb
     have hs7 := hb7.size
     obtain ⟨y0, hz10⟩ : ∃ z, z = decide (x.name = y.name) := ⟨_, rfl⟩
     obtain ⟨y1, hz11⟩ : ∃ z, z = decide (x.plain = y.plain) := ⟨_, rfl⟩
     obtain ⟨y2, hz12⟩ : ∃ z, z = decide (x.faults = y.faults) := ⟨_, rfl⟩
     have EC : Hid (cliB x y = (y0 && (y1 && y2))) := Lib.hid (by unfold cliB; rw [← hz10, ← hz11, ← hz12])
     have e0 : (x.name.toList == y.name.toList) = y0 := by rw [hz10]; exact ba_dec _ _
     have e9 : (x.name == y.name) = y0 := by rw [hz10]; exact ba_dec2 _ _
     have e1 : (x.plain == y.plain) = y1 := by rw [hz11]; exact bool_dec _ _
     have e2 : (x.plain != y.plain) = !y1 := congrArg (!·) e1
     have HF := Lib.hid (flts_ref x.faults y.faults fA fB fcA fcB wc S T a3 b3 HLX.out)
     rw [← hz12] at HF
     obtain ⟨f0, f1, f2⟩ := three_cells HG6.out
     obtain ⟨h0, h1, h2⟩ := three_cells HG7.out
     have HB7 := Lib.hid bx7
     clear hz10 hz11 hz12 a3 b3 bx7
     rcases ways6 y0 y1 y2 true true true with rfl | ⟨rfl, rfl⟩ | ⟨rfl, rfl, rfl⟩ | ⟨-, -, -, ⟨⟩⟩ | ⟨-, -, -, -, ⟨⟩⟩ | ⟨-, -, -, -, -, ⟨⟩⟩ | ⟨rfl, rfl, rfl, -, -, -⟩
     case inr.inr.inr.inr.inr.inr =>
      have HS1 := Lib.hid (fun i (h1 : i < a.clients.length) (h2 : i < b.clients.length) (hj : i < k + 1) => show cliB a.clients[i] b.clients[i] = true from by
       by_cases h9 : i = k
       ·subst h9; rw [← HXX.out, ← HYY.out]; exact EC.out
       ·exact hs.out i h1 h2 (by omega))
      go_wp2_with fail
      refine HF.out.mono ?_
      rintro e W5 ⟨rfl, hb5⟩
      go_wp2
      go_roundw
      case rel => exact ⟨k + 1, by omega, by go_num, HS1, HB7.out.trans (hb5.mono HB7.out.size)⟩
      case measure => simp [intOf]; omega
     all_goals
      have HE := Lib.hid (depB_cli (allB_false (f := cliB) hlt hlb (by rw [← HXX.out, ← HYY.out]; exact EC.out)))
      have bz : Below wc.heap.size wc wc := Below.refl _ _
      go_wp2_with (first | ((with_reducible refine HF.out.mono ?_); rintro e W5 ⟨rfl, bz⟩))
      (try go_wp2)
      go_ret
      exact ⟨by rw [HE.out]; rfl, HBW.out _ (HB7.out.trans (bz.mono HB7.out.size))⟩
    ·obtain rfl : k = n3 := by omega
     have hkI : ¬ (k : Int) < (k : Int) := by omega
     have HE := Lib.hid (depB_yes HQ0.out HQ1.out HSI.out HQ5.out HCH.out (allB_true (f := cliB) (HN3.out.symm.trans HM3.out) (fun i h1 h2 => hs.out i h1 h2 (by rw [HN3.out]; exact h1))))
     clear hs
     go_wp2
     go_ret
     exact ⟨by rw [HE.out]; rfl, HBW.out _ bx⟩
 all_goals
  have HE := Lib.hid (E.out rfl)
  go_enter func22, ntmps22
  go_upto_region 1 with fail
  rw [← H1.out, ← H2.out]
  go_wp2_with (first | ((with_reducible refine (HSS.out _ (HBW.out _ bx)).mono ?_); rintro e W5 ⟨rfl, hb5⟩; have bx := bx.trans (hb5.mono bx.size); obtain ⟨⟨c0, c1, c2, c3, c4, c5⟩, d0, d1, d2, d3, d4, d5⟩ := HBX.out W5 bx) | ((with_reducible refine (HCC.out _ (HBW.out _ bx)).mono ?_); rintro e W5 ⟨rfl, hb5⟩; have bx := bx.trans (hb5.mono bx.size); obtain ⟨⟨c0, c1, c2, c3, c4, c5⟩, d0, d1, d2, d3, d4, d5⟩ := HBX.out W5 bx))
  (try go_wp2)
  go_ret
  exact ⟨by rw [HE.out]; rfl, HBW.out _ bx⟩
end Go.Proofs.YtmohibkomlhlaaaGreatDoor
