/- Config and Server, of the program and of the reference: what has a name, or ErrNotFound. The aU Config, Server and Few; the program's Server. The aU Few: where it answers yes, a deployment has few parts. -/
import Derived.Test.YtmohibkomlhlaaaGreatDoorPna
import Derived.Test.YtmohibkomlhlaaaGreatDoorPdi
set_option maxRecDepth 100000
set_option maxHeartbeats 8000000
namespace Go.Proofs.YtmohibkomlhlaaaGreatDoor
open Go.RowKit
open _root_.Go.Proofs.Tryz
section
variable {w w' : World} {S S' : Nat → Prop}
theorem DCfgAt.keep {x : DCfg} {v : Value} (h : DCfgAt w S x v) (hk : Kept S w w') : DCfgAt w' S x v := by
 obtain ⟨rA, rc, wA, wc, fA, fc, rfl, h1, h2, h3⟩ := h
 exact ⟨_, _, _, _, _, _, rfl, h1.keep hk, h2.keep hk, h3.keep hk⟩
theorem DCfgAt.mono {x : DCfg} {v : Value} (h : DCfgAt w S x v) (hS : ∀ g, S g → g < w.heap.size → S' g) : DCfgAt w S' x v := by
 obtain ⟨rA, rc, wA, wc, fA, fc, rfl, h1, h2, h3⟩ := h
 exact ⟨_, _, _, _, _, _, rfl, h1.mono hS (by decide), h2.mono hS (by decide), h3.mono hS (by decide)⟩
theorem DCliAt.keep {x : DCli} {v : Value} (h : DCliAt w S x v) (hk : Kept S w w') : DCliAt w' S x v := by
 obtain ⟨fA, fc, rfl, h1⟩ := h
 exact ⟨_, _, rfl, h1.keep hk⟩
theorem DDepAt.keep {x : DDep} {v : Value} (h : DDepAt w S x v) (hk : Kept S w w') : DDepAt w' S x v := by
 obtain ⟨sA, sc, tA, tc, cA, cc, hA, hc, kA, kc, rfl, h1, h2, h3, h4, h5⟩ := h
 exact ⟨_, _, _, _, _, _, _, _, _, _, rfl, h1.keep hk, h2.keep hk, h3.keep hk (fun _ _ h => h.keep hk), h4.keep hk, h5.keep hk (fun _ _ h => h.keep hk)⟩
theorem cfg_len {x : DCfg} {v : Value} (h : DCfgAt w S x v) : (cellsOf v).length = 6 := by
 obtain ⟨rA, rc, wA, wc, fA, fc, rfl, -⟩ := h; rfl
theorem cli_len {x : DCli} {v : Value} (h : DCliAt w S x v) : (cellsOf v).length = 3 := by
 obtain ⟨fA, fc, rfl, -⟩ := h; rfl
end
theorem ba_eqd (x y : ByteArray) : (x.toList == y.toList) = (x == y) := by
 by_cases h : x = y
 ·subst h; rw [ba_self]; simp
 ·rw [ba_ne h, ba_nee h]
def zCfg : DCfg := ⟨⟨#[]⟩, 0, 0, [], [], []⟩
def cfgOf (d : DDep) (n : ByteArray) : DCfg := (d.configs.find? fun c => c.name == n).getD zCfg
def cfgErr (d : DDep) (n : ByteArray) : Nat := if (d.configs.find? fun c => c.name == n).isSome then 0 else 4
theorem zCfg_at (w : World) (S : Nat → Prop) : DCfgAt w S zCfg (.agg #[.string ⟨#[]⟩, .int .i64 0, .int .u16 0, .slice none 0 0, .slice none 0 0, .slice none 0 0]) := ⟨none, 0, none, 0, none, 0, rfl, .empty _ _ _ _, .empty _ _ _ _, .empty _ _ _ _⟩
theorem cfg_test (x : DCfg) (v : Value) (n : ByteArray) (p : Nat) (w : World) (S : Nat → Prop) (hx : DCfgAt w S x v) (hp : w.heap[p]? = some (.cells #[.string n] 9 (0, 0))) :
  Calls prog 44 #[v, .pointer (some ⟨p, 0, none⟩)] w fun e w' => e = .returned (.bool (x.name == n)) ∧ Below w.heap.size w w' := by
 obtain ⟨rA, rc, wA, wc, fA, fc, rfl, -⟩ := hx
 have hb : Below w.heap.size w (w.alloc (.cells #[.string x.name, .int .i64 x.kind, .int .u16 (x.mem : Nat), .slice rA x.read.length rc, .slice wA x.write.length wc, .slice fA x.faults.length fc] 54)) := (Below.refl _ _).alloc (Nat.le_refl _) _
 have hr := heap_alloc_new w (.cells #[.string x.name, .int .i64 x.kind, .int .u16 (x.mem : Nat), .slice rA x.read.length rc, .slice wA x.write.length wc, .slice fA x.faults.length fc] 54)
 obtain ⟨W, hW⟩ : ∃ W : World, W = w.alloc (.cells #[.string x.name, .int .i64 x.kind, .int .u16 (x.mem : Nat), .slice rA x.read.length rc, .slice wA x.write.length wc, .slice fA x.faults.length fc] 54) := ⟨_, rfl⟩
 rw [← hW] at hb hr
 have c0 := ah hr 0 _ rfl
 have c1 := ah ((hb.block _ (lt_of_block hp)).trans hp) 0 _ rfl
 have H1 := Lib.hid hW
 have HB := Lib.hid hb
 clear hW hb hr hp
 go_enter func44, ntmps44
 go_upto_region 1 with fail
 rw [← H1.out]
 go_wp2
 go_ret
 exact ⟨by rw [← ba_eqd]; rfl, HB.out⟩
theorem fx_cfg (l : List DCfg) (S : Nat → Prop) (A : Option Addr) (c : Nat) (w : World) (hl : aL (DCfgAt w S) w S 6 A l) (hS : ∀ g, S g → g < w.heap.size) (hlim : l.length ≤ 1000000000000)
  (fid : Nat) (he : ∀ (args : Array Value) (w : World), (callFunc fid args).run prog w = .ok (.enter fid args) w) (p1 : Value) (q : DCfg → Bool) (hf : rW (fun W x v => DCfgAt W S x v) w fid [p1] l q) :
  Calls prog 42 #[.slice A l.length c, .func (.func fid) #[] #[p1]] w (EY l q w) := by
 have HF := Lib.hid hf
 have HLS := Lib.hid hl
 clear hf hl
 go_enter func42, ntmps42
 go_wp2
 go_loopw [8] (fun x wr => ∃ k : Nat, k ≤ l.length ∧ x = .int .i64 k ∧ Hid (∀ j (hj : j < l.length), j < k → q l[j] = false) ∧ Below w.heap.size w wr) (fun x _ => l.length - (intOf x).toNat)
 case atStart => exact ⟨0, Nat.zero_le _, rfl, (fun j _ h => absurd h (by omega)), Below.refl _ _⟩
 case round =>
  obtain ⟨k, hk, rfl, hno, hb⟩ := hrel
  have hsz := hb.size
  by_cases hlt : k < l.length
  ·have hlr := HLS.out.keep (P' := DCfgAt wr S) (ai hb hS) (fun _ _ h => h.keep (ai hb hS))
   obtain ⟨g, o, v, rfl, hSg, htm, hcs⟩ := dL (fun _ _ h => cfg_len h) hlr hlt
   have hgs : g < wr.heap.size := by have := hS g hSg; omega
   obtain ⟨cs, hcl, rfl⟩ : ∃ cs : List Value, cs.length = 6 ∧ v = .agg cs.toArray := by
    obtain ⟨rA, rc, wA, wc, fA, fc, hv, -⟩ := htm
    exact ⟨_, rfl, hv⟩
   have hrange : wr.rangeAt g (o + k * 6) cs := fun j u hu => hcs j u (by simpa [cellsOf, Value.cells] using hu)
   have rM : (prog.info? 54).map (·.size) = some cs.length := by rw [hcl]; exact Cw
   clear hcs
   have hc := HF.out l[k] (List.getElem_mem hlt) _ wr htm hb
   have hkI : (k : Int) < (l.length : Int) := by omega
   have hk0 : (0 : Int) ≤ (k : Int) := by omega
   cases hq : q l[k]
   ·rw [hq] at hc
    have HC := Lib.hid hc
    have HQ := Lib.hid hq
    clear hc hq hlr
    go_wp2_with (with_reducible refine wpList_load_mid rfl 54 (.tmp 14) rfl g (o + k * 6) rfl cs _ hrange underlying54 rfl rM ?_)
    refine HC.out.mono ?_
    rintro e W2 ⟨rfl, hb2⟩
    go_wp2
    go_roundw
    case rel =>
     refine ⟨k + 1, by omega, by go_num, ?_, hb.trans (hb2.mono hsz)⟩
     intro j hj hjk
     by_cases h9 : j < k
     ·exact hno.out j hj h9
     ·obtain rfl : j = k := by omega
      exact HQ.out
    case measure => simp [intOf]; omega
   ·rw [hq] at hc
    have HC := Lib.hid hc
    have HQ := Lib.hid hq
    clear hc hq hlr
    go_wp2_with (with_reducible refine wpList_load_mid rfl 54 (.tmp 14) rfl g (o + k * 6) rfl cs _ hrange underlying54 rfl rM ?_)
    refine HC.out.mono ?_
    rintro e W2 ⟨rfl, hb2⟩
    go_wp2
    go_ret
    exact ⟨Or.inr ⟨k, l[k], rfl, List.getElem?_eq_getElem hlt, HQ.out, za hlt hno.out HQ.out⟩, hb.trans (hb2.mono hsz)⟩
  ·have HQ := Lib.hid (qh (fun j hj => hno.out j hj (by omega)))
   have hkI : ¬ (k : Int) < (l.length : Int) := by omega
   go_wp2
   go_ret
   exact ⟨Or.inl ⟨rfl, HQ.out⟩, hb⟩
def DLim (d : DDep) : Prop := d.servers.length ≤ 1000000 ∧ d.sites.length ≤ 1000000 ∧ d.configs.length ≤ 1000000 ∧ d.chain.length ≤ 1000000 ∧ d.clients.length ≤ 1000000 ∧ ∀ x ∈ d.configs, x.read.length ≤ 1000 ∧ x.write.length ≤ 1000 ∧ x.faults.length ≤ 1000
theorem config_prog (d : DDep) (v : Value) (n : ByteArray) (w : World) (S : Nat → Prop) (hd : DDepAt w S d v) (hS : ∀ g, S g → g < w.heap.size) (hl : DLim d) :
  Calls prog 13 #[v, .string n] w fun e w' => ∃ v', e = .returned (.tuple #[v', .int .i64 (cfgErr d n : Nat)]) ∧ DCfgAt w' (w.heap.size ≤ ·) (cfgOf d n) v' ∧ Below w.heap.size w w' := by
 obtain ⟨sA, sc, tA, tc, cA, cc, hA, hc, kA, kc, rfl, -, -, hC, -, -⟩ := hd
 obtain ⟨-, -, hl3, -, -, hl6⟩ := hl
 have hbA : ∀ (W : World) (o : Obj), Below W.heap.size W (W.alloc o) := fun W o => (Below.refl _ _).alloc (Nat.le_refl _) o
 obtain ⟨W1, hW1⟩ : ∃ W1 : World, W1 = w.alloc (.cells #[.slice sA d.servers.length sc, .slice tA d.sites.length tc, .int .u16 (d.wit : Nat), .slice cA d.configs.length cc, .slice hA d.chain.length hc, .slice kA d.clients.length kc] 48) := ⟨_, rfl⟩
 have hb1 : Below w.heap.size w W1 := by rw [hW1]; exact hbA _ _
 have hr1 : W1.heap[w.heap.size]? = some (.cells #[.slice sA d.servers.length sc, .slice tA d.sites.length tc, .int .u16 (d.wit : Nat), .slice cA d.configs.length cc, .slice hA d.chain.length hc, .slice kA d.clients.length kc] 48 (0, 0)) := by rw [hW1]; exact heap_alloc_new _ _
 have hz1 : W1.heap.size = w.heap.size + 1 := by rw [hW1]; simp
 obtain ⟨W2, hW2⟩ : ∃ W2 : World, W2 = W1.alloc (.cells #[.string n] 9) := ⟨_, rfl⟩
 have hb2 : Below W1.heap.size W1 W2 := by rw [hW2]; exact hbA _ _
 have hr2 : W2.heap[w.heap.size + 1]? = some (.cells #[.string n] 9 (0, 0)) := by rw [hW2, ← hz1]; exact heap_alloc_new _ _
 have hz2 : W2.heap.size = w.heap.size + 2 := by rw [hW2, World.size_alloc, hz1]
 obtain ⟨W3, hW3⟩ : ∃ W3 : World, W3 = W2.alloc (.cells #[.string ⟨#[]⟩, .int .i64 0, .int .u16 0, .slice none 0 0, .slice none 0 0, .slice none 0 0] 54) := ⟨_, rfl⟩
 have hb3 : Below W2.heap.size W2 W3 := by rw [hW3]; exact hbA _ _
 have hr3 : W3.heap[w.heap.size + 2]? = some (.cells #[.string ⟨#[]⟩, .int .i64 0, .int .u16 0, .slice none 0 0, .slice none 0 0, .slice none 0 0] 54 (0, 0)) := by rw [hW3, ← hz2]; exact heap_alloc_new _ _
 have hz3 : W3.heap.size = w.heap.size + 3 := by rw [hW3, World.size_alloc, hz2]
 have hb := hb1.trans ((hb2.trans (hb3.mono (by omega))).mono (by omega))
 have q1 := ((hb2.trans (hb3.mono (by omega))).block _ (by omega)).trans hr1
 have q2 := (hb3.block _ (by omega)).trans hr2
 have HX := Lib.hid (fx_cfg d.configs S cA cc W3 (hC.keep (P' := DCfgAt W3 S) (ai hb hS) (fun _ _ h => h.keep (ai hb hS))) (fun g hg => by have := hS g hg; omega) (by omega) 44 (enters_of func44 (by kernel_rfl) rfl) (.pointer (some ⟨w.heap.size + 1, 0, none⟩)) (fun c => c.name == n)
  (fun x _ v W hv hbW => cfg_test x v n _ W S hv ((hbW.block _ (by omega)).trans q2)))
 have HC := Lib.hid hC
 have H1 := Lib.hid hW1
 have H2 := Lib.hid hW2
 have H3 := Lib.hid hW3
 have HB := Lib.hid hb
 have HQ1 := Lib.hid q1
 have HR3 := Lib.hid hr3
 have HZ3 := Lib.hid hz3
 have c3 := ah q1 3 _ rfl
 have HL6 := Lib.hid hl6
 clear hC hW1 hW2 hW3 hb hb1 hb2 hb3 hr1 hr2 hr3 hz1 hz2 hz3 q1 q2 hl6
 go_enter func13, ntmps13
 go_upto_region 1 with fail
 rw [← H1.out, ← H2.out, ← H3.out]
 go_wp2_with fail
 refine HX.out.mono ?_
 rintro e W4 ⟨hf, hb4⟩
 have hz4 := hb4.size
 have hz3 := HZ3.out
 have r4 := (hb4.block _ (by omega)).trans HR3.out
 have q4 := (hb4.block _ (by omega)).trans HQ1.out
 have hbw := HB.out.trans (hb4.mono HB.out.size)
 have HB4 := Lib.hid hbw
 obtain ⟨p0, p1, p2, p3, p4, p5⟩ := eD r4
 have l0 := frozen_of_row _ _ 0 _ _ r4
 have l1 := frozen_of_row _ _ 1 _ _ r4
 have l2 := frozen_of_row _ _ 2 _ _ r4
 have l3 := frozen_of_row _ _ 3 _ _ r4
 have l4 := frozen_of_row _ _ 4 _ _ r4
 have l5 := frozen_of_row _ _ 5 _ _ r4
 have c3 := ah q4 3 _ rfl
 have HR4 := Lib.hid r4
 clear r4 q4 hb4 hbw hz3
 rcases hf with ⟨rfl, hn⟩ | ⟨k, x, rfl, hk, -, hn⟩
 ·have E : Hid (cfgOf d n = zCfg ∧ cfgErr d n = 4) := Lib.hid (by unfold cfgOf cfgErr; rw [hn]; exact ⟨rfl, rfl⟩)
  clear hn
  go_wp2
  obtain ⟨e1, e2⟩ := set6 HR4.out (.string ⟨#[]⟩) (.int .i64 0) (.int .u16 0) (.slice none 0 0) (.slice none 0 0) (.slice none 0 0)
  refine ret_cf rfl rfl rfl rfl e1 rfl ?_
  rw [E.out.1, E.out.2]
  exact ⟨_, rfl, zCfg_at _ _, HB4.out.trans (below_grown e2 (by omega) HB4.out.size)⟩
 ·have E : Hid (cfgOf d n = x ∧ cfgErr d n = 0) := Lib.hid (by unfold cfgOf cfgErr; rw [hn]; exact ⟨rfl, rfl⟩)
  have hkl := (List.getElem?_eq_some_iff.1 hk).1
  have hxk : d.configs[k] = x := (List.getElem?_eq_some_iff.1 hk).2
  have hkept := ai HB4.out hS
  obtain ⟨g, o, u, rfl, hSg, htm, hcs⟩ := dL (fun _ _ h => cfg_len h) (HC.out.keep (P' := DCfgAt W4 S) hkept (fun _ _ h => h.keep hkept)) hkl
  rw [hxk] at htm
  obtain ⟨b1, b2, b3⟩ := HL6.out x (hxk ▸ List.getElem_mem hkl)
  have HCP := Lib.hid (copied_any x u W4 S htm (fun g hg => by have := hS g hg; have := HB4.out.size; omega) b1 b2 b3)
  have hgs : g < W4.heap.size := by have := hS g hSg; have := HB4.out.size; omega
  obtain ⟨cs, hcl, rfl⟩ : ∃ cs : List Value, cs.length = 6 ∧ u = .agg cs.toArray := by
   obtain ⟨rA, rc, wA, wc, fA, fc, hv, -⟩ := htm
   exact ⟨_, rfl, hv⟩
  have hrange : W4.rangeAt g (o + k * 6) cs := fun j u hu => hcs j u (by simpa [cellsOf, Value.cells] using hu)
  have rM : (prog.info? 54).map (·.size) = some cs.length := by rw [hcl]; exact Cw
  have hkI : (k : Int) < (d.configs.length : Int) := by omega
  have hk0 : (0 : Int) ≤ (k : Int) := by omega
  have hk1 : ¬ (k : Int) < 0 := by omega
  clear hcs htm hk hn hxk
  go_wp2_with (with_reducible refine wpList_load_mid rfl 54 (.tmp 17) rfl g (o + k * 6) rfl cs _ hrange underlying54 rfl rM ?_)
  refine HCP.out.mono ?_
  rintro e W5 ⟨v5, rfl, hx5, hb5⟩
  have r5 := (hb5.block _ (lt_of_block HR4.out)).trans HR4.out
  have zI := HB4.out.trans (hb5.mono HB4.out.size)
  have hsz5 := HB4.out.size
  have hz5 := HZ3.out
  have hx6 := hx5.mono (S' := fun g => w.heap.size + 3 ≤ g) (fun g hg _ => by omega)
  obtain ⟨rA, rc, wA, wc, fA, fc, rfl, s1, s2, s3⟩ := hx6
  obtain ⟨p0, p1, p2, p3, p4, p5⟩ := eD r5
  have l0 := frozen_of_row _ _ 0 _ _ r5
  have l1 := frozen_of_row _ _ 1 _ _ r5
  have l2 := frozen_of_row _ _ 2 _ _ r5
  have l3 := frozen_of_row _ _ 3 _ _ r5
  have l4 := frozen_of_row _ _ 4 _ _ r5
  have l5 := frozen_of_row _ _ 5 _ _ r5
  have HS := Lib.hid (And.intro s1 (And.intro s2 s3))
  have HR5 := Lib.hid r5
  have HB5 := Lib.hid zI
  clear s1 s2 s3 r5 zI hx5 hb5
  go_wp2
  obtain ⟨e1, e2⟩ := set6 HR5.out (.string x.name) (.int .i64 x.kind) (.int .u16 (x.mem : Nat)) (.slice rA x.read.length rc) (.slice wA x.write.length wc) (.slice fA x.faults.length fc)
  have hk9 : Kept (fun g => w.heap.size + 3 ≤ g) W5 _ := (aR e2).mono fun g hg => by omega
  refine ret_cf rfl rfl rfl rfl e1 rfl ?_
  rw [E.out.1, E.out.2]
  exact ⟨_, rfl, DCfgAt.mk ((HS.out.1.keep hk9).mono (fun g hg _ => by omega) (by decide)) ((HS.out.2.1.keep hk9).mono (fun g hg _ => by omega) (by decide)) ((HS.out.2.2.keep hk9).mono (fun g hg _ => by omega) (by decide)), HB5.out.trans (below_grown e2 (by omega) HB5.out.size)⟩
end Go.Proofs.YtmohibkomlhlaaaGreatDoor
namespace Go.Proofs.YtmohibkomlhlaaaGreatDoor
open Go.RowKit
open _root_.Go.Proofs.Tryz
theorem box_new (d : DDep) (v : Value) (w : World) (S : Nat → Prop) (hd : DDepAt w S d v) (hS : ∀ g, S g → g < w.heap.size) : ∃ sA sc tA tc cA cc hA hc kA kc, v = .agg #[.slice sA d.servers.length sc, .slice tA d.sites.length tc, .int .u16 (d.wit : Nat), .slice cA d.configs.length cc, .slice hA d.chain.length hc, .slice kA d.clients.length kc] ∧ ∃ W : World, W = w.alloc (.cells #[.slice sA d.servers.length sc, .slice tA d.sites.length tc, .int .u16 (d.wit : Nat), .slice cA d.configs.length cc, .slice hA d.chain.length hc, .slice kA d.clients.length kc] 48) ∧ Below w.heap.size w W ∧ W.heap.size = w.heap.size + 1 ∧
  W.heap[w.heap.size]? = some (.cells #[.slice sA d.servers.length sc, .slice tA d.sites.length tc, .int .u16 (d.wit : Nat), .slice cA d.configs.length cc, .slice hA d.chain.length hc, .slice kA d.clients.length kc] 48 (0, 0)) ∧
  ∀ X : World, Below w.heap.size w X → ak X S 1 sA d.servers.length (aA d.servers) ∧ ak X S 2 tA d.sites.length (siteVals d.sites) ∧ aL (DCfgAt X S) X S 6 cA d.configs ∧ ak X S 1 hA d.chain.length (cu d.chain) ∧ aL (DCliAt X S) X S 3 kA d.clients := by
 obtain ⟨sA, sc, tA, tc, cA, cc, hA, hc, kA, kc, rfl, h1, h2, h3, h4, h5⟩ := hd
 refine ⟨sA, sc, tA, tc, cA, cc, hA, hc, kA, kc, rfl, _, rfl, (Below.refl _ _).alloc (Nat.le_refl _) _, by simp, heap_alloc_new _ _, fun X hX => ?_⟩
 have hk := ai hX hS
 exact ⟨h1.keep hk, h2.keep hk, h3.keep hk (fun _ _ h => h.keep hk), h4.keep hk, h5.keep hk (fun _ _ h => h.keep hk)⟩
theorem cfg_at {X : World} {S : Nat → Prop} {A : Option Addr} {l : List DCfg} (h : aL (DCfgAt X S) X S 6 A l) {k : Nat} (hk : k < l.length) : ∃ g o rA rc wA wc fA fc, A = some ⟨g, o, none⟩ ∧ S g ∧
  DCfgAt X S l[k] (.agg #[.string l[k].name, .int .i64 l[k].kind, .int .u16 (l[k].mem : Nat), .slice rA l[k].read.length rc, .slice wA l[k].write.length wc, .slice fA l[k].faults.length fc]) ∧
  X.cell? ⟨g, o + k * 6, none⟩ = some (.string l[k].name) ∧ X.cell? ⟨g, o + k * 6 + 1, none⟩ = some (.int .i64 l[k].kind) ∧ X.cell? ⟨g, o + k * 6 + 2, none⟩ = some (.int .u16 (l[k].mem : Nat)) ∧ X.cell? ⟨g, o + k * 6 + 3, none⟩ = some (.slice rA l[k].read.length rc) ∧ X.cell? ⟨g, o + k * 6 + 4, none⟩ = some (.slice wA l[k].write.length wc) ∧ X.cell? ⟨g, o + k * 6 + 5, none⟩ = some (.slice fA l[k].faults.length fc) := by
 obtain ⟨g, o, v, e, hS, hp, hc⟩ := dL (fun _ _ h => cfg_len h) h hk
 obtain ⟨rA, rc, wA, wc, fA, fc, rfl, h1⟩ := id hp
 exact ⟨g, o, rA, rc, wA, wc, fA, fc, e, hS, hp, hc 0 _ rfl, hc 1 _ rfl, hc 2 _ rfl, hc 3 _ rfl, hc 4 _ rfl, hc 5 _ rfl⟩
theorem cli_at {X : World} {S : Nat → Prop} {A : Option Addr} {l : List DCli} (h : aL (DCliAt X S) X S 3 A l) {k : Nat} (hk : k < l.length) : ∃ g o fA fc, A = some ⟨g, o, none⟩ ∧ S g ∧
  DCliAt X S l[k] (.agg #[.string l[k].name, .bool l[k].plain, .slice fA l[k].faults.length fc]) ∧ X.cell? ⟨g, o + k * 3, none⟩ = some (.string l[k].name) ∧ X.cell? ⟨g, o + k * 3 + 1, none⟩ = some (.bool l[k].plain) ∧ X.cell? ⟨g, o + k * 3 + 2, none⟩ = some (.slice fA l[k].faults.length fc) := by
 obtain ⟨g, o, v, e, hS, hp, hc⟩ := dL (fun _ _ h => cli_len h) h hk
 obtain ⟨fA, fc, rfl, h1⟩ := id hp
 exact ⟨g, o, fA, fc, e, hS, hp, hc 0 _ rfl, hc 1 _ rfl, hc 2 _ rfl⟩
theorem config_ref25 (d : DDep) (v : Value) (n : ByteArray) (w : World) (S : Nat → Prop) (hd : DDepAt w S d v) (hS : ∀ g, S g → g < w.heap.size) (hl : DLim d) :
  Calls prog 17 #[v, .string n] w fun e w' => ∃ v', e = .returned (.tuple #[v', .int .i64 (cfgErr d n : Nat)]) ∧ DCfgAt w' S (cfgOf d n) v' ∧ Below w.heap.size w w' := by
 obtain ⟨sA, sc, tA, tc, cA, cc, hA, hc, kA, kc, rfl, W1, hW1, hb1, hz1, hr1, hX⟩ := box_new d v w S hd hS
 have hll := hl.2.2.1
 obtain ⟨W2, hW2⟩ : ∃ W2 : World, W2 = W1.alloc (.cells #[.string ⟨#[]⟩, .int .i64 0, .int .u16 0, .slice none 0 0, .slice none 0 0, .slice none 0 0] 54) := ⟨_, rfl⟩
 have hb2 : Below W1.heap.size W1 W2 := by rw [hW2]; exact (Below.refl _ _).alloc (Nat.le_refl _) _
 have hr2 : W2.heap[w.heap.size + 1]? = some (.cells #[.string ⟨#[]⟩, .int .i64 0, .int .u16 0, .slice none 0 0, .slice none 0 0, .slice none 0 0] 54 (0, 0)) := by rw [hW2, ← hz1]; exact heap_alloc_new _ _
 have hb := hb1.trans (hb2.mono (by omega))
 have q1 := (hb2.block _ (by omega)).trans hr1
 have c3 := ah q1 3 _ rfl
 obtain ⟨p0, p1, p2, p3, p4, p5⟩ := eD hr2
 have l0 := frozen_of_row _ _ 0 _ _ hr2
 have l1 := frozen_of_row _ _ 1 _ _ hr2
 have l2 := frozen_of_row _ _ 2 _ _ hr2
 have l3 := frozen_of_row _ _ 3 _ _ hr2
 have l4 := frozen_of_row _ _ 4 _ _ hr2
 have l5 := frozen_of_row _ _ 5 _ _ hr2
 have HX := Lib.hid (hX W2 hb).2.2.1
 have H1 := Lib.hid hW1
 have H2 := Lib.hid hW2
 have HB := Lib.hid hb
 have HR2 := Lib.hid hr2
 clear hX hW1 hW2 hb hb1 hb2 hr1 hr2 hz1 q1 hl hd
 go_enter func17, ntmps17
 go_upto_region 1 with fail
 rw [← H1.out, ← H2.out]
 go_wp2
 go_loopw [6] (fun x wr => ∃ k : Nat, k ≤ d.configs.length ∧ x = .int .i64 k ∧ Hid (∀ j (hj : j < d.configs.length), j < k → (d.configs[j].name == n) = false) ∧ wr = W2) (fun x _ => d.configs.length - (intOf x).toNat)
 case atStart => exact ⟨0, Nat.zero_le _, rfl, Lib.hid (fun j _ h => absurd h (by omega)), rfl⟩
 case round =>
  obtain ⟨k, hk, rfl, hno, rfl⟩ := hrel
  by_cases hlt : k < d.configs.length
  ·obtain ⟨g, o, rA, rc, wA, wc, fA, fc, rfl, hSg, hp, k0, k1, k2, k3, k4, k5⟩ := cfg_at HX.out hlt
   have hgs : g < wr.heap.size := by have := hS g hSg; have := HB.out.size; omega
   have hgn : ¬ g = w.heap.size + 1 := by have := hS g hSg; omega
   have hkI : (k : Int) < (d.configs.length : Int) := by omega
   have hk0 : (0 : Int) ≤ (k : Int) := by omega
   obtain ⟨x, hx⟩ : ∃ x, x = d.configs[k] := ⟨_, rfl⟩
   rw [← hx] at hp k0 k1 k2 k3 k4 k5
   have HXX := Lib.hid hx
   have HP := Lib.hid hp
   clear hx hp
   cases he : x.name == n
   ·have e1 : (x.name.toList == n.toList) = false := by rw [ba_eqd]; exact he
    have HNO := Lib.hid (fun j (hj : j < d.configs.length) (hjk : j < k + 1) => show (d.configs[j].name == n) = false from by
     by_cases h9 : j = k
     ·subst h9; rw [← HXX.out]; exact he
     ·exact hno.out j hj (by omega))
    go_wp2
    go_roundw
    case rel => exact ⟨k + 1, by omega, by go_num, HNO, by first | rfl | trivial⟩
    case measure => simp [intOf]; omega
   ·have e1 : (x.name.toList == n.toList) = true := by rw [ba_eqd]; exact he
    have E : Hid (cfgOf d n = x ∧ cfgErr d n = 0) := Lib.hid (by
     have hf := za (q := fun c : DCfg => c.name == n) hlt hno.out (by rw [← HXX.out]; exact he)
     unfold cfgOf cfgErr; rw [hf, ← HXX.out]; exact ⟨rfl, rfl⟩)
    go_wp2
    obtain ⟨z1, z2⟩ := set6 HR2.out (.string x.name) (.int .i64 x.kind) (.int .u16 (x.mem : Nat)) (.slice rA x.read.length rc) (.slice wA x.write.length wc) (.slice fA x.faults.length fc)
    refine ret_cf rfl rfl rfl rfl z1 rfl ?_
    rw [E.out.1, E.out.2]
    exact ⟨_, rfl, HP.out.keep ((aR z2).mono fun g hg => by have := hS g hg; omega), HB.out.trans (below_grown z2 (by omega) HB.out.size)⟩
  ·obtain rfl : k = d.configs.length := by omega
   have hkI : ¬ (d.configs.length : Int) < (d.configs.length : Int) := by omega
   have E : Hid (cfgOf d n = zCfg ∧ cfgErr d n = 4) := Lib.hid (by
    have hf := qh (q := fun c : DCfg => c.name == n) (fun j hj => hno.out j hj (by omega))
    unfold cfgOf cfgErr; rw [hf]; exact ⟨rfl, rfl⟩)
   go_wp2
   obtain ⟨z1, z2⟩ := set6 HR2.out (.string ⟨#[]⟩) (.int .i64 0) (.int .u16 0) (.slice none 0 0) (.slice none 0 0) (.slice none 0 0)
   refine ret_cf rfl rfl rfl rfl z1 rfl ?_
   rw [E.out.1, E.out.2]
   exact ⟨_, rfl, zCfg_at _ _, HB.out.trans (below_grown z2 (by omega) HB.out.size)⟩
def srvV (d : DDep) (n : ByteArray) : Int := if Lib.idxOfS d.servers n < 0 then 0 else Lib.idxOfS d.servers n
def srvE (d : DDep) (n : ByteArray) : Int := if Lib.idxOfS d.servers n < 0 then 4 else 0
theorem index_strs (l : List ByteArray) (A : Option Addr) (c : Nat) (n : ByteArray) (w : World) (S : Nat → Prop) (h : ak w S 1 A l.length (aA l)) (hl : l.length ≤ 1000000) :
  Calls prog 47 #[.slice A l.length c, .string n] w fun e w' => e = .returned (.int .i64 (Lib.idxOfS l n)) ∧ w' = w := by
 by_cases h0 : l.length = 0
 ·obtain rfl : l = [] := List.length_eq_zero_iff.1 h0
  exact Tryz.slices_Index_string_empty A c n w
 ·obtain ⟨g, o, rfl, -, hc⟩ := h.cells (by omega)
  have h1 := Tryz.slices_Index_string g o l.length c l n w (Nat.le_refl _) (by omega) (fun j hj => hc j _ (by simp [aA, hj]))
  rwa [List.take_length] at h1
theorem server_prog (d : DDep) (v : Value) (n : ByteArray) (w : World) (S : Nat → Prop) (hd : DDepAt w S d v) (hS : ∀ g, S g → g < w.heap.size) (hl : DLim d) :
  Calls prog 18 #[v, .string n] w fun e w' => e = .returned (.tuple #[.int .i64 (srvV d n), .int .i64 (srvE d n)]) ∧ Below w.heap.size w w' := by
 obtain ⟨sA, sc, tA, tc, cA, cc, hA, hc, kA, kc, rfl, W1, hW1, hb1, hz1, hr1, hX⟩ := box_new d v w S hd hS
 have HI := Lib.hid (index_strs d.servers sA sc n W1 S (hX W1 hb1).1 hl.1)
 have c0 := ah hr1 0 _ rfl
 have H1 := Lib.hid hW1
 have HB := Lib.hid hb1
 obtain ⟨z, hz⟩ : ∃ z, z = Lib.idxOfS d.servers n := ⟨_, rfl⟩
 have E : Hid (srvV d n = (if z < 0 then 0 else z) ∧ srvE d n = (if z < 0 then 4 else 0)) := Lib.hid (by rw [hz]; exact ⟨rfl, rfl⟩)
 rw [← hz] at HI
 clear hX hW1 hb1 hz1 hr1 hl hd hz
 go_enter func18, ntmps18
 go_upto_region 1 with fail
 rw [← H1.out]
 go_wp2_with fail
 refine HI.out.mono ?_
 rintro e W2 ⟨rfl, rfl⟩
 by_cases h0 : z < 0
 ·have HH0 := Lib.hid h0
  go_wp2
  go_ret2
  rw [E.out.1, E.out.2, if_pos (by have := HH0.out; omega), if_pos (by have := HH0.out; omega)]
  exact ⟨rfl, HB.out⟩
 ·have HH0 := Lib.hid h0
  go_wp2
  go_ret2
  rw [E.out.1, E.out.2, if_neg (by have := HH0.out; omega), if_neg (by have := HH0.out; omega)]
  exact ⟨rfl, HB.out⟩
theorem server_ref (d : DDep) (v : Value) (n : ByteArray) (w : World) (S : Nat → Prop) (hd : DDepAt w S d v) (hS : ∀ g, S g → g < w.heap.size) (hl : DLim d) :
  Calls prog 19 #[v, .string n] w fun e w' => e = .returned (.tuple #[.int .i64 (srvV d n), .int .i64 (srvE d n)]) ∧ Below w.heap.size w w' := by
 obtain ⟨sA, sc, tA, tc, cA, cc, hA, hc, kA, kc, rfl, W1, hW1, hb1, hz1, hr1, hX⟩ := box_new d v w S hd hS
 have hll := hl.1
 have HX := Lib.hid (hX W1 hb1).1
 have c0 := ah hr1 0 _ rfl
 have H1 := Lib.hid hW1
 have HB := Lib.hid hb1
 clear hX hW1 hb1 hz1 hr1 hl hd
 go_enter func19, ntmps19
 go_upto_region 1 with fail
 rw [← H1.out]
 go_wp2
 go_loopw [6] (fun x wr => ∃ k : Nat, k ≤ d.servers.length ∧ x = .int .i64 k ∧ Hid (∀ j, j < k → d.servers.getD j ByteArray.empty ≠ n) ∧ wr = W1) (fun x _ => d.servers.length - (intOf x).toNat)
 case atStart => exact ⟨0, Nat.zero_le _, rfl, Lib.hid (fun j h => absurd h (by omega)), rfl⟩
 case round =>
  obtain ⟨k, hk, rfl, hno, rfl⟩ := hrel
  by_cases hlt : k < d.servers.length
  ·obtain ⟨g, o, rfl, hSg, k0⟩ := one_cell HX.out hlt
   have hkI : (k : Int) < (d.servers.length : Int) := by omega
   have hk0 : (0 : Int) ≤ (k : Int) := by omega
   obtain ⟨x, hx⟩ : ∃ x, x = d.servers[k] := ⟨_, rfl⟩
   rw [← hx] at k0
   have HG := Lib.hid (show d.servers.getD k ByteArray.empty = x by rw [hx]; simp [List.getD_eq_getElem?_getD, hlt])
   clear hx
   by_cases he : x = n
   ·subst he
    have E : Hid (srvV d x = k ∧ srvE d x = 0) := Lib.hid (by
     have h9 := Lib.idxOfS_hit d.servers d.servers.length k x hlt (Nat.le_refl _) HG.out hno.out
     rw [List.take_length] at h9
     unfold srvV srvE; rw [h9, if_neg (by omega), if_neg (by omega)]; exact ⟨rfl, rfl⟩)
    have e1 := ba_self x
    go_wp2
    go_ret2
    rw [E.out.1, E.out.2]
    exact ⟨rfl, HB.out⟩
   ·have e1 := ba_ne he
    have e2 := ba_nee he
    have HNO := Lib.hid (fun j (hjk : j < k + 1) => show d.servers.getD j ByteArray.empty ≠ n from by
     by_cases h9 : j = k
     ·subst h9; rw [HG.out]; exact he
     ·exact hno.out j (by omega))
    clear he
    go_wp2
    go_roundw
    case rel => exact ⟨k + 1, by omega, by go_num, HNO, by first | rfl | trivial⟩
    case measure => simp [intOf]; omega
  ·obtain rfl : k = d.servers.length := by omega
   have hkI : ¬ (d.servers.length : Int) < (d.servers.length : Int) := by omega
   have E : Hid (srvV d n = 0 ∧ srvE d n = 4) := Lib.hid (by
    have h9 := Lib.idxOfS_miss d.servers d.servers.length n hno.out
    rw [List.take_length] at h9
    unfold srvV srvE; rw [h9]; exact ⟨rfl, rfl⟩)
   go_wp2
   go_ret2
   rw [E.out.1, E.out.2]
   exact ⟨rfl, HB.out⟩
theorem list_row (ty : TypeId) (m : Nat) (hsz : (prog.info? ty).map (·.size) = some m) (w : World) {ops : Array Oper} {rest : List Oper} {o : Oper} {a : Act} {Q : Exit → Act → World → Prop} (hgd : o.guard = none) (hdst : o.dst = none) (x y : Operand) (ho : o.op = .store ty x y)
  (g : Nat) (cells : Array Value) (hx : a.eval x = .pointer (some ⟨g, 0, none⟩)) (hy : a.eval y = .agg cells) (old : Array Value) (hg : w.heap[g]? = some (.cells old ty (0, 0)))
  (hold : old.size = m) (hc : cells.size = m) (h1 : cells.all (·.oneCell') = true) (h : ∀ w', w'.heap[g]? = some (.cells cells ty (0, 0)) → w.grownBy w' (some g) → wpList prog ops Q rest a w') : wpList prog ops Q (o :: rest) a w := by
 refine wpList_store_row hgd ty x y ho g cells hx hy ty old hg (by rw [hc]; exact hsz) (by rw [hold, hc]) h1 ?_
 rw [hdst]
 exact h _ (setRow_heap w g old cells _ _ hg) (Ab w g cells)
theorem size_client : (prog.info? 93).map (·.size) = some 3 := by kernel_rfl
def SmallC (x : DCfg) : Prop := x.read.length ≤ 1000 ∧ x.write.length ≤ 1000 ∧ x.faults.length ≤ 1000
def DCnt (d : DDep) : Prop := d.servers.length ≤ 9223372036854775807 ∧ d.sites.length ≤ 9223372036854775807 ∧ d.configs.length ≤ 9223372036854775807 ∧ d.chain.length ≤ 9223372036854775807 ∧ d.clients.length ≤ 9223372036854775807
theorem le_forms {n m : Nat} (z : Int) (h : n ≤ m) (hz : z = m) : ¬ z < (n : Int) ∧ ¬ m < n ∧ (n : Int) ≤ z := ⟨by omega, by omega, by omega⟩
theorem gt_forms {n m : Nat} (z : Int) (h : ¬ n ≤ m) (hz : z = m) : z < (n : Int) ∧ m < n ∧ ¬ (n : Int) ≤ z := ⟨by omega, by omega, by omega⟩
theorem range6 {W : World} {g o : Nat} {v0 v1 v2 v3 v4 v5 : Value} (k0 : W.cell? ⟨g, o, none⟩ = some v0) (k1 : W.cell? ⟨g, o + 1, none⟩ = some v1) (k2 : W.cell? ⟨g, o + 2, none⟩ = some v2) (k3 : W.cell? ⟨g, o + 3, none⟩ = some v3) (k4 : W.cell? ⟨g, o + 4, none⟩ = some v4) (k5 : W.cell? ⟨g, o + 5, none⟩ = some v5) : W.rangeAt g o [v0, v1, v2, v3, v4, v5] ∧ (prog.info? 54).map (·.size) = some [v0, v1, v2, v3, v4, v5].length := by
 refine ⟨fun j u hj => ?_, Cw⟩
 match j, hj with
 |0, hj => cases hj; exact k0
 |1, hj => cases hj; exact k1
 |2, hj => cases hj; exact k2
 |3, hj => cases hj; exact k3
 |4, hj => cases hj; exact k4
 |5, hj => cases hj; exact k5
theorem range3 {W : World} {g o : Nat} {v0 v1 v2 : Value} (k0 : W.cell? ⟨g, o, none⟩ = some v0) (k1 : W.cell? ⟨g, o + 1, none⟩ = some v1) (k2 : W.cell? ⟨g, o + 2, none⟩ = some v2) : W.rangeAt g o [v0, v1, v2] ∧ (prog.info? 93).map (·.size) = some [v0, v1, v2].length := by
 refine ⟨fun j u hj => ?_, size_client⟩
 match j, hj with
 |0, hj => cases hj; exact k0
 |1, hj => cases hj; exact k1
 |2, hj => cases hj; exact k2
def FewPost (d : DDep) (w : World) (e : Ending) (w' : World) : Prop := ∃ b, e = .returned (.bool b) ∧ (b = true → DLim d) ∧ Below w.heap.size w w'
theorem few_no {d : DDep} {w w' : World} (h : Below w.heap.size w w') : FewPost d w (.returned (.bool false)) w' := ⟨false, rfl, fun h => (by cases h), h⟩
theorem few_any (d : DDep) (v : Value) (w : World) (S : Nat → Prop) (hd : DDepAt w S d v) (hS : ∀ g, S g → g < w.heap.size) (hl : DCnt d) :
  Calls prog 16 #[v] w (FewPost d w) := by
 obtain ⟨sA, sc, tA, tc, cA, cc, hA, hc, kA, kc, rfl, W1, hW1, hb1, hz1, hr1, hX⟩ := box_new d v w S hd hS
 obtain ⟨hl1, -, hl3, -, hl5⟩ := hl
 have HX := Lib.hid hX
 have H1 := Lib.hid hW1
 have HB := Lib.hid hb1
 have HZ := Lib.hid hz1
 have HR := Lib.hid hr1
 have HBX := Lib.hid (fun (X : World) (hb : Below W1.heap.size W1 X) => eD ((hb.block _ (lt_of_block hr1)).trans hr1))
 have HBW := Lib.hid (fun (X : World) (hb : Below W1.heap.size W1 X) => hb1.trans (hb.mono hb1.size))
 clear hX hW1 hb1 hz1 hr1 hd
 go_enter func16, ntmps16
 go_upto_region 1 with fail
 rw [← H1.out]
 go_wp2
 go_loopw [3] (fun x wr => ∃ k : Nat, k ≤ d.configs.length ∧ x = .int .i64 k ∧ Hid (∀ j (hj : j < d.configs.length), j < k → SmallC d.configs[j]) ∧ Below W1.heap.size W1 wr) (fun x _ => d.configs.length - (intOf x).toNat)
 case atStart => exact ⟨0, Nat.zero_le _, rfl, Lib.hid (fun j _ h => absurd h (by omega)), Below.refl _ _⟩
 case round =>
  obtain ⟨k, hk, rfl, hsm, hb⟩ := hrel
  obtain ⟨c0, c1, c2, c3, c4, c5⟩ := HBX.out wr hb
  have hsz := hb.size
  by_cases hlt : k < d.configs.length
  ·obtain ⟨g, o, rA, rc, wA, wc, fA, fc, rfl, hSg, hp, k0, k1, k2, k3, k4, k5⟩ := cfg_at (HX.out wr (HBW.out wr hb)).2.2.1 hlt
   have hkI : (k : Int) < (d.configs.length : Int) := by omega
   have hk0 : (0 : Int) ≤ (k : Int) := by omega
   obtain ⟨x, hx⟩ : ∃ x, x = d.configs[k] := ⟨_, rfl⟩
   rw [← hx] at hp k0 k1 k2 k3 k4 k5
   have HXX := Lib.hid hx
   have hgs := World.block_lt_of_cell? wr _ k0
   obtain ⟨hra, hza⟩ := range6 k0 k1 k2 k3 k4 k5
   clear hx hp k0 k1 k2 k3 k4 k5
   go_upto_region 5 with (first | (with_reducible refine wpList_load_mid rfl 54 (.tmp 17) rfl g (o + k * 6) rfl _ _ hra underlying54 rfl hza ?_) | ((with_reducible refine list_row 54 6 Cw _ rfl rfl (.tmp 4) (.tmp 18) rfl wr.heap.size _ rfl rfl _ (heap_alloc_new wr _) rfl rfl (by simp [Value.oneCell']) ?_); intro W5 hr5 hg5))
   have hb5 : Below wr.heap.size wr W5 := ((Below.refl _ _).alloc (Nat.le_refl _) _).trans (below_grown hg5 (Nat.le_refl _) (by simp))
   have hb6 := hb.trans (hb5.mono hsz)
   have HB6 := Lib.hid hb6
   obtain ⟨d0, d1, d2, d3, d4, d5⟩ := eD hr5
   clear hg5 hr5 hb5 hb6
   rcases (by omega : (¬ x.read.length ≤ 420) ∨ (x.read.length ≤ 420 ∧ ¬ x.write.length ≤ 420) ∨ (x.read.length ≤ 420 ∧ x.write.length ≤ 420 ∧ ¬ x.faults.length ≤ 110) ∨ (x.read.length ≤ 420 ∧ x.write.length ≤ 420 ∧ x.faults.length ≤ 110 ∧ ¬ x.name.size ≤ 100) ∨ (x.read.length ≤ 420 ∧ x.write.length ≤ 420 ∧ x.faults.length ≤ 110 ∧ x.name.size ≤ 100)) with h1 | ⟨h1, h2⟩ | ⟨h1, h2, h3⟩ | ⟨h1, h2, h3, h4⟩ | ⟨h1, h2, h3, h4⟩
   ·obtain ⟨i1, j1, m1⟩ := gt_forms 420 h1 rfl
    go_wp2
    go_ret
    exact few_no (HBW.out _ HB6.out)
   ·obtain ⟨i1, j1, m1⟩ := le_forms 420 h1 rfl
    obtain ⟨i2, j2, m2⟩ := gt_forms 420 h2 rfl
    go_wp2
    go_ret
    exact few_no (HBW.out _ HB6.out)
   ·obtain ⟨i1, j1, m1⟩ := le_forms 420 h1 rfl
    obtain ⟨i2, j2, m2⟩ := le_forms 420 h2 rfl
    obtain ⟨i3, j3, m3⟩ := gt_forms 110 h3 rfl
    go_wp2
    go_ret
    exact few_no (HBW.out _ HB6.out)
   ·obtain ⟨i1, j1, m1⟩ := le_forms 420 h1 rfl
    obtain ⟨i2, j2, m2⟩ := le_forms 420 h2 rfl
    obtain ⟨i3, j3, m3⟩ := le_forms 110 h3 rfl
    obtain ⟨i4, j4, m4⟩ := gt_forms 100 h4 rfl
    go_wp2
    go_ret
    exact few_no (HBW.out _ HB6.out)
   ·obtain ⟨i1, j1, m1⟩ := le_forms 420 h1 rfl
    obtain ⟨i2, j2, m2⟩ := le_forms 420 h2 rfl
    obtain ⟨i3, j3, m3⟩ := le_forms 110 h3 rfl
    obtain ⟨i4, j4, m4⟩ := le_forms 100 h4 rfl
    have HS1 := Lib.hid (fun j (hj : j < d.configs.length) (hjk : j < k + 1) => show SmallC d.configs[j] from by
     by_cases h9 : j = k
     ·subst h9; rw [← HXX.out]; exact ⟨by omega, by omega, by omega⟩
     ·exact hsm.out j hj (by omega))
    go_wp2
    go_roundw
    case rel => exact ⟨k + 1, by omega, by go_num, HS1, HB6.out⟩
    case measure => simp [intOf]; omega
  ·obtain rfl : k = d.configs.length := by omega
   have hkI : ¬ (d.configs.length : Int) < (d.configs.length : Int) := by omega
   have HSM := Lib.hid (fun x (hx : x ∈ d.configs) => show SmallC x from by
    obtain ⟨j, hj, rfl⟩ := List.getElem_of_mem hx
    exact hsm.out j hj hj)
   rename World => w2
   go_wp2
   go_loopw [5] (fun x wr => ∃ k : Nat, k ≤ d.servers.length ∧ x = .int .i64 k ∧ wr = w2) (fun x _ => d.servers.length - (intOf x).toNat)
   case atStart => exact ⟨0, Nat.zero_le _, rfl, rfl⟩
   case round =>
    obtain ⟨k, hk, rfl, rfl⟩ := hrel
    by_cases hlt : k < d.servers.length
    ·obtain ⟨g, o, rfl, hSg, k0⟩ := one_cell (HX.out wr (HBW.out wr hb)).1 hlt
     have hkI : (k : Int) < (d.servers.length : Int) := by omega
     have hk0 : (0 : Int) ≤ (k : Int) := by omega
     obtain ⟨y, hy⟩ : ∃ y, y = d.servers[k] := ⟨_, rfl⟩
     rw [← hy] at k0
     clear hy
     rcases (by omega : (¬ y.size ≤ 100) ∨ (y.size ≤ 100)) with h1 | h1
     ·obtain ⟨i1, j1, m1⟩ := gt_forms 100 h1 rfl
      go_wp2
      go_ret
      exact few_no (HBW.out _ hb)
     ·obtain ⟨i1, j1, m1⟩ := le_forms 100 h1 rfl
      go_wp2
      go_roundw
      case rel => exact ⟨k + 1, by omega, by go_num, by first | rfl | trivial⟩
      case measure => simp [intOf]; omega
    ·obtain rfl : k = d.servers.length := by omega
     have hkI : ¬ (d.servers.length : Int) < (d.servers.length : Int) := by omega
     rename World => w3
     go_wp2
     go_loopw [6] (fun x wr => ∃ k : Nat, k ≤ d.clients.length ∧ x = .int .i64 k ∧ wr = w3) (fun x _ => d.clients.length - (intOf x).toNat)
     case atStart => exact ⟨0, Nat.zero_le _, rfl, rfl⟩
     case round =>
      obtain ⟨k, hk, rfl, rfl⟩ := hrel
      by_cases hlt : k < d.clients.length
      ·obtain ⟨g, o, fA, fc, rfl, hSg, hp, k0, k1, k2⟩ := cli_at (HX.out wr (HBW.out wr hb)).2.2.2.2 hlt
       have hkI : (k : Int) < (d.clients.length : Int) := by omega
       have hk0 : (0 : Int) ≤ (k : Int) := by omega
       obtain ⟨y, hy⟩ : ∃ y, y = d.clients[k] := ⟨_, rfl⟩
       rw [← hy] at k0 k1 k2
       clear hy hp
       rcases (by omega : (¬ y.faults.length ≤ 110) ∨ (y.faults.length ≤ 110 ∧ ¬ y.name.size ≤ 100) ∨ (y.faults.length ≤ 110 ∧ y.name.size ≤ 100)) with h1 | ⟨h1, h2⟩ | ⟨h1, h2⟩
       ·obtain ⟨i1, j1, m1⟩ := gt_forms 110 h1 rfl
        go_wp2
        go_ret
        exact few_no (HBW.out _ hb)
       ·obtain ⟨i1, j1, m1⟩ := le_forms 110 h1 rfl
        obtain ⟨i2, j2, m2⟩ := gt_forms 100 h2 rfl
        go_wp2
        go_ret
        exact few_no (HBW.out _ hb)
       ·obtain ⟨i1, j1, m1⟩ := le_forms 110 h1 rfl
        obtain ⟨i2, j2, m2⟩ := le_forms 100 h2 rfl
        go_wp2
        go_roundw
        case rel => exact ⟨k + 1, by omega, by go_num, by first | rfl | trivial⟩
        case measure => simp [intOf]; omega
      ·obtain rfl : k = d.clients.length := by omega
       have hkI : ¬ (d.clients.length : Int) < (d.clients.length : Int) := by omega
       rcases (by omega : (¬ d.servers.length ≤ 20) ∨ (d.servers.length ≤ 20 ∧ ¬ d.sites.length ≤ 20) ∨ (d.servers.length ≤ 20 ∧ d.sites.length ≤ 20 ∧ ¬ d.configs.length ≤ 10) ∨ (d.servers.length ≤ 20 ∧ d.sites.length ≤ 20 ∧ d.configs.length ≤ 10 ∧ ¬ d.chain.length ≤ 20) ∨ (d.servers.length ≤ 20 ∧ d.sites.length ≤ 20 ∧ d.configs.length ≤ 10 ∧ d.chain.length ≤ 20 ∧ ¬ d.clients.length ≤ 10) ∨ (d.servers.length ≤ 20 ∧ d.sites.length ≤ 20 ∧ d.configs.length ≤ 10 ∧ d.chain.length ≤ 20 ∧ d.clients.length ≤ 10)) with h1 | ⟨h1, h2⟩ | ⟨h1, h2, h3⟩ | ⟨h1, h2, h3, h4⟩ | ⟨h1, h2, h3, h4, h5⟩ | ⟨h1, h2, h3, h4, h5⟩
       ·obtain ⟨i1, j1, m1⟩ := gt_forms 20 h1 rfl
        go_wp2
        go_ret
        exact few_no (HBW.out _ hb)
       ·obtain ⟨i1, j1, m1⟩ := le_forms 20 h1 rfl
        obtain ⟨i2, j2, m2⟩ := gt_forms 20 h2 rfl
        go_wp2
        go_ret
        exact few_no (HBW.out _ hb)
       ·obtain ⟨i1, j1, m1⟩ := le_forms 20 h1 rfl
        obtain ⟨i2, j2, m2⟩ := le_forms 20 h2 rfl
        obtain ⟨i3, j3, m3⟩ := gt_forms 10 h3 rfl
        go_wp2
        go_ret
        exact few_no (HBW.out _ hb)
       ·obtain ⟨i1, j1, m1⟩ := le_forms 20 h1 rfl
        obtain ⟨i2, j2, m2⟩ := le_forms 20 h2 rfl
        obtain ⟨i3, j3, m3⟩ := le_forms 10 h3 rfl
        obtain ⟨i4, j4, m4⟩ := gt_forms 20 h4 rfl
        go_wp2
        go_ret
        exact few_no (HBW.out _ hb)
       ·obtain ⟨i1, j1, m1⟩ := le_forms 20 h1 rfl
        obtain ⟨i2, j2, m2⟩ := le_forms 20 h2 rfl
        obtain ⟨i3, j3, m3⟩ := le_forms 10 h3 rfl
        obtain ⟨i4, j4, m4⟩ := le_forms 20 h4 rfl
        obtain ⟨i5, j5, m5⟩ := gt_forms 10 h5 rfl
        go_wp2
        go_ret
        exact few_no (HBW.out _ hb)
       ·obtain ⟨i1, j1, m1⟩ := le_forms 20 h1 rfl
        obtain ⟨i2, j2, m2⟩ := le_forms 20 h2 rfl
        obtain ⟨i3, j3, m3⟩ := le_forms 10 h3 rfl
        obtain ⟨i4, j4, m4⟩ := le_forms 20 h4 rfl
        obtain ⟨i5, j5, m5⟩ := le_forms 10 h5 rfl
        have HL := Lib.hid (show DLim d from ⟨by omega, by omega, by omega, by omega, by omega, HSM.out⟩)
        go_wp2
        go_ret
        exact ⟨_, rfl, fun _ => HL.out, HBW.out _ hb⟩
end Go.Proofs.YtmohibkomlhlaaaGreatDoor
