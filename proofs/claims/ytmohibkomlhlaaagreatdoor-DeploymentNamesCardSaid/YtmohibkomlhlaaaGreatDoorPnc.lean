/- Equality of configurations, of clients and of deployments: the program's functions. Condition: few parts. -/
import Derived.Test.YtmohibkomlhlaaaGreatDoorPnb
import Derived.Test.YtmohibkomlhlaaaGreatDoorPna
set_option maxRecDepth 100000
set_option maxHeartbeats 8000000
namespace Go.Proofs.YtmohibkomlhlaaaGreatDoor
open Go.RowKit
open _root_.Go.Proofs.Tryz
def cfgB (x y : DCfg) : Bool := decide (x.name = y.name) && (decide (x.kind = y.kind) && (decide (x.mem = y.mem) && (decide (x.read = y.read) && (decide (x.write = y.write) && decide (x.faults = y.faults)))))
def cliB (x y : DCli) : Bool := decide (x.name = y.name) && (decide (x.plain = y.plain) && decide (x.faults = y.faults))
def allB {α : Type} (f : α → α → Bool) : List α → List α → Bool
 |[], [] => true
 |x :: r, y :: s => f x y && allB f r s
 |_, _ => false
theorem allB_true {α : Type} {f : α → α → Bool} {a : List α} : ∀ {b : List α}, a.length = b.length → (∀ j (h1 : j < a.length) (h2 : j < b.length), f a[j] b[j] = true) → allB f a b = true := by
 induction a with
 |nil => intro b hl _; obtain rfl := List.length_eq_zero_iff.1 hl.symm; rfl
 |cons x r ih =>
  intro b hl h
  cases b with
  |nil => cases hl
  |cons y s =>
   rw [allB, show f x y = true from h 0 (by simp) (by simp), Bool.true_and]
   exact ih (by simpa using hl) fun j h1 h2 => h (j + 1) (by simpa using h1) (by simpa using h2)
theorem allB_false {α : Type} {f : α → α → Bool} {a : List α} : ∀ {b : List α} {k : Nat} (h1 : k < a.length) (h2 : k < b.length), f a[k] b[k] = false → allB f a b = false := by
 induction a with
 |nil => intro b k h1; simp at h1
 |cons x r ih =>
  intro b k h1 h2 h
  cases b with
  |nil => simp at h2
  |cons y s =>
   rw [allB]
   cases k with
   |zero => rw [show f x y = false from h]; rfl
   |succ k => rw [ih (by simpa using h1) (by simpa using h2) h, Bool.and_false]
theorem allB_len {α : Type} {f : α → α → Bool} {a : List α} : ∀ {b : List α}, ¬ a.length = b.length → allB f a b = false := by
 induction a with
 |nil => intro b hl; cases b with
  |nil => exact absurd rfl hl
  |cons y s => rfl
 |cons x r ih =>
  intro b hl
  cases b with
  |nil => rfl
  |cons y s => rw [allB, ih (by simpa using hl), Bool.and_false]
def depB (a b : DDep) : Bool := decide (a.servers = b.servers) && (decide (a.sites = b.sites) && (decide (a.wit = b.wit) && (allB cfgB a.configs b.configs && (decide (a.chain = b.chain) && allB cliB a.clients b.clients))))
theorem depB_refl (a : DDep) : depB a a = true := by
 have h1 : allB cfgB a.configs a.configs = true := allB_true rfl fun j h1 h2 => by simp [cfgB]
 have h2 : allB cliB a.clients a.clients = true := allB_true rfl fun j h1 h2 => by simp [cliB]
 unfold depB; rw [h1, h2]; simp
theorem ways6 (a b c d e f : Bool) : a = false ∨ (a = true ∧ b = false) ∨ (a = true ∧ b = true ∧ c = false) ∨ (a = true ∧ b = true ∧ c = true ∧ d = false) ∨ (a = true ∧ b = true ∧ c = true ∧ d = true ∧ e = false) ∨ (a = true ∧ b = true ∧ c = true ∧ d = true ∧ e = true ∧ f = false) ∨ (a = true ∧ b = true ∧ c = true ∧ d = true ∧ e = true ∧ f = true) := by
 cases a <;> cases b <;> cases c <;> cases d <;> cases e <;> cases f <;> simp
theorem ba_dec (x y : ByteArray) : (x.toList == y.toList) = decide (x = y) := by
 by_cases h : x = y
 ·subst h; simp
 ·rw [ba_ne h]; exact (decide_eq_false h).symm
theorem ba_dec2 (x y : ByteArray) : (x == y) = decide (x = y) := by
 by_cases h : x = y
 ·subst h; rw [ba_self]; simp
 ·rw [ba_nee h]; exact (decide_eq_false h).symm
theorem nat_dec (x y : Nat) : ((x : Int) == (y : Int)) = decide (x = y) := by
 by_cases h : x = y
 ·subst h; simp
 ·rw [nat_ne h]; exact (decide_eq_false h).symm
theorem int_dec (x y : Int) : (x == y) = decide (x = y) := by
 by_cases h : x = y
 ·subst h; simp
 ·rw [int_ne h]; exact (decide_eq_false h).symm
theorem bool_dec (x y : Bool) : (x == y) = decide (x = y) := by cases x <;> cases y <;> rfl
theorem three_cells {w : World} {b : Nat} {v0 v1 v2 : Value} {t : TypeId} (h : w.heap[b]? = some (.cells #[v0, v1, v2] t (0, 0))) : w.cell? ⟨b, 0, none⟩ = some v0 ∧ w.cell? ⟨b, 1, none⟩ = some v1 ∧ w.cell? ⟨b, 2, none⟩ = some v2 := ⟨ah h 0 _ rfl, ah h 1 _ rfl, ah h 2 _ rfl⟩
theorem two_box (w : World) (r1 r2 : Array Value) (t1 t2 : TypeId) : ∃ W1 W2 : World, W1 = w.alloc (.cells r1 t1) ∧ W2 = W1.alloc (.cells r2 t2) ∧ W1.heap.size = w.heap.size + 1 ∧ W2.heap.size = w.heap.size + 2 ∧ Below w.heap.size w W2 ∧
  ∀ X : World, Below W2.heap.size W2 X → X.heap[w.heap.size]? = some (.cells r1 t1 (0, 0)) ∧ X.heap[w.heap.size + 1]? = some (.cells r2 t2 (0, 0)) := by
 have hb1 : Below w.heap.size w (w.alloc (.cells r1 t1)) := (Below.refl _ _).alloc (Nat.le_refl _) _
 have hz1 : (w.alloc (.cells r1 t1)).heap.size = w.heap.size + 1 := by simp
 have hb2 : Below (w.alloc (.cells r1 t1)).heap.size (w.alloc (.cells r1 t1)) ((w.alloc (.cells r1 t1)).alloc (.cells r2 t2)) := (Below.refl _ _).alloc (Nat.le_refl _) _
 have hz2 : ((w.alloc (.cells r1 t1)).alloc (.cells r2 t2)).heap.size = w.heap.size + 2 := by simp
 refine ⟨_, _, rfl, rfl, hz1, hz2, hb1.trans (hb2.mono (by omega)), fun X hX => ⟨(hX.block _ (by omega)).trans ((hb2.block _ (by omega)).trans (heap_alloc_new _ _)), (hX.block _ (by omega)).trans ?_⟩⟩
 rw [← hz1]; exact heap_alloc_new _ _
theorem eqcfg_any (x y : DCfg) (v u : Value) (w : World) (S T : Nat → Prop) (hx : DCfgAt w S x v) (hy : DCfgAt w T y u) (hS : ∀ g, S g → g < w.heap.size) (hT : ∀ g, T g → g < w.heap.size) (l1 : x.read.length ≤ 1000) (l2 : x.write.length ≤ 1000) (l3 : x.faults.length ≤ 1000) :
  Calls prog 52 #[v, u] w fun e w' => e = .returned (.bool (cfgB x y)) ∧ Below w.heap.size w w' := by
 obtain ⟨rA, rcA, wA, wcA, fA, fcA, rfl, a1, a2, a3⟩ := hx
 obtain ⟨rB, rcB, wB, wcB, fB, fcB, rfl, b1, b2, b3⟩ := hy
 obtain ⟨W1, W2, hW1, hW2, hz1, hz2, hbw, hbx⟩ := two_box w #[.string x.name, .int .i64 x.kind, .int .u16 (x.mem : Nat), .slice rA x.read.length rcA, .slice wA x.write.length wcA, .slice fA x.faults.length fcA] #[.string y.name, .int .i64 y.kind, .int .u16 (y.mem : Nat), .slice rB y.read.length rcB, .slice wB y.write.length wcB, .slice fB y.faults.length fcB] 54 54
 obtain ⟨z0, hz10⟩ : ∃ z, z = decide (x.name = y.name) := ⟨_, rfl⟩
 obtain ⟨z1, hz11⟩ : ∃ z, z = decide (x.kind = y.kind) := ⟨_, rfl⟩
 obtain ⟨z2, hz12⟩ : ∃ z, z = decide (x.mem = y.mem) := ⟨_, rfl⟩
 obtain ⟨z3, hz13⟩ : ∃ z, z = decide (x.read = y.read) := ⟨_, rfl⟩
 obtain ⟨z4, hz14⟩ : ∃ z, z = decide (x.write = y.write) := ⟨_, rfl⟩
 obtain ⟨z5, hz15⟩ : ∃ z, z = decide (x.faults = y.faults) := ⟨_, rfl⟩
 have E : Hid (cfgB x y = (z0 && (z1 && (z2 && (z3 && (z4 && (z5))))))) := Lib.hid (by unfold cfgB; rw [← hz10, ← hz11, ← hz12, ← hz13, ← hz14, ← hz15])
 have e0 : (x.name.toList == y.name.toList) = z0 := by rw [hz10]; exact ba_dec _ _
 have e9 : (x.name == y.name) = z0 := by rw [hz10]; exact ba_dec2 _ _
 have e1 : (x.kind == y.kind) = z1 := by rw [hz11]; exact int_dec _ _
 have e2 : ((x.mem : Int) == (y.mem : Int)) = z2 := by rw [hz12]; exact nat_dec _ _
 have HR := Lib.hid (fun (X : World) (hX : Below w.heap.size w X) => eq_sets x.read y.read rA rB rcA rcB X S T (a1.keep (ai hX hS)) (b1.keep (ai hX hT)) (by omega))
 rw [← hz13] at HR
 have HV := Lib.hid (fun (X : World) (hX : Below w.heap.size w X) => eq_sets x.write y.write wA wB wcA wcB X S T (a2.keep (ai hX hS)) (b2.keep (ai hX hT)) (by omega))
 rw [← hz14] at HV
 have HF := Lib.hid (fun (X : World) (hX : Below w.heap.size w X) => eq_flts x.faults y.faults fA fB fcA fcB X S T (a3.keep (ai hX hS)) (b3.keep (ai hX hT)) (by omega))
 rw [← hz15] at HF
 have HBX := Lib.hid (fun (X : World) (hX : Below W2.heap.size W2 X) => And.intro (eD (hbx X hX).1) (eD (hbx X hX).2))
 have H1 := Lib.hid hW1
 have H2 := Lib.hid hW2
 clear hbx hW1 hW2 hz1 hz10 hz11 hz12 hz13 hz14 hz15
 have bx : Below W2.heap.size W2 W2 := Below.refl _ _
 obtain ⟨⟨c0, c1, c2, c3, c4, c5⟩, d0, d1, d2, d3, d4, d5⟩ := HBX.out W2 bx
 rcases ways6 z0 z1 z2 z3 z4 z5 with rfl | ⟨rfl, rfl⟩ | ⟨rfl, rfl, rfl⟩ | ⟨rfl, rfl, rfl, rfl⟩ | ⟨rfl, rfl, rfl, rfl, rfl⟩ | ⟨rfl, rfl, rfl, rfl, rfl, rfl⟩ | ⟨rfl, rfl, rfl, rfl, rfl, rfl⟩
 all_goals
  go_enter func52, ntmps52
  go_upto_region 1 with fail
  rw [← H1.out, ← H2.out]
  go_wp2_with (first | ((with_reducible refine (HR.out _ hbw).mono ?_); rintro e W5 ⟨rfl, hb5⟩; have bx := bx.trans (hb5.mono bx.size); have hbw := hbw.trans (hb5.mono hbw.size); obtain ⟨⟨c0, c1, c2, c3, c4, c5⟩, d0, d1, d2, d3, d4, d5⟩ := HBX.out W5 bx) | ((with_reducible refine (HV.out _ hbw).mono ?_); rintro e W5 ⟨rfl, hb5⟩; have bx := bx.trans (hb5.mono bx.size); have hbw := hbw.trans (hb5.mono hbw.size); obtain ⟨⟨c0, c1, c2, c3, c4, c5⟩, d0, d1, d2, d3, d4, d5⟩ := HBX.out W5 bx) | ((with_reducible refine (HF.out _ hbw).mono ?_); rintro e W5 ⟨rfl, hb5⟩; have bx := bx.trans (hb5.mono bx.size); have hbw := hbw.trans (hb5.mono hbw.size); obtain ⟨⟨c0, c1, c2, c3, c4, c5⟩, d0, d1, d2, d3, d4, d5⟩ := HBX.out W5 bx))
  go_ret
  exact ⟨by rw [E.out]; rfl, hbw⟩
theorem eqcli_any (x y : DCli) (v u : Value) (w : World) (S T : Nat → Prop) (hx : DCliAt w S x v) (hy : DCliAt w T y u) (hS : ∀ g, S g → g < w.heap.size) (hT : ∀ g, T g → g < w.heap.size) (l3 : x.faults.length ≤ 9223372036854775807) :
  Calls prog 55 #[v, u] w fun e w' => e = .returned (.bool (cliB x y)) ∧ Below w.heap.size w w' := by
 obtain ⟨fA, fcA, rfl, a3⟩ := hx
 obtain ⟨fB, fcB, rfl, b3⟩ := hy
 obtain ⟨W1, W2, hW1, hW2, hz1, hz2, hbw, hbx⟩ := two_box w #[.string x.name, .bool x.plain, .slice fA x.faults.length fcA] #[.string y.name, .bool y.plain, .slice fB y.faults.length fcB] 93 93
 obtain ⟨z0, hz10⟩ : ∃ z, z = decide (x.name = y.name) := ⟨_, rfl⟩
 obtain ⟨z1, hz11⟩ : ∃ z, z = decide (x.plain = y.plain) := ⟨_, rfl⟩
 obtain ⟨z2, hz12⟩ : ∃ z, z = decide (x.faults = y.faults) := ⟨_, rfl⟩
 have E : Hid (cliB x y = (z0 && (z1 && (z2)))) := Lib.hid (by unfold cliB; rw [← hz10, ← hz11, ← hz12])
 have e0 : (x.name.toList == y.name.toList) = z0 := by rw [hz10]; exact ba_dec _ _
 have e9 : (x.name == y.name) = z0 := by rw [hz10]; exact ba_dec2 _ _
 have e1 : (x.plain == y.plain) = z1 := by rw [hz11]; exact bool_dec _ _
 have HF := Lib.hid (fun (X : World) (hX : Below w.heap.size w X) => eq_flts x.faults y.faults fA fB fcA fcB X S T (a3.keep (ai hX hS)) (b3.keep (ai hX hT)) l3)
 rw [← hz12] at HF
 have HBX := Lib.hid (fun (X : World) (hX : Below W2.heap.size W2 X) => And.intro (three_cells (hbx X hX).1) (three_cells (hbx X hX).2))
 have H1 := Lib.hid hW1
 have H2 := Lib.hid hW2
 clear hbx hW1 hW2 hz1 hz10 hz11 hz12
 have bx : Below W2.heap.size W2 W2 := Below.refl _ _
 obtain ⟨⟨c0, c1, c2⟩, d0, d1, d2⟩ := HBX.out W2 bx
 rcases ways6 z0 z1 z2 true true true with rfl | ⟨rfl, rfl⟩ | ⟨rfl, rfl, rfl⟩ | ⟨-, -, -, ⟨⟩⟩ | ⟨-, -, -, -, ⟨⟩⟩ | ⟨-, -, -, -, -, ⟨⟩⟩ | ⟨rfl, rfl, rfl, -, -, -⟩
 all_goals
  go_enter func55, ntmps55
  go_upto_region 1 with fail
  rw [← H1.out, ← H2.out]
  go_wp2_with (first | ((with_reducible refine (HF.out _ hbw).mono ?_); rintro e W5 ⟨rfl, hb5⟩; have bx := bx.trans (hb5.mono bx.size); have hbw := hbw.trans (hb5.mono hbw.size); obtain ⟨⟨c0, c1, c2⟩, d0, d1, d2⟩ := HBX.out W5 bx))
  go_ret
  exact ⟨by rw [E.out]; rfl, hbw⟩
theorem eqfunc_cfg (a b : List DCfg) (A B : Option Addr) (c d : Nat) (w : World) (S T : Nat → Prop) (ha : aL (DCfgAt w S) w S 6 A a) (hb : aL (DCfgAt w T) w T 6 B b) (hS : ∀ g, S g → g < w.heap.size) (hT : ∀ g, T g → g < w.heap.size) (hal : a.length ≤ 1000000) (hlim : ∀ x ∈ a, SmallC x) :
  Calls prog 51 #[.slice A a.length c, .slice B b.length d, .func (.func 52) #[] #[]] w fun e w' => e = .returned (.bool (allB cfgB a b)) ∧ Below w.heap.size w w' := by
 have he := enters_of func52 (by kernel_rfl) rfl
 have HA := Lib.hid (fun (X : World) (hX : Below w.heap.size w X) => show aL (DCfgAt X S) X S 6 A a from ha.keep (ai hX hS) (fun _ _ h => h.keep (ai hX hS)))
 have HB := Lib.hid (fun (X : World) (hX : Below w.heap.size w X) => show aL (DCfgAt X T) X T 6 B b from hb.keep (ai hX hT) (fun _ _ h => h.keep (ai hX hT)))
 obtain ⟨n, hn⟩ : ∃ n, n = a.length := ⟨_, rfl⟩
 obtain ⟨m, hm⟩ : ∃ m, m = b.length := ⟨_, rfl⟩
 have HN := Lib.hid hn
 have HM := Lib.hid hm
 rw [← hn] at hal
 rw [← hn, ← hm]
 clear ha hb hn hm
 go_enter func51, ntmps51
 by_cases hnm : n = m
 ·subst hnm
  go_wp2
  go_loopw [17] (fun x wr => ∃ k : Nat, k ≤ n ∧ x = .int .i64 k ∧ Hid (∀ j (h1 : j < a.length) (h2 : j < b.length), j < k → cfgB a[j] b[j] = true) ∧ Below w.heap.size w wr) (fun x _ => n - (intOf x).toNat)
  case atStart => exact ⟨0, Nat.zero_le _, rfl, Lib.hid (fun j _ _ h => absurd h (by omega)), Below.refl _ _⟩
  case round =>
  obtain ⟨k, hk, rfl, hs, hbr⟩ := hrel
  by_cases hkn : k < n
  ·have hlt : k < a.length := by rw [← HN.out]; exact hkn
   have hlb : k < b.length := by rw [← HM.out]; exact hkn
   have hsz := hbr.size
   obtain ⟨gA, oA, rA, rcA, wA, wcA, fA, fcA, rfl, hSA, hpA, k0, k1, k2, k3, k4, k5⟩ := cfg_at (HA.out wr hbr) hlt
   obtain ⟨hra, hza⟩ := range6 k0 k1 k2 k3 k4 k5
   obtain ⟨x, hx⟩ : ∃ x, x = a[k] := ⟨_, rfl⟩
   rw [← hx] at hra hza hpA
   have HXX := Lib.hid hx
   have HLX := Lib.hid (hlim x (hx ▸ List.getElem_mem hlt))
   have hkI : (k : Int) < (n : Int) := by omega
   have hk0 : (0 : Int) ≤ (k : Int) := by omega
   clear hx k0 k1 k2 k3 k4 k5
   go_upto_region 6 with (first | (with_reducible refine wpList_load_mid rfl 54 (.tmp 20) rfl gA (oA + k * 6) rfl _ _ hra underlying54 rfl hza ?_) | ((with_reducible refine list_row 54 6 Cw _ rfl rfl (.tmp 8) (.tmp 21) rfl wr.heap.size _ rfl rfl _ (heap_alloc_new wr _) rfl rfl (by simp [Value.oneCell']) ?_); intro W5 hr5 hg5))
   have hb5 : Below wr.heap.size wr W5 := ((Below.refl _ _).alloc (Nat.le_refl _) _).trans (below_grown hg5 (Nat.le_refl _) (by simp))
   have zI := hbr.trans (hb5.mono hsz)
   have hs5 := hb5.size
   obtain ⟨gB, oB, rB, rcB, wB, wcB, fB, fcB, rfl, hSB, hpB, k0, k1, k2, k3, k4, k5⟩ := cfg_at (HB.out W5 zI) hlb
   obtain ⟨hrb, hzb⟩ := range6 k0 k1 k2 k3 k4 k5
   obtain ⟨y, hy⟩ : ∃ y, y = b[k] := ⟨_, rfl⟩
   rw [← hy] at hrb hzb hpB
   have HYY := Lib.hid hy
   have HR5 := Lib.hid hr5
   clear hy hg5 hra hza k0 k1 k2 k3 k4 k5 hr5
   go_upto_region 7 with (first | (with_reducible refine wpList_load_mid rfl 54 (.tmp 24) rfl gB (oB + k * 6) rfl _ _ hrb underlying54 rfl hzb ?_) | ((with_reducible refine list_row 54 6 Cw _ rfl rfl (.tmp 9) (.tmp 25) rfl W5.heap.size _ rfl rfl _ (heap_alloc_new W5 _) rfl rfl (by simp [Value.oneCell']) ?_); intro W6 hr6 hg6))
   have hb6 : Below W5.heap.size W5 W6 := ((Below.refl _ _).alloc (Nat.le_refl _) _).trans (below_grown hg6 (Nat.le_refl _) (by simp))
   have Ib := zI.trans (hb6.mono zI.size)
   have q5 := (hb6.block _ (lt_of_block HR5.out)).trans HR5.out
   have HC := Lib.hid (eqcfg_any x y _ _ W6 S T (hpA.keep (ai (hb5.trans (hb6.mono hs5)) (fun g hg => by have := hS g hg; omega))) (hpB.keep (ai hb6 (fun g hg => by have := hT g hg; omega))) (fun g hg => by have := hS g hg; have := hb6.size; omega) (fun g hg => by have := hT g hg; have := hb6.size; omega) HLX.out.1 HLX.out.2.1 HLX.out.2.2)
   obtain ⟨z, hz⟩ : ∃ z, z = cfgB x y := ⟨_, rfl⟩
   rw [← hz] at HC
   have HZ := Lib.hid hz
   have HB6 := Lib.hid Ib
   obtain ⟨c0, c1, c2, c3, c4, c5⟩ := eD q5
   obtain ⟨d0, d1, d2, d3, d4, d5⟩ := eD hr6
   clear hz Ib hb6 zI hb5 hg6 hpA hpB hrb hzb
   cases z
   ·have HE := Lib.hid (allB_false (f := cfgB) hlt hlb (by rw [← HXX.out, ← HYY.out]; exact HZ.out.symm))
    go_wp2_with fail
    refine HC.out.mono ?_
    rintro e W7 ⟨rfl, hb7⟩
    go_wp2
    go_ret
    exact ⟨by rw [HE.out]; rfl, HB6.out.trans (hb7.mono HB6.out.size)⟩
   ·have HS1 := Lib.hid (fun j (h1 : j < a.length) (h2 : j < b.length) (hj : j < k + 1) => show cfgB a[j] b[j] = true from by
     by_cases h9 : j = k
     ·subst h9; rw [← HXX.out, ← HYY.out]; exact HZ.out.symm
     ·exact hs.out j h1 h2 (by omega))
    go_wp2_with fail
    refine HC.out.mono ?_
    rintro e W7 ⟨rfl, hb7⟩
    go_wp2
    go_roundw
    case rel => exact ⟨k + 1, by omega, by go_num, HS1, HB6.out.trans (hb7.mono HB6.out.size)⟩
    case measure => simp [intOf]; omega
  ·obtain rfl : k = n := by omega
   have hkI : ¬ (k : Int) < (k : Int) := by omega
   have HE := Lib.hid (allB_true (f := cfgB) (HN.out.symm.trans HM.out) (fun j h1 h2 => hs.out j h1 h2 (by rw [HN.out]; exact h1)))
   clear hs
   go_wp2
   go_ret
   exact ⟨by rw [HE.out]; rfl, hbr⟩
 ·have HE := Lib.hid (allB_len (f := cfgB) (fun e => hnm (by rw [HN.out, HM.out, e])))
  have hnI := natNeq2 hnm
  clear hnm
  go_wp2
  go_ret
  exact ⟨by rw [HE.out]; rfl, Below.refl _ _⟩
theorem eqfunc_cli (a b : List DCli) (A B : Option Addr) (c d : Nat) (w : World) (S T : Nat → Prop) (ha : aL (DCliAt w S) w S 3 A a) (hb : aL (DCliAt w T) w T 3 B b) (hS : ∀ g, S g → g < w.heap.size) (hT : ∀ g, T g → g < w.heap.size) (hal : a.length ≤ 1000000) (hlim : ∀ x ∈ a, x.faults.length ≤ 9223372036854775807) :
  Calls prog 54 #[.slice A a.length c, .slice B b.length d, .func (.func 55) #[] #[]] w fun e w' => e = .returned (.bool (allB cliB a b)) ∧ Below w.heap.size w w' := by
 have he := enters_of func55 (by kernel_rfl) rfl
 have HA := Lib.hid (fun (X : World) (hX : Below w.heap.size w X) => show aL (DCliAt X S) X S 3 A a from ha.keep (ai hX hS) (fun _ _ h => h.keep (ai hX hS)))
 have HB := Lib.hid (fun (X : World) (hX : Below w.heap.size w X) => show aL (DCliAt X T) X T 3 B b from hb.keep (ai hX hT) (fun _ _ h => h.keep (ai hX hT)))
 obtain ⟨n, hn⟩ : ∃ n, n = a.length := ⟨_, rfl⟩
 obtain ⟨m, hm⟩ : ∃ m, m = b.length := ⟨_, rfl⟩
 have HN := Lib.hid hn
 have HM := Lib.hid hm
 rw [← hn] at hal
 rw [← hn, ← hm]
 clear ha hb hn hm
 go_enter func54, ntmps54
 by_cases hnm : n = m
 ·subst hnm
  go_wp2
  go_loopw [17] (fun x wr => ∃ k : Nat, k ≤ n ∧ x = .int .i64 k ∧ Hid (∀ j (h1 : j < a.length) (h2 : j < b.length), j < k → cliB a[j] b[j] = true) ∧ Below w.heap.size w wr) (fun x _ => n - (intOf x).toNat)
  case atStart => exact ⟨0, Nat.zero_le _, rfl, Lib.hid (fun j _ _ h => absurd h (by omega)), Below.refl _ _⟩
  case round =>
  obtain ⟨k, hk, rfl, hs, hbr⟩ := hrel
  by_cases hkn : k < n
  ·have hlt : k < a.length := by rw [← HN.out]; exact hkn
   have hlb : k < b.length := by rw [← HM.out]; exact hkn
   have hsz := hbr.size
   obtain ⟨gA, oA, fA, fcA, rfl, hSA, hpA, k0, k1, k2⟩ := cli_at (HA.out wr hbr) hlt
   obtain ⟨hra, hza⟩ := range3 k0 k1 k2
   obtain ⟨x, hx⟩ : ∃ x, x = a[k] := ⟨_, rfl⟩
   rw [← hx] at hra hza hpA
   have HXX := Lib.hid hx
   have HLX := Lib.hid (hlim x (hx ▸ List.getElem_mem hlt))
   have hkI : (k : Int) < (n : Int) := by omega
   have hk0 : (0 : Int) ≤ (k : Int) := by omega
   clear hx k0 k1 k2
   go_upto_region 6 with (first | (with_reducible refine wpList_load_mid rfl 93 (.tmp 20) rfl gA (oA + k * 3) rfl _ _ hra underlying93 rfl hza ?_) | ((with_reducible refine list_row 93 3 size_client _ rfl rfl (.tmp 8) (.tmp 21) rfl wr.heap.size _ rfl rfl _ (heap_alloc_new wr _) rfl rfl (by simp [Value.oneCell']) ?_); intro W5 hr5 hg5))
   have hb5 : Below wr.heap.size wr W5 := ((Below.refl _ _).alloc (Nat.le_refl _) _).trans (below_grown hg5 (Nat.le_refl _) (by simp))
   have zI := hbr.trans (hb5.mono hsz)
   have hs5 := hb5.size
   obtain ⟨gB, oB, fB, fcB, rfl, hSB, hpB, k0, k1, k2⟩ := cli_at (HB.out W5 zI) hlb
   obtain ⟨hrb, hzb⟩ := range3 k0 k1 k2
   obtain ⟨y, hy⟩ : ∃ y, y = b[k] := ⟨_, rfl⟩
   rw [← hy] at hrb hzb hpB
   have HYY := Lib.hid hy
   have HR5 := Lib.hid hr5
   clear hy hg5 hra hza k0 k1 k2 hr5
   go_upto_region 7 with (first | (with_reducible refine wpList_load_mid rfl 93 (.tmp 24) rfl gB (oB + k * 3) rfl _ _ hrb underlying93 rfl hzb ?_) | ((with_reducible refine list_row 93 3 size_client _ rfl rfl (.tmp 9) (.tmp 25) rfl W5.heap.size _ rfl rfl _ (heap_alloc_new W5 _) rfl rfl (by simp [Value.oneCell']) ?_); intro W6 hr6 hg6))
   have hb6 : Below W5.heap.size W5 W6 := ((Below.refl _ _).alloc (Nat.le_refl _) _).trans (below_grown hg6 (Nat.le_refl _) (by simp))
   have Ib := zI.trans (hb6.mono zI.size)
   have q5 := (hb6.block _ (lt_of_block HR5.out)).trans HR5.out
   have HC := Lib.hid (eqcli_any x y _ _ W6 S T (hpA.keep (ai (hb5.trans (hb6.mono hs5)) (fun g hg => by have := hS g hg; omega))) (hpB.keep (ai hb6 (fun g hg => by have := hT g hg; omega))) (fun g hg => by have := hS g hg; have := hb6.size; omega) (fun g hg => by have := hT g hg; have := hb6.size; omega) HLX.out)
   obtain ⟨z, hz⟩ : ∃ z, z = cliB x y := ⟨_, rfl⟩
   rw [← hz] at HC
   have HZ := Lib.hid hz
   have HB6 := Lib.hid Ib
   obtain ⟨c0, c1, c2⟩ := three_cells q5
   obtain ⟨d0, d1, d2⟩ := three_cells hr6
   clear hz Ib hb6 zI hb5 hg6 hpA hpB hrb hzb
   cases z
   ·have HE := Lib.hid (allB_false (f := cliB) hlt hlb (by rw [← HXX.out, ← HYY.out]; exact HZ.out.symm))
    go_wp2_with fail
    refine HC.out.mono ?_
    rintro e W7 ⟨rfl, hb7⟩
    go_wp2
    go_ret
    exact ⟨by rw [HE.out]; rfl, HB6.out.trans (hb7.mono HB6.out.size)⟩
   ·have HS1 := Lib.hid (fun j (h1 : j < a.length) (h2 : j < b.length) (hj : j < k + 1) => show cliB a[j] b[j] = true from by
     by_cases h9 : j = k
     ·subst h9; rw [← HXX.out, ← HYY.out]; exact HZ.out.symm
     ·exact hs.out j h1 h2 (by omega))
    go_wp2_with fail
    refine HC.out.mono ?_
    rintro e W7 ⟨rfl, hb7⟩
    go_wp2
    go_roundw
    case rel => exact ⟨k + 1, by omega, by go_num, HS1, HB6.out.trans (hb7.mono HB6.out.size)⟩
    case measure => simp [intOf]; omega
  ·obtain rfl : k = n := by omega
   have hkI : ¬ (k : Int) < (k : Int) := by omega
   have HE := Lib.hid (allB_true (f := cliB) (HN.out.symm.trans HM.out) (fun j h1 h2 => hs.out j h1 h2 (by rw [HN.out]; exact h1)))
   clear hs
   go_wp2
   go_ret
   exact ⟨by rw [HE.out]; rfl, hbr⟩
 ·have HE := Lib.hid (allB_len (f := cliB) (fun e => hnm (by rw [HN.out, HM.out, e])))
  have hnI := natNeq2 hnm
  clear hnm
  go_wp2
  go_ret
  exact ⟨by rw [HE.out]; rfl, Below.refl _ _⟩
theorem equal_prog (a b : DDep) (v u : Value) (w : World) (S T : Nat → Prop) (hx : DDepAt w S a v) (hy : DDepAt w T b u) (hS : ∀ g, S g → g < w.heap.size) (hT : ∀ g, T g → g < w.heap.size) (hl : DLim a) (hm : ∀ x ∈ a.clients, x.faults.length ≤ 9223372036854775807) :
  Calls prog 21 #[v, u] w fun e w' => e = .returned (.bool (depB a b)) ∧ Below w.heap.size w w' := by
 obtain ⟨sa, sca, ta, tca, ca, cca, ha, hca, ka, kca, rfl, a1, a2, a3, a4, a5⟩ := hx
 obtain ⟨sb, scb, tb, tcb, cb, ccb, hb, hcb, kb, kcb, rfl, b1, b2, b3, b4, b5⟩ := hy
 obtain ⟨W1, W2, hW1, hW2, hz1, hz2, hbw, hbx⟩ := two_box w #[.slice sa a.servers.length sca, .slice ta a.sites.length tca, .int .u16 (a.wit : Nat), .slice ca a.configs.length cca, .slice ha a.chain.length hca, .slice ka a.clients.length kca] #[.slice sb b.servers.length scb, .slice tb b.sites.length tcb, .int .u16 (b.wit : Nat), .slice cb b.configs.length ccb, .slice hb b.chain.length hcb, .slice kb b.clients.length kcb] 48 48
 obtain ⟨z0, hz10⟩ : ∃ z, z = decide (a.servers = b.servers) := ⟨_, rfl⟩
 obtain ⟨z1, hz11⟩ : ∃ z, z = decide (a.sites = b.sites) := ⟨_, rfl⟩
 obtain ⟨z2, hz12⟩ : ∃ z, z = decide (a.wit = b.wit) := ⟨_, rfl⟩
 obtain ⟨z3, hz13⟩ : ∃ z, z = allB cfgB a.configs b.configs := ⟨_, rfl⟩
 obtain ⟨z4, hz14⟩ : ∃ z, z = decide (a.chain = b.chain) := ⟨_, rfl⟩
 obtain ⟨z5, hz15⟩ : ∃ z, z = allB cliB a.clients b.clients := ⟨_, rfl⟩
 have E : Hid (depB a b = (z0 && (z1 && (z2 && (z3 && (z4 && z5)))))) := Lib.hid (by unfold depB; rw [← hz10, ← hz11, ← hz12, ← hz13, ← hz14, ← hz15])
 have e2 : ((a.wit : Int) == (b.wit : Int)) = z2 := by rw [hz12]; exact nat_dec _ _
 have HS := Lib.hid (fun (X : World) (hX : Below w.heap.size w X) => eq_strs a.servers b.servers sa sb sca scb X S T (a1.keep (ai hX hS)) (b1.keep (ai hX hT)) (by have := hl.1; omega))
 rw [← hz10] at HS
 have HT := Lib.hid (fun (X : World) (hX : Below w.heap.size w X) => eq_sites a.sites b.sites ta tb tca tcb X S T (a2.keep (ai hX hS)) (b2.keep (ai hX hT)) (by have := hl.2.1; omega))
 rw [← hz11] at HT
 have HC := Lib.hid (fun (X : World) (hX : Below w.heap.size w X) => eqfunc_cfg a.configs b.configs ca cb cca ccb X S T (a3.keep (ai hX hS) (fun _ _ h => h.keep (ai hX hS))) (b3.keep (ai hX hT) (fun _ _ h => h.keep (ai hX hT))) (fun g hg => Nat.lt_of_lt_of_le (hS g hg) hX.size) (fun g hg => Nat.lt_of_lt_of_le (hT g hg) hX.size) hl.2.2.1 hl.2.2.2.2.2)
 rw [← hz13] at HC
 have HH := Lib.hid (fun (X : World) (hX : Below w.heap.size w X) => eq_ints a.chain b.chain ha hb hca hcb X S T (a4.keep (ai hX hS)) (b4.keep (ai hX hT)) (by have := hl.2.2.2.1; omega))
 rw [← hz14] at HH
 have HK := Lib.hid (fun (X : World) (hX : Below w.heap.size w X) => eqfunc_cli a.clients b.clients ka kb kca kcb X S T (a5.keep (ai hX hS) (fun _ _ h => h.keep (ai hX hS))) (b5.keep (ai hX hT) (fun _ _ h => h.keep (ai hX hT))) (fun g hg => Nat.lt_of_lt_of_le (hS g hg) hX.size) (fun g hg => Nat.lt_of_lt_of_le (hT g hg) hX.size) hl.2.2.2.2.1 hm)
 rw [← hz15] at HK
 have HBX := Lib.hid (fun (X : World) (hX : Below W2.heap.size W2 X) => And.intro (eD (hbx X hX).1) (eD (hbx X hX).2))
 have H1 := Lib.hid hW1
 have H2 := Lib.hid hW2
 clear hbx hW1 hW2 hz1 hz10 hz11 hz12 hz13 hz14 hz15 a1 a2 a3 a4 a5 b1 b2 b3 b4 b5 hm hl
 have bx : Below W2.heap.size W2 W2 := Below.refl _ _
 obtain ⟨⟨c0, c1, c2, c3, c4, c5⟩, d0, d1, d2, d3, d4, d5⟩ := HBX.out W2 bx
 have he1 := enters_of func52 (by kernel_rfl) rfl
 have he2 := enters_of func55 (by kernel_rfl) rfl
 rcases ways6 z0 z1 z2 z3 z4 z5 with rfl | ⟨rfl, rfl⟩ | ⟨rfl, rfl, rfl⟩ | ⟨rfl, rfl, rfl, rfl⟩ | ⟨rfl, rfl, rfl, rfl, rfl⟩ | ⟨rfl, rfl, rfl, rfl, rfl, rfl⟩ | ⟨rfl, rfl, rfl, rfl, rfl, rfl⟩
 all_goals
  go_enter func21, ntmps21
  go_upto_region 1 with fail
  rw [← H1.out, ← H2.out]
  go_wp2_with (first | ((with_reducible refine (HS.out _ hbw).mono ?_); rintro e W5 ⟨rfl, hb5⟩; have bx := bx.trans (hb5.mono bx.size); have hbw := hbw.trans (hb5.mono hbw.size); obtain ⟨⟨c0, c1, c2, c3, c4, c5⟩, d0, d1, d2, d3, d4, d5⟩ := HBX.out W5 bx) | ((with_reducible refine (HT.out _ hbw).mono ?_); rintro e W5 ⟨rfl, hb5⟩; have bx := bx.trans (hb5.mono bx.size); have hbw := hbw.trans (hb5.mono hbw.size); obtain ⟨⟨c0, c1, c2, c3, c4, c5⟩, d0, d1, d2, d3, d4, d5⟩ := HBX.out W5 bx) | ((with_reducible refine (HC.out _ hbw).mono ?_); rintro e W5 ⟨rfl, hb5⟩; have bx := bx.trans (hb5.mono bx.size); have hbw := hbw.trans (hb5.mono hbw.size); obtain ⟨⟨c0, c1, c2, c3, c4, c5⟩, d0, d1, d2, d3, d4, d5⟩ := HBX.out W5 bx) | ((with_reducible refine (HH.out _ hbw).mono ?_); rintro e W5 ⟨rfl, hb5⟩; have bx := bx.trans (hb5.mono bx.size); have hbw := hbw.trans (hb5.mono hbw.size); obtain ⟨⟨c0, c1, c2, c3, c4, c5⟩, d0, d1, d2, d3, d4, d5⟩ := HBX.out W5 bx) | ((with_reducible refine (HK.out _ hbw).mono ?_); rintro e W5 ⟨rfl, hb5⟩; have bx := bx.trans (hb5.mono bx.size); have hbw := hbw.trans (hb5.mono hbw.size); obtain ⟨⟨c0, c1, c2, c3, c4, c5⟩, d0, d1, d2, d3, d4, d5⟩ := HBX.out W5 bx))
  go_ret
  exact ⟨by rw [E.out]; rfl, hbw⟩
end Go.Proofs.YtmohibkomlhlaaaGreatDoor
