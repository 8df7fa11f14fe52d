/- Deployments: their plain form and how they lie in memory. No condition. Equality of two lists: slices.Equal at names, sites, numbers, sets and faults, and the aU functions. No condition but that an int counts each. The contracts of slices.Clone at sets and at faults, and of copied. Condition: few elements. -/
import Derived.Test.YtmohibkomlhlaaaGreatDoorPkMem
import Derived.Test.YtmohibkomlhlaaaGreatDoorPda
import Derived.Test.YtmohibkomlhlaaaGreatDoorPdi
set_option maxRecDepth 100000
set_option maxHeartbeats 8000000
namespace Go.Proofs.YtmohibkomlhlaaaGreatDoor
open Go.RowKit
open _root_.Go.Proofs.Tryz
structure DCfg where
 name : ByteArray
 kind : Int
 mem : Nat
 read : List Nat
 write : List Nat
 faults : List (Nat × Nat)
structure DCli where
 name : ByteArray
 plain : Bool
 faults : List (Nat × Nat)
structure DDep where
 servers : List ByteArray
 sites : List (ByteArray × Nat)
 wit : Nat
 configs : List DCfg
 chain : List Int
 clients : List DCli
def siteVals (l : List (ByteArray × Nat)) : List Value := l.flatMap fun p => [Value.string p.1, Value.int .u16 (p.2 : Nat)]
theorem two_cell {α : Type} {w : World} {S : Nat → Prop} {A : Option Addr} {l : List α} {f g : α → Value} {k : Nat} (h : ak w S 2 A l.length (l.flatMap fun p => [f p, g p])) (hk : k < l.length) :
  ∃ b o, A = some ⟨b, o, none⟩ ∧ S b ∧ w.cell? ⟨b, o + k * 2, none⟩ = some (f l[k]) ∧ w.cell? ⟨b, o + k * 2 + 1, none⟩ = some (g l[k]) := by
 obtain ⟨b, o, e, hS, hc⟩ := h.cells (by omega)
 have key : ∀ (l : List α) (k : Nat) (hk : k < l.length), (l.flatMap fun p => [f p, g p])[k * 2]? = some (f l[k]) ∧ (l.flatMap fun p => [f p, g p])[k * 2 + 1]? = some (g l[k]) := by
  intro l
  induction l with
  |nil => intro k hk; simp at hk
  |cons p r ih =>
   intro k hk
   cases k with
   |zero => exact ⟨rfl, rfl⟩
   |succ k =>
    obtain ⟨h1, h2⟩ := ih k (by simpa using hk)
    exact ⟨by rw [Nat.succ_mul]; exact h1, by rw [Nat.succ_mul]; exact h2⟩
 obtain ⟨k0, k1⟩ := key l k hk
 exact ⟨b, o, e, hS, hc _ _ k0, by rw [Nat.add_assoc]; exact hc _ _ k1⟩
theorem ba_ne {x y : ByteArray} (h : x ≠ y) : (x.toList == y.toList) = false := by
 rw [beq_eq_false_iff_ne, ByteArray.toList_eq, ByteArray.toList_eq]
 intro e; exact h (ByteArray.ext (Array.toList_inj.1 e))
theorem ba_nee {x y : ByteArray} (h : x ≠ y) : (x == y) = false := by rw [Bool.eq_false_iff]; intro e; exact h ((eB _ _).1 e)
theorem ba_self (x : ByteArray) : (x == x) = true := (eB _ _).2 rfl
theorem natNeq2 {n m : Nat} (h : ¬ n = m) : ((n : Int) != (m : Int)) = true := by simp; omega
def DCfgAt (w : World) (S : Nat → Prop) (x : DCfg) (v : Value) : Prop := ∃ rA rc wA wc fA fc, v = .agg #[.string x.name, .int .i64 x.kind, .int .u16 (x.mem : Nat), .slice rA x.read.length rc, .slice wA x.write.length wc, .slice fA x.faults.length fc] ∧
 ak w S 1 rA x.read.length (fG x.read) ∧ ak w S 1 wA x.write.length (fG x.write) ∧ ak w S 2 fA x.faults.length (bG x.faults)
def DCliAt (w : World) (S : Nat → Prop) (x : DCli) (v : Value) : Prop := ∃ fA fc, v = .agg #[.string x.name, .bool x.plain, .slice fA x.faults.length fc] ∧ ak w S 2 fA x.faults.length (bG x.faults)
def DDepAt (w : World) (S : Nat → Prop) (x : DDep) (v : Value) : Prop := ∃ sA sc tA tc cA cc hA hc kA kc, v = .agg #[.slice sA x.servers.length sc, .slice tA x.sites.length tc, .int .u16 (x.wit : Nat), .slice cA x.configs.length cc, .slice hA x.chain.length hc, .slice kA x.clients.length kc] ∧
 ak w S 1 sA x.servers.length (aA x.servers) ∧ ak w S 2 tA x.sites.length (siteVals x.sites) ∧ aL (DCfgAt w S) w S 6 cA x.configs ∧ ak w S 1 hA x.chain.length (cu x.chain) ∧ aL (DCliAt w S) w S 3 kA x.clients
theorem same_all {α : Type} {a b : List α} {n : Nat} (ha : a.length = n) (hb : b.length = n) (h : ∀ j, j < n → a[j]? = b[j]?) : a = b := by
 apply List.ext_getElem?
 intro j
 by_cases hj : j < n
 ·exact h j hj
 ·rw [List.getElem?_eq_none (by omega), List.getElem?_eq_none (by omega)]
theorem same_not {α : Type} {a b : List α} {k : Nat} (ha : k < a.length) (hb : k < b.length) (h : a[k] ≠ b[k]) : a ≠ b := fun e => h (by subst e; rfl)
theorem same_step {α : Type} {a b : List α} {k : Nat} (ha : k < a.length) (hb : k < b.length) (h : a[k] = b[k]) (hs : ∀ j, j < k → a[j]? = b[j]?) : ∀ j, j < k + 1 → a[j]? = b[j]? := by
 intro j hj
 by_cases e : j = k
 ·subst e; rw [List.getElem?_eq_getElem ha, List.getElem?_eq_getElem hb, h]
 ·exact hs j (by omega)
theorem nat_ne {x y : Nat} (h : x ≠ y) : ((x : Int) == (y : Int)) = false := by rw [beq_eq_false_iff_ne]; omega
theorem int_ne {x y : Int} (h : x ≠ y) : (x == y) = false := by rw [beq_eq_false_iff_ne]; exact h
theorem eq_strs (a b : List (ByteArray)) (A B : Option Addr) (c d : Nat) (w : World) (S T : Nat → Prop) (ha : ak w S 1 A a.length (aA a)) (hb : ak w T 1 B b.length (aA b)) (hal : a.length ≤ 9223372036854775807) :
  Calls prog 49 #[.slice A a.length c, .slice B b.length d] w fun e w' => e = .returned (.bool (decide (a = b))) ∧ Below w.heap.size w w' := by
 have HA := Lib.hid ha
 have HB := Lib.hid hb
 obtain ⟨n, hn⟩ : ∃ n, n = a.length := ⟨_, rfl⟩
 obtain ⟨m, hm⟩ : ∃ m, m = b.length := ⟨_, rfl⟩
 have HN := Lib.hid hn
 have HM := Lib.hid hm
 rw [← hn] at hal
 rw [← hn, ← hm]
 clear ha hb hn hm
 go_enter func49, ntmps49
 by_cases hnm : n = m
 ·subst hnm
  go_wp2
  go_loopw [13] (fun x wr => ∃ k : Nat, k ≤ n ∧ x = .int .i64 k ∧ Hid (∀ j, j < k → a[j]? = b[j]?) ∧ Below w.heap.size w wr) (fun x _ => n - (intOf x).toNat)
  case atStart => exact ⟨0, Nat.zero_le _, rfl, Lib.hid (fun j h => absurd h (by omega)), Below.refl _ _⟩
  case round =>
  obtain ⟨k, hk, rfl, hs, hbr⟩ := hrel
  by_cases hkn : k < n
  ·have hlt : k < a.length := by rw [← HN.out]; exact hkn
   have hlb : k < b.length := by rw [← HM.out]; exact hkn
   obtain ⟨g1, o1, rfl, -, p1⟩ := one_cell (HA.out.keep (aH hbr)) hlt
   obtain ⟨g2, o2, rfl, -, r1⟩ := one_cell (HB.out.keep (aH hbr)) hlb
   have hg1 : g1 < wr.heap.size := World.block_lt_of_cell? wr _ p1
   have hg2 : g2 < wr.heap.size := World.block_lt_of_cell? wr _ r1
   obtain ⟨x1, hx1⟩ : ∃ x1, x1 = a[k] := ⟨_, rfl⟩
   obtain ⟨y1, hy1⟩ : ∃ y1, y1 = b[k] := ⟨_, rfl⟩
   rw [← hx1] at p1; rw [← hy1] at r1
   have HX1 := Lib.hid hx1
   have HY1 := Lib.hid hy1
   clear hx1 hy1
   have hkI : (k : Int) < (n : Int) := by omega
   have hk0 : (0 : Int) ≤ (k : Int) := by omega
   by_cases he : x1 = y1
   ·subst he
    go_wp2_with go_quiet (fail)
    go_wp2
    go_roundw
    case rel => exact ⟨k + 1, by omega, by go_num, Lib.hid (same_step hlt hlb (HX1.out.symm.trans HY1.out) hs.out), by first | exact hbr | exact below_drewN hbr _⟩
    case measure => simp [intOf]; omega
   ·
    have HNE := Lib.hid (fun e : a[k] = b[k] => he (by rw [HX1.out, HY1.out, e]))
    have e1 := ba_ne he
    clear he
    go_wp2_with go_quiet (fail)
    go_wp2
    go_ret
    exact ⟨by rw [decide_eq_false (same_not hlt hlb HNE.out)]; rfl, by first | exact hbr | exact below_drewN hbr _⟩
  ·obtain rfl : k = n := by omega
   have hkI : ¬ (k : Int) < (k : Int) := by omega
   have HE := Lib.hid (same_all HN.out.symm HM.out.symm hs.out)
   clear hs
   go_wp2
   go_ret
   exact ⟨by rw [decide_eq_true HE.out]; rfl, hbr⟩
 ·have HE : Hid (¬ a = b) := Lib.hid (fun e => hnm (by rw [HN.out, HM.out, e]))
  have hnI := natNeq2 hnm
  clear hnm
  go_wp2
  go_ret
  exact ⟨by rw [decide_eq_false HE.out]; rfl, Below.refl _ _⟩
theorem eq_sites (a b : List (ByteArray × Nat)) (A B : Option Addr) (c d : Nat) (w : World) (S T : Nat → Prop) (ha : ak w S 2 A a.length (siteVals a)) (hb : ak w T 2 B b.length (siteVals b)) (hal : a.length ≤ 9223372036854775807) :
  Calls prog 50 #[.slice A a.length c, .slice B b.length d] w fun e w' => e = .returned (.bool (decide (a = b))) ∧ Below w.heap.size w w' := by
 have HA := Lib.hid ha
 have HB := Lib.hid hb
 obtain ⟨n, hn⟩ : ∃ n, n = a.length := ⟨_, rfl⟩
 obtain ⟨m, hm⟩ : ∃ m, m = b.length := ⟨_, rfl⟩
 have HN := Lib.hid hn
 have HM := Lib.hid hm
 rw [← hn] at hal
 rw [← hn, ← hm]
 clear ha hb hn hm
 go_enter func50, ntmps50
 by_cases hnm : n = m
 ·subst hnm
  go_wp2
  go_loopw [13] (fun x wr => ∃ k : Nat, k ≤ n ∧ x = .int .i64 k ∧ Hid (∀ j, j < k → a[j]? = b[j]?) ∧ Below w.heap.size w wr) (fun x _ => n - (intOf x).toNat)
  case atStart => exact ⟨0, Nat.zero_le _, rfl, Lib.hid (fun j h => absurd h (by omega)), Below.refl _ _⟩
  case round =>
  obtain ⟨k, hk, rfl, hs, hbr⟩ := hrel
  by_cases hkn : k < n
  ·have hlt : k < a.length := by rw [← HN.out]; exact hkn
   have hlb : k < b.length := by rw [← HM.out]; exact hkn
   obtain ⟨g1, o1, rfl, -, p1, p2⟩ := two_cell (HA.out.keep (aH hbr)) hlt
   obtain ⟨g2, o2, rfl, -, r1, r2⟩ := two_cell (HB.out.keep (aH hbr)) hlb
   have hg1 : g1 < wr.heap.size := World.block_lt_of_cell? wr _ p1
   have hg2 : g2 < wr.heap.size := World.block_lt_of_cell? wr _ r1
   obtain ⟨x1, hx1⟩ : ∃ x1, x1 = a[k].1 := ⟨_, rfl⟩
   obtain ⟨x2, hx2⟩ : ∃ x2, x2 = a[k].2 := ⟨_, rfl⟩
   obtain ⟨y1, hy1⟩ : ∃ y1, y1 = b[k].1 := ⟨_, rfl⟩
   obtain ⟨y2, hy2⟩ : ∃ y2, y2 = b[k].2 := ⟨_, rfl⟩
   rw [← hx1] at p1; rw [← hx2] at p2; rw [← hy1] at r1; rw [← hy2] at r2
   have HX1 := Lib.hid hx1
   have HX2 := Lib.hid hx2
   have HY1 := Lib.hid hy1
   have HY2 := Lib.hid hy2
   clear hx1 hx2 hy1 hy2
   have hkI : (k : Int) < (n : Int) := by omega
   have hk0 : (0 : Int) ≤ (k : Int) := by omega
   by_cases he : x1 = y1 ∧ x2 = y2
   ·obtain ⟨rfl, rfl⟩ := he
    go_wp2_with go_quiet (fail)
    go_wp2
    go_roundw
    case rel => exact ⟨k + 1, by omega, by go_num, Lib.hid (same_step hlt hlb (Prod.ext (HX1.out.symm.trans HY1.out) (HX2.out.symm.trans HY2.out)) hs.out), by first | exact hbr | exact below_drewN hbr _⟩
    case measure => simp [intOf]; omega
   ·
    have hne := fun e : a[k] = b[k] => he ⟨by rw [HX1.out, HY1.out, e], by rw [HX2.out, HY2.out, e]⟩
    have HNE := Lib.hid hne
    clear hne
    by_cases h1 : x1 = y1
    ·subst h1
     have h2 : ¬ x2 = y2 := fun e => he ⟨rfl, e⟩
     have e2 := nat_ne h2
     clear he h2
     go_wp2_with go_quiet (fail)
     go_wp2
     go_ret
     exact ⟨by rw [decide_eq_false (same_not hlt hlb HNE.out)]; rfl, by first | exact hbr | exact below_drewN hbr _⟩
    ·have e1 := ba_ne h1
     clear he h1
     go_wp2_with go_quiet (fail)
     go_wp2
     go_ret
     exact ⟨by rw [decide_eq_false (same_not hlt hlb HNE.out)]; rfl, by first | exact hbr | exact below_drewN hbr _⟩
  ·obtain rfl : k = n := by omega
   have hkI : ¬ (k : Int) < (k : Int) := by omega
   have HE := Lib.hid (same_all HN.out.symm HM.out.symm hs.out)
   clear hs
   go_wp2
   go_ret
   exact ⟨by rw [decide_eq_true HE.out]; rfl, hbr⟩
 ·have HE : Hid (¬ a = b) := Lib.hid (fun e => hnm (by rw [HN.out, HM.out, e]))
  have hnI := natNeq2 hnm
  clear hnm
  go_wp2
  go_ret
  exact ⟨by rw [decide_eq_false HE.out]; rfl, Below.refl _ _⟩
theorem eq_ints (a b : List (Int)) (A B : Option Addr) (c d : Nat) (w : World) (S T : Nat → Prop) (ha : ak w S 1 A a.length (cu a)) (hb : ak w T 1 B b.length (cu b)) (hal : a.length ≤ 9223372036854775807) :
  Calls prog 53 #[.slice A a.length c, .slice B b.length d] w fun e w' => e = .returned (.bool (decide (a = b))) ∧ Below w.heap.size w w' := by
 have HA := Lib.hid ha
 have HB := Lib.hid hb
 obtain ⟨n, hn⟩ : ∃ n, n = a.length := ⟨_, rfl⟩
 obtain ⟨m, hm⟩ : ∃ m, m = b.length := ⟨_, rfl⟩
 have HN := Lib.hid hn
 have HM := Lib.hid hm
 rw [← hn] at hal
 rw [← hn, ← hm]
 clear ha hb hn hm
 go_enter func53, ntmps53
 by_cases hnm : n = m
 ·subst hnm
  go_wp2
  go_loopw [13] (fun x wr => ∃ k : Nat, k ≤ n ∧ x = .int .i64 k ∧ Hid (∀ j, j < k → a[j]? = b[j]?) ∧ Below w.heap.size w wr) (fun x _ => n - (intOf x).toNat)
  case atStart => exact ⟨0, Nat.zero_le _, rfl, Lib.hid (fun j h => absurd h (by omega)), Below.refl _ _⟩
  case round =>
  obtain ⟨k, hk, rfl, hs, hbr⟩ := hrel
  by_cases hkn : k < n
  ·have hlt : k < a.length := by rw [← HN.out]; exact hkn
   have hlb : k < b.length := by rw [← HM.out]; exact hkn
   obtain ⟨g1, o1, rfl, -, p1⟩ := one_cell (HA.out.keep (aH hbr)) hlt
   obtain ⟨g2, o2, rfl, -, r1⟩ := one_cell (HB.out.keep (aH hbr)) hlb
   have hg1 : g1 < wr.heap.size := World.block_lt_of_cell? wr _ p1
   have hg2 : g2 < wr.heap.size := World.block_lt_of_cell? wr _ r1
   obtain ⟨x1, hx1⟩ : ∃ x1, x1 = a[k] := ⟨_, rfl⟩
   obtain ⟨y1, hy1⟩ : ∃ y1, y1 = b[k] := ⟨_, rfl⟩
   rw [← hx1] at p1; rw [← hy1] at r1
   have HX1 := Lib.hid hx1
   have HY1 := Lib.hid hy1
   clear hx1 hy1
   have hkI : (k : Int) < (n : Int) := by omega
   have hk0 : (0 : Int) ≤ (k : Int) := by omega
   by_cases he : x1 = y1
   ·subst he
    go_wp2_with go_quiet (fail)
    go_wp2
    go_roundw
    case rel => exact ⟨k + 1, by omega, by go_num, Lib.hid (same_step hlt hlb (HX1.out.symm.trans HY1.out) hs.out), by first | exact hbr | exact below_drewN hbr _⟩
    case measure => simp [intOf]; omega
   ·
    have HNE := Lib.hid (fun e : a[k] = b[k] => he (by rw [HX1.out, HY1.out, e]))
    have e1 := int_ne he
    clear he
    go_wp2_with go_quiet (fail)
    go_wp2
    go_ret
    exact ⟨by rw [decide_eq_false (same_not hlt hlb HNE.out)]; rfl, by first | exact hbr | exact below_drewN hbr _⟩
  ·obtain rfl : k = n := by omega
   have hkI : ¬ (k : Int) < (k : Int) := by omega
   have HE := Lib.hid (same_all HN.out.symm HM.out.symm hs.out)
   clear hs
   go_wp2
   go_ret
   exact ⟨by rw [decide_eq_true HE.out]; rfl, hbr⟩
 ·have HE : Hid (¬ a = b) := Lib.hid (fun e => hnm (by rw [HN.out, HM.out, e]))
  have hnI := natNeq2 hnm
  clear hnm
  go_wp2
  go_ret
  exact ⟨by rw [decide_eq_false HE.out]; rfl, Below.refl _ _⟩
theorem eq_sets (a b : List (Nat)) (A B : Option Addr) (c d : Nat) (w : World) (S T : Nat → Prop) (ha : ak w S 1 A a.length (fG a)) (hb : ak w T 1 B b.length (fG b)) (hal : a.length ≤ 9223372036854775807) :
  Calls prog 80 #[.slice A a.length c, .slice B b.length d] w fun e w' => e = .returned (.bool (decide (a = b))) ∧ Below w.heap.size w w' := by
 have HA := Lib.hid ha
 have HB := Lib.hid hb
 obtain ⟨n, hn⟩ : ∃ n, n = a.length := ⟨_, rfl⟩
 obtain ⟨m, hm⟩ : ∃ m, m = b.length := ⟨_, rfl⟩
 have HN := Lib.hid hn
 have HM := Lib.hid hm
 rw [← hn] at hal
 rw [← hn, ← hm]
 clear ha hb hn hm
 go_enter func80, ntmps80
 by_cases hnm : n = m
 ·subst hnm
  go_wp2
  go_loopw [13] (fun x wr => ∃ k : Nat, k ≤ n ∧ x = .int .i64 k ∧ Hid (∀ j, j < k → a[j]? = b[j]?) ∧ Below w.heap.size w wr) (fun x _ => n - (intOf x).toNat)
  case atStart => exact ⟨0, Nat.zero_le _, rfl, Lib.hid (fun j h => absurd h (by omega)), Below.refl _ _⟩
  case round =>
  obtain ⟨k, hk, rfl, hs, hbr⟩ := hrel
  by_cases hkn : k < n
  ·have hlt : k < a.length := by rw [← HN.out]; exact hkn
   have hlb : k < b.length := by rw [← HM.out]; exact hkn
   obtain ⟨g1, o1, rfl, -, p1⟩ := one_cell (HA.out.keep (aH hbr)) hlt
   obtain ⟨g2, o2, rfl, -, r1⟩ := one_cell (HB.out.keep (aH hbr)) hlb
   have hg1 : g1 < wr.heap.size := World.block_lt_of_cell? wr _ p1
   have hg2 : g2 < wr.heap.size := World.block_lt_of_cell? wr _ r1
   obtain ⟨x1, hx1⟩ : ∃ x1, x1 = a[k] := ⟨_, rfl⟩
   obtain ⟨y1, hy1⟩ : ∃ y1, y1 = b[k] := ⟨_, rfl⟩
   rw [← hx1] at p1; rw [← hy1] at r1
   have HX1 := Lib.hid hx1
   have HY1 := Lib.hid hy1
   clear hx1 hy1
   have hkI : (k : Int) < (n : Int) := by omega
   have hk0 : (0 : Int) ≤ (k : Int) := by omega
   by_cases he : x1 = y1
   ·subst he
    go_wp2_with go_quiet (fail)
    go_wp2
    go_roundw
    case rel => exact ⟨k + 1, by omega, by go_num, Lib.hid (same_step hlt hlb (HX1.out.symm.trans HY1.out) hs.out), by first | exact hbr | exact below_drewN hbr _⟩
    case measure => simp [intOf]; omega
   ·
    have HNE := Lib.hid (fun e : a[k] = b[k] => he (by rw [HX1.out, HY1.out, e]))
    have e1 := nat_ne he
    clear he
    go_wp2_with go_quiet (fail)
    go_wp2
    go_ret
    exact ⟨by rw [decide_eq_false (same_not hlt hlb HNE.out)]; rfl, by first | exact hbr | exact below_drewN hbr _⟩
  ·obtain rfl : k = n := by omega
   have hkI : ¬ (k : Int) < (k : Int) := by omega
   have HE := Lib.hid (same_all HN.out.symm HM.out.symm hs.out)
   clear hs
   go_wp2
   go_ret
   exact ⟨by rw [decide_eq_true HE.out]; rfl, hbr⟩
 ·have HE : Hid (¬ a = b) := Lib.hid (fun e => hnm (by rw [HN.out, HM.out, e]))
  have hnI := natNeq2 hnm
  clear hnm
  go_wp2
  go_ret
  exact ⟨by rw [decide_eq_false HE.out]; rfl, Below.refl _ _⟩
theorem eq_flts (a b : List (Nat × Nat)) (A B : Option Addr) (c d : Nat) (w : World) (S T : Nat → Prop) (ha : ak w S 2 A a.length (bG a)) (hb : ak w T 2 B b.length (bG b)) (hal : a.length ≤ 9223372036854775807) :
  Calls prog 81 #[.slice A a.length c, .slice B b.length d] w fun e w' => e = .returned (.bool (decide (a = b))) ∧ Below w.heap.size w w' := by
 have HA := Lib.hid ha
 have HB := Lib.hid hb
 obtain ⟨n, hn⟩ : ∃ n, n = a.length := ⟨_, rfl⟩
 obtain ⟨m, hm⟩ : ∃ m, m = b.length := ⟨_, rfl⟩
 have HN := Lib.hid hn
 have HM := Lib.hid hm
 rw [← hn] at hal
 rw [← hn, ← hm]
 clear ha hb hn hm
 go_enter func81, ntmps81
 by_cases hnm : n = m
 ·subst hnm
  go_wp2
  go_loopw [13] (fun x wr => ∃ k : Nat, k ≤ n ∧ x = .int .i64 k ∧ Hid (∀ j, j < k → a[j]? = b[j]?) ∧ Below w.heap.size w wr) (fun x _ => n - (intOf x).toNat)
  case atStart => exact ⟨0, Nat.zero_le _, rfl, Lib.hid (fun j h => absurd h (by omega)), Below.refl _ _⟩
  case round =>
  obtain ⟨k, hk, rfl, hs, hbr⟩ := hrel
  by_cases hkn : k < n
  ·have hlt : k < a.length := by rw [← HN.out]; exact hkn
   have hlb : k < b.length := by rw [← HM.out]; exact hkn
   obtain ⟨g1, o1, rfl, -, p1, p2⟩ := two_cell (HA.out.keep (aH hbr)) hlt
   obtain ⟨g2, o2, rfl, -, r1, r2⟩ := two_cell (HB.out.keep (aH hbr)) hlb
   have hg1 : g1 < wr.heap.size := World.block_lt_of_cell? wr _ p1
   have hg2 : g2 < wr.heap.size := World.block_lt_of_cell? wr _ r1
   obtain ⟨x1, hx1⟩ : ∃ x1, x1 = a[k].1 := ⟨_, rfl⟩
   obtain ⟨x2, hx2⟩ : ∃ x2, x2 = a[k].2 := ⟨_, rfl⟩
   obtain ⟨y1, hy1⟩ : ∃ y1, y1 = b[k].1 := ⟨_, rfl⟩
   obtain ⟨y2, hy2⟩ : ∃ y2, y2 = b[k].2 := ⟨_, rfl⟩
   rw [← hx1] at p1; rw [← hx2] at p2; rw [← hy1] at r1; rw [← hy2] at r2
   have HX1 := Lib.hid hx1
   have HX2 := Lib.hid hx2
   have HY1 := Lib.hid hy1
   have HY2 := Lib.hid hy2
   clear hx1 hx2 hy1 hy2
   have hkI : (k : Int) < (n : Int) := by omega
   have hk0 : (0 : Int) ≤ (k : Int) := by omega
   by_cases he : x1 = y1 ∧ x2 = y2
   ·obtain ⟨rfl, rfl⟩ := he
    go_wp2_with go_quiet (fail)
    go_wp2
    go_roundw
    case rel => exact ⟨k + 1, by omega, by go_num, Lib.hid (same_step hlt hlb (Prod.ext (HX1.out.symm.trans HY1.out) (HX2.out.symm.trans HY2.out)) hs.out), by first | exact hbr | exact below_drewN hbr _⟩
    case measure => simp [intOf]; omega
   ·
    have hne := fun e : a[k] = b[k] => he ⟨by rw [HX1.out, HY1.out, e], by rw [HX2.out, HY2.out, e]⟩
    have HNE := Lib.hid hne
    clear hne
    by_cases h1 : x1 = y1
    ·subst h1
     have h2 : ¬ x2 = y2 := fun e => he ⟨rfl, e⟩
     have e2 := nat_ne h2
     clear he h2
     go_wp2_with go_quiet (fail)
     go_wp2
     go_ret
     exact ⟨by rw [decide_eq_false (same_not hlt hlb HNE.out)]; rfl, by first | exact hbr | exact below_drewN hbr _⟩
    ·have e1 := nat_ne h1
     clear he h1
     go_wp2_with go_quiet (fail)
     go_wp2
     go_ret
     exact ⟨by rw [decide_eq_false (same_not hlt hlb HNE.out)]; rfl, by first | exact hbr | exact below_drewN hbr _⟩
  ·obtain rfl : k = n := by omega
   have hkI : ¬ (k : Int) < (k : Int) := by omega
   have HE := Lib.hid (same_all HN.out.symm HM.out.symm hs.out)
   clear hs
   go_wp2
   go_ret
   exact ⟨by rw [decide_eq_true HE.out]; rfl, hbr⟩
 ·have HE : Hid (¬ a = b) := Lib.hid (fun e => hnm (by rw [HN.out, HM.out, e]))
  have hnI := natNeq2 hnm
  clear hnm
  go_wp2
  go_ret
  exact ⟨by rw [decide_eq_false HE.out]; rfl, Below.refl _ _⟩
theorem strs_ref (a b : List (ByteArray)) (A B : Option Addr) (c d : Nat) (w : World) (S T : Nat → Prop) (ha : ak w S 1 A a.length (aA a)) (hb : ak w T 1 B b.length (aA b)) (hal : a.length ≤ 9223372036854775807) :
  Calls prog 56 #[.slice A a.length c, .slice B b.length d] w fun e w' => e = .returned (.bool (decide (a = b))) ∧ Below w.heap.size w w' := by
 have HA := Lib.hid ha
 have HB := Lib.hid hb
 obtain ⟨n, hn⟩ : ∃ n, n = a.length := ⟨_, rfl⟩
 obtain ⟨m, hm⟩ : ∃ m, m = b.length := ⟨_, rfl⟩
 have HN := Lib.hid hn
 have HM := Lib.hid hm
 rw [← hn] at hal
 rw [← hn, ← hm]
 clear ha hb hn hm
 go_enter func56, ntmps56
 by_cases hnm : n = m
 ·subst hnm
  go_wp2
  go_loopw [5] (fun x wr => ∃ k : Nat, k ≤ n ∧ x = .int .i64 k ∧ Hid (∀ j, j < k → a[j]? = b[j]?) ∧ Below w.heap.size w wr) (fun x _ => n - (intOf x).toNat)
  case atStart => exact ⟨0, Nat.zero_le _, rfl, Lib.hid (fun j h => absurd h (by omega)), Below.refl _ _⟩
  case round =>
  obtain ⟨k, hk, rfl, hs, hbr⟩ := hrel
  by_cases hkn : k < n
  ·have hlt : k < a.length := by rw [← HN.out]; exact hkn
   have hlb : k < b.length := by rw [← HM.out]; exact hkn
   obtain ⟨g1, o1, rfl, -, p1⟩ := one_cell (HA.out.keep (aH hbr)) hlt
   obtain ⟨g2, o2, rfl, -, r1⟩ := one_cell (HB.out.keep (aH hbr)) hlb
   have hg1 : g1 < wr.heap.size := World.block_lt_of_cell? wr _ p1
   have hg2 : g2 < wr.heap.size := World.block_lt_of_cell? wr _ r1
   obtain ⟨x1, hx1⟩ : ∃ x1, x1 = a[k] := ⟨_, rfl⟩
   obtain ⟨y1, hy1⟩ : ∃ y1, y1 = b[k] := ⟨_, rfl⟩
   rw [← hx1] at p1; rw [← hy1] at r1
   have HX1 := Lib.hid hx1
   have HY1 := Lib.hid hy1
   clear hx1 hy1
   have hkI : (k : Int) < (n : Int) := by omega
   have hk0 : (0 : Int) ≤ (k : Int) := by omega
   by_cases he : x1 = y1
   ·subst he
    go_wp2_with go_quiet (fail)
    go_wp2
    go_roundw
    case rel => exact ⟨k + 1, by omega, by go_num, Lib.hid (same_step hlt hlb (HX1.out.symm.trans HY1.out) hs.out), by first | exact hbr | exact below_drewN hbr _⟩
    case measure => simp [intOf]; omega
   ·
    have HNE := Lib.hid (fun e : a[k] = b[k] => he (by rw [HX1.out, HY1.out, e]))
    have e1 := ba_ne he
    clear he
    go_wp2_with go_quiet (fail)
    go_wp2
    go_ret
    exact ⟨by rw [decide_eq_false (same_not hlt hlb HNE.out)]; rfl, by first | exact hbr | exact below_drewN hbr _⟩
  ·obtain rfl : k = n := by omega
   have hkI : ¬ (k : Int) < (k : Int) := by omega
   have HE := Lib.hid (same_all HN.out.symm HM.out.symm hs.out)
   clear hs
   go_wp2
   go_ret
   exact ⟨by rw [decide_eq_true HE.out]; rfl, hbr⟩
 ·have HE : Hid (¬ a = b) := Lib.hid (fun e => hnm (by rw [HN.out, HM.out, e]))
  have hnI := natNeq2 hnm
  clear hnm
  go_wp2
  go_ret
  exact ⟨by rw [decide_eq_false HE.out]; rfl, Below.refl _ _⟩
theorem sets_ref (a b : List (Nat)) (A B : Option Addr) (c d : Nat) (w : World) (S T : Nat → Prop) (ha : ak w S 1 A a.length (fG a)) (hb : ak w T 1 B b.length (fG b)) (hal : a.length ≤ 9223372036854775807) :
  Calls prog 25 #[.slice A a.length c, .slice B b.length d] w fun e w' => e = .returned (.bool (decide (a = b))) ∧ Below w.heap.size w w' := by
 have HA := Lib.hid ha
 have HB := Lib.hid hb
 obtain ⟨n, hn⟩ : ∃ n, n = a.length := ⟨_, rfl⟩
 obtain ⟨m, hm⟩ : ∃ m, m = b.length := ⟨_, rfl⟩
 have HN := Lib.hid hn
 have HM := Lib.hid hm
 rw [← hn] at hal
 rw [← hn, ← hm]
 clear ha hb hn hm
 go_enter func25, ntmps25
 by_cases hnm : n = m
 ·subst hnm
  go_wp2
  go_loopw [5] (fun x wr => ∃ k : Nat, k ≤ n ∧ x = .int .i64 k ∧ Hid (∀ j, j < k → a[j]? = b[j]?) ∧ Below w.heap.size w wr) (fun x _ => n - (intOf x).toNat)
  case atStart => exact ⟨0, Nat.zero_le _, rfl, Lib.hid (fun j h => absurd h (by omega)), Below.refl _ _⟩
  case round =>
  obtain ⟨k, hk, rfl, hs, hbr⟩ := hrel
  by_cases hkn : k < n
  ·have hlt : k < a.length := by rw [← HN.out]; exact hkn
   have hlb : k < b.length := by rw [← HM.out]; exact hkn
   obtain ⟨g1, o1, rfl, -, p1⟩ := one_cell (HA.out.keep (aH hbr)) hlt
   obtain ⟨g2, o2, rfl, -, r1⟩ := one_cell (HB.out.keep (aH hbr)) hlb
   have hg1 : g1 < wr.heap.size := World.block_lt_of_cell? wr _ p1
   have hg2 : g2 < wr.heap.size := World.block_lt_of_cell? wr _ r1
   obtain ⟨x1, hx1⟩ : ∃ x1, x1 = a[k] := ⟨_, rfl⟩
   obtain ⟨y1, hy1⟩ : ∃ y1, y1 = b[k] := ⟨_, rfl⟩
   rw [← hx1] at p1; rw [← hy1] at r1
   have HX1 := Lib.hid hx1
   have HY1 := Lib.hid hy1
   clear hx1 hy1
   have hkI : (k : Int) < (n : Int) := by omega
   have hk0 : (0 : Int) ≤ (k : Int) := by omega
   by_cases he : x1 = y1
   ·subst he
    go_wp2_with go_quiet (fail)
    go_wp2
    go_roundw
    case rel => exact ⟨k + 1, by omega, by go_num, Lib.hid (same_step hlt hlb (HX1.out.symm.trans HY1.out) hs.out), by first | exact hbr | exact below_drewN hbr _⟩
    case measure => simp [intOf]; omega
   ·
    have HNE := Lib.hid (fun e : a[k] = b[k] => he (by rw [HX1.out, HY1.out, e]))
    have e1 := nat_ne he
    clear he
    go_wp2_with go_quiet (fail)
    go_wp2
    go_ret
    exact ⟨by rw [decide_eq_false (same_not hlt hlb HNE.out)]; rfl, by first | exact hbr | exact below_drewN hbr _⟩
  ·obtain rfl : k = n := by omega
   have hkI : ¬ (k : Int) < (k : Int) := by omega
   have HE := Lib.hid (same_all HN.out.symm HM.out.symm hs.out)
   clear hs
   go_wp2
   go_ret
   exact ⟨by rw [decide_eq_true HE.out]; rfl, hbr⟩
 ·have HE : Hid (¬ a = b) := Lib.hid (fun e => hnm (by rw [HN.out, HM.out, e]))
  have hnI := natNeq2 hnm
  clear hnm
  go_wp2
  go_ret
  exact ⟨by rw [decide_eq_false HE.out]; rfl, Below.refl _ _⟩
theorem flts_ref (a b : List (Nat × Nat)) (A B : Option Addr) (c d : Nat) (w : World) (S T : Nat → Prop) (ha : ak w S 2 A a.length (bG a)) (hb : ak w T 2 B b.length (bG b)) (hal : a.length ≤ 9223372036854775807) :
  Calls prog 48 #[.slice A a.length c, .slice B b.length d] w fun e w' => e = .returned (.bool (decide (a = b))) ∧ Below w.heap.size w w' := by
 have HA := Lib.hid ha
 have HB := Lib.hid hb
 obtain ⟨n, hn⟩ : ∃ n, n = a.length := ⟨_, rfl⟩
 obtain ⟨m, hm⟩ : ∃ m, m = b.length := ⟨_, rfl⟩
 have HN := Lib.hid hn
 have HM := Lib.hid hm
 rw [← hn] at hal
 rw [← hn, ← hm]
 clear ha hb hn hm
 go_enter func48, ntmps48
 by_cases hnm : n = m
 ·subst hnm
  go_wp2
  go_loopw [5] (fun x wr => ∃ k : Nat, k ≤ n ∧ x = .int .i64 k ∧ Hid (∀ j, j < k → a[j]? = b[j]?) ∧ Below w.heap.size w wr) (fun x _ => n - (intOf x).toNat)
  case atStart => exact ⟨0, Nat.zero_le _, rfl, Lib.hid (fun j h => absurd h (by omega)), Below.refl _ _⟩
  case round =>
  obtain ⟨k, hk, rfl, hs, hbr⟩ := hrel
  by_cases hkn : k < n
  ·have hlt : k < a.length := by rw [← HN.out]; exact hkn
   have hlb : k < b.length := by rw [← HM.out]; exact hkn
   obtain ⟨g1, o1, rfl, -, p1, p2⟩ := two_cell (HA.out.keep (aH hbr)) hlt
   obtain ⟨g2, o2, rfl, -, r1, r2⟩ := two_cell (HB.out.keep (aH hbr)) hlb
   have hg1 : g1 < wr.heap.size := World.block_lt_of_cell? wr _ p1
   have hg2 : g2 < wr.heap.size := World.block_lt_of_cell? wr _ r1
   obtain ⟨x1, hx1⟩ : ∃ x1, x1 = a[k].1 := ⟨_, rfl⟩
   obtain ⟨x2, hx2⟩ : ∃ x2, x2 = a[k].2 := ⟨_, rfl⟩
   obtain ⟨y1, hy1⟩ : ∃ y1, y1 = b[k].1 := ⟨_, rfl⟩
   obtain ⟨y2, hy2⟩ : ∃ y2, y2 = b[k].2 := ⟨_, rfl⟩
   rw [← hx1] at p1; rw [← hx2] at p2; rw [← hy1] at r1; rw [← hy2] at r2
   have HX1 := Lib.hid hx1
   have HX2 := Lib.hid hx2
   have HY1 := Lib.hid hy1
   have HY2 := Lib.hid hy2
   clear hx1 hx2 hy1 hy2
   have hkI : (k : Int) < (n : Int) := by omega
   have hk0 : (0 : Int) ≤ (k : Int) := by omega
   by_cases he : x1 = y1 ∧ x2 = y2
   ·obtain ⟨rfl, rfl⟩ := he
    go_wp2_with go_quiet (fail)
    go_wp2
    go_roundw
    case rel => exact ⟨k + 1, by omega, by go_num, Lib.hid (same_step hlt hlb (Prod.ext (HX1.out.symm.trans HY1.out) (HX2.out.symm.trans HY2.out)) hs.out), by first | exact hbr | exact below_drewN hbr _⟩
    case measure => simp [intOf]; omega
   ·
    have hne := fun e : a[k] = b[k] => he ⟨by rw [HX1.out, HY1.out, e], by rw [HX2.out, HY2.out, e]⟩
    have HNE := Lib.hid hne
    clear hne
    by_cases h1 : x1 = y1
    ·subst h1
     have h2 : ¬ x2 = y2 := fun e => he ⟨rfl, e⟩
     have e2 := nat_ne h2
     clear he h2
     go_wp2_with go_quiet (fail)
     go_wp2
     go_ret
     exact ⟨by rw [decide_eq_false (same_not hlt hlb HNE.out)]; rfl, by first | exact hbr | exact below_drewN hbr _⟩
    ·have e1 := nat_ne h1
     clear he h1
     go_wp2_with go_quiet (fail)
     go_wp2
     go_ret
     exact ⟨by rw [decide_eq_false (same_not hlt hlb HNE.out)]; rfl, by first | exact hbr | exact below_drewN hbr _⟩
  ·obtain rfl : k = n := by omega
   have hkI : ¬ (k : Int) < (k : Int) := by omega
   have HE := Lib.hid (same_all HN.out.symm HM.out.symm hs.out)
   clear hs
   go_wp2
   go_ret
   exact ⟨by rw [decide_eq_true HE.out]; rfl, hbr⟩
 ·have HE : Hid (¬ a = b) := Lib.hid (fun e => hnm (by rw [HN.out, HM.out, e]))
  have hnI := natNeq2 hnm
  clear hnm
  go_wp2
  go_ret
  exact ⟨by rw [decide_eq_false HE.out]; rfl, Below.refl _ _⟩
def ClonePostN (size n : Nat) (xs : List Value) (w : World) (e : Ending) (w' : World) : Prop := ∃ A c, e = .returned (.slice A n c) ∧ ak w' (w.heap.size ≤ ·) size A n xs ∧ Below w.heap.size w w'
theorem setVals_one (l : List Nat) : ∀ u ∈ fG l, u.oneCell' = true := by
 intro u hu
 obtain ⟨x, -, rfl⟩ := List.mem_map.1 hu
 rfl
theorem sees_nil {w : World} {S : Nat → Prop} {size n : Nat} {xs : List Value} (h : ak w S size none n xs) : n = 0 := by
 rcases Nat.eq_zero_or_pos n with e | e
 ·exact e
 ·obtain ⟨g, o, e, -⟩ := h.cells e; cases e
theorem wp_clone_sets (w : World) {ops : Array Oper} {rest : List Oper} {o : Oper} {a : Act} {Q : Exit → Act → World → Prop} (hgd : o.guard = none) (s x : Operand)
  (ho : o.op = .call { callee := .builtin .append, args := #[s, x], argTypes := #[51, 51] })
  (base : Nat) (v : Value) (n : Nat) (xs : List Value) (hown : w.ownsRow base 28 1 v n xs) (hs : a.eval s = v)
  (p : Addr) (m c : Nat) (news : List Value) (hx : a.eval x = .slice (some p) m c) (hl : news.length = m * 1) (hcells : ∀ j u, news[j]? = some u → w.cell? (p.add j) = some u) (h1 : ∀ u ∈ news, u.oneCell' = true)
  (hlim : n + m ≤ 100000000) (hbase : base ≤ w.heap.size)
  (h : ∀ v' w', w'.ownsRow base 28 1 v' (n + m) (xs ++ news) → w.grownBy w' v.ownBlock → (v'.ownBlock = v.ownBlock ∨ v'.ownBlock = some w.heap.size) → wpList prog ops Q rest (a.put o.dst v') w') :
  wpList prog ops Q (o :: rest) a w := by
 obtain ⟨i0, hi, hz0, hz1, hz2⟩ := info_parts info_setS
 refine wpList_plain hgd fun _ hK => ?_
 obtain ⟨v', w', h1', h2, h3, _, h5⟩ := run_append_own_at (P := prog) w base 51 o.type 28 i0 _ 1 2 underlying51 hi hz0 hz1 hz2 rfl (by decide) v n xs hown p m c news hl hcells h1 (by unfold maxLen; omega) (by omega) hbase
 unfold Oper.wp execOp
 simp only [ho, resolve, invoke, builtin, Sem.run_bind, Sem.run_pure, Result.andThen_ok, List.map_toArray, List.map_cons, List.map_nil, hs, hx, h1']
 exact hK _ _ (h v' w' h2 h3 h5)
theorem clone_sets (l : List Nat) (A : Option Addr) (c : Nat) (w : World) (S : Nat → Prop) (hl : ak w S 1 A l.length (fG l)) (hS : ∀ g, S g → g < w.heap.size) (hll : l.length ≤ 10000000) :
  Calls prog 79 #[.slice A l.length c] w (ClonePostN 1 l.length (fG l) w) := by
 cases A with
 |none =>
  have h0 := sees_nil hl
  have DY := Lib.hid (show ClonePostN 1 l.length (fG l) w (.returned (.slice none l.length 0)) w from ⟨none, 0, rfl, by rw [h0] at hl ⊢; exact ⟨hl.1, fun h => absurd h (by omega)⟩, Below.refl _ _⟩)
  obtain ⟨n, hn⟩ : ∃ n, n = l.length := ⟨_, rfl⟩
  rw [← hn] at h0 DY ⊢
  subst h0
  have heq := fun (W : World) => Lib.run_eql_slice_nil (P := prog) W 51 28 none 0 c 0 0 underlying51
  clear hn hl hll
  go_enter func79, ntmps79
  go_wp2
  go_ret
  exact DY.out
 |some p =>
  obtain ⟨flat, si⟩ : ∃ flat, flat = fG l := ⟨_, rfl⟩
  have hlen : flat.length = l.length * 1 := by rw [si]; exact by simp [fG]
  have hone : ∀ u ∈ flat, u.oneCell' = true := by rw [si]; exact setVals_one l
  rw [← si] at hl ⊢
  have hc : ∀ j u, flat[j]? = some u → w.cell? (p.add j) = some u ∧ (p.add j).block < w.heap.size := by
   intro j u hu
   have hj := (List.getElem?_eq_some_iff.1 hu).1
   obtain ⟨g, o, e, hSg, h⟩ := hl.cells (by omega)
   cases e
   rw [Go.WideShapes.add_plain]
   exact ⟨h j u hu, hS g hSg⟩
  obtain ⟨X, hX⟩ : ∃ X : World, X = w.alloc (.cells #[] 28 (0, 0)) := ⟨_, rfl⟩
  have hbX : Below w.heap.size w X := by rw [hX]; exact (Below.refl _ _).alloc (Nat.le_refl _) _
  have hzX : w.heap.size ≤ X.heap.size := hbX.size
  have hoX : X.ownsRow w.heap.size 28 1 (.slice (some ⟨w.heap.size, 0, none⟩) 0 0) 0 [] := by rw [hX]; exact World.ownsRow_lit (base := w.heap.size) (e := 28) (size := 1) w #[] 0 (Nat.le_refl _) (by decide) rfl
  have hcX : ∀ j u, flat[j]? = some u → X.cell? (p.add j) = some u := fun j u hu => (hbX.cell (p := p.add j) (hc j u hu).2).trans (hc j u hu).1
  have HX := Lib.hid hX
  have HC := Lib.hid hcX
  have sZ := Lib.hid hone
  have HLEN := Lib.hid hlen
  have DY := Lib.hid (fun (W : World) (v : Value) (hown : W.ownsRow w.heap.size 28 1 v (0 + l.length) ([] ++ flat)) (hb : Below w.heap.size w W) => show ClonePostN 1 l.length flat w (.returned v) W from by
   rw [Nat.zero_add, List.nil_append] at hown
   obtain ⟨A', c', rfl, -⟩ := aJ hown
   exact ⟨A', c', rfl, ak.own hown, hb⟩)
  clear hX hcX hc hone hlen si hl
  have heq := fun (W : World) => Lib.run_eql_slice_nil (P := prog) W 51 28 (some p) l.length c 0 0 underlying51
  go_enter func79, ntmps79
  go_upto_region 3 with fail
  go_wp2_with (rw [← HX.out]; refine wp_clone_sets X rfl (.tmp 5) (.tmp 6) rfl w.heap.size _ 0 [] hoX rfl p l.length c flat rfl HLEN.out HC.out sZ.out (by omega) hzX ?_; intro v3 X3 hown3 hg3 hv3)
  go_ret
  exact DY.out X3 v3 hown3 (hbX.trans (aM hoX hg3 hzX))
theorem wp_clone_flts (w : World) {ops : Array Oper} {rest : List Oper} {o : Oper} {a : Act} {Q : Exit → Act → World → Prop} (hgd : o.guard = none) (s x : Operand)
  (ho : o.op = .call { callee := .builtin .append, args := #[s, x], argTypes := #[52, 52] })
  (base : Nat) (v : Value) (n : Nat) (xs : List Value) (hown : w.ownsRow base 148 2 v n xs) (hs : a.eval s = v)
  (p : Addr) (m c : Nat) (news : List Value) (hx : a.eval x = .slice (some p) m c) (hl : news.length = m * 2) (hcells : ∀ j u, news[j]? = some u → w.cell? (p.add j) = some u) (h1 : ∀ u ∈ news, u.oneCell' = true)
  (hlim : n + m ≤ 100000000) (hbase : base ≤ w.heap.size)
  (h : ∀ v' w', w'.ownsRow base 148 2 v' (n + m) (xs ++ news) → w.grownBy w' v.ownBlock → (v'.ownBlock = v.ownBlock ∨ v'.ownBlock = some w.heap.size) → wpList prog ops Q rest (a.put o.dst v') w') :
  wpList prog ops Q (o :: rest) a w := by
 obtain ⟨i0, hi, hz0, hz1, hz2⟩ := info_parts yU
 refine wpList_plain hgd fun _ hK => ?_
 obtain ⟨v', w', h1', h2, h3, _, h5⟩ := run_append_own_at (P := prog) w base 52 o.type 148 i0 _ 2 4 underlying52 hi hz0 hz1 hz2 rfl (by decide) v n xs hown p m c news hl hcells h1 (by unfold maxLen; omega) (by omega) hbase
 unfold Oper.wp execOp
 simp only [ho, resolve, invoke, builtin, Sem.run_bind, Sem.run_pure, Result.andThen_ok, List.map_toArray, List.map_cons, List.map_nil, hs, hx, h1']
 exact hK _ _ (h v' w' h2 h3 h5)
theorem clone_flts (l : List (Nat × Nat)) (A : Option Addr) (c : Nat) (w : World) (S : Nat → Prop) (hl : ak w S 2 A l.length (bG l)) (hS : ∀ g, S g → g < w.heap.size) (hll : l.length ≤ 10000000) :
  Calls prog 78 #[.slice A l.length c] w (ClonePostN 2 l.length (bG l) w) := by
 cases A with
 |none =>
  have h0 := sees_nil hl
  have DY := Lib.hid (show ClonePostN 2 l.length (bG l) w (.returned (.slice none l.length 0)) w from ⟨none, 0, rfl, by rw [h0] at hl ⊢; exact ⟨hl.1, fun h => absurd h (by omega)⟩, Below.refl _ _⟩)
  obtain ⟨n, hn⟩ : ∃ n, n = l.length := ⟨_, rfl⟩
  rw [← hn] at h0 DY ⊢
  subst h0
  have heq := fun (W : World) => Lib.run_eql_slice_nil (P := prog) W 52 148 none 0 c 0 0 underlying52
  clear hn hl hll
  go_enter func78, ntmps78
  go_wp2
  go_ret
  exact DY.out
 |some p =>
  obtain ⟨flat, si⟩ : ∃ flat, flat = bG l := ⟨_, rfl⟩
  have hlen : flat.length = l.length * 2 := by rw [si]; exact oD l
  have hone : ∀ u ∈ flat, u.oneCell' = true := by rw [si]; exact ve l
  rw [← si] at hl ⊢
  have hc : ∀ j u, flat[j]? = some u → w.cell? (p.add j) = some u ∧ (p.add j).block < w.heap.size := by
   intro j u hu
   have hj := (List.getElem?_eq_some_iff.1 hu).1
   obtain ⟨g, o, e, hSg, h⟩ := hl.cells (by omega)
   cases e
   rw [Go.WideShapes.add_plain]
   exact ⟨h j u hu, hS g hSg⟩
  obtain ⟨X, hX⟩ : ∃ X : World, X = w.alloc (.cells #[] 148 (0, 0)) := ⟨_, rfl⟩
  have hbX : Below w.heap.size w X := by rw [hX]; exact (Below.refl _ _).alloc (Nat.le_refl _) _
  have hzX : w.heap.size ≤ X.heap.size := hbX.size
  have hoX : X.ownsRow w.heap.size 148 2 (.slice (some ⟨w.heap.size, 0, none⟩) 0 0) 0 [] := by rw [hX]; exact World.ownsRow_lit (base := w.heap.size) (e := 148) (size := 2) w #[] 0 (Nat.le_refl _) (by decide) rfl
  have hcX : ∀ j u, flat[j]? = some u → X.cell? (p.add j) = some u := fun j u hu => (hbX.cell (p := p.add j) (hc j u hu).2).trans (hc j u hu).1
  have HX := Lib.hid hX
  have HC := Lib.hid hcX
  have sZ := Lib.hid hone
  have HLEN := Lib.hid hlen
  have DY := Lib.hid (fun (W : World) (v : Value) (hown : W.ownsRow w.heap.size 148 2 v (0 + l.length) ([] ++ flat)) (hb : Below w.heap.size w W) => show ClonePostN 2 l.length flat w (.returned v) W from by
   rw [Nat.zero_add, List.nil_append] at hown
   obtain ⟨A', c', rfl, -⟩ := aJ hown
   exact ⟨A', c', rfl, ak.own hown, hb⟩)
  clear hX hcX hc hone hlen si hl
  have heq := fun (W : World) => Lib.run_eql_slice_nil (P := prog) W 52 148 (some p) l.length c 0 0 underlying52
  go_enter func78, ntmps78
  go_upto_region 3 with fail
  go_wp2_with (rw [← HX.out]; refine wp_clone_flts X rfl (.tmp 5) (.tmp 6) rfl w.heap.size _ 0 [] hoX rfl p l.length c flat rfl HLEN.out HC.out sZ.out (by omega) hzX ?_; intro v3 X3 hown3 hg3 hv3)
  go_ret
  exact DY.out X3 v3 hown3 (hbX.trans (aM hoX hg3 hzX))
theorem DCfgAt.mk {w : World} {S : Nat → Prop} {x : DCfg} {rA wA fA : Option Addr} {rc wc fc : Nat} (h1 : ak w S 1 rA x.read.length (fG x.read)) (h2 : ak w S 1 wA x.write.length (fG x.write)) (h3 : ak w S 2 fA x.faults.length (bG x.faults)) :
  DCfgAt w S x (.agg #[.string x.name, .int .i64 x.kind, .int .u16 (x.mem : Nat), .slice rA x.read.length rc, .slice wA x.write.length wc, .slice fA x.faults.length fc]) := ⟨_, _, _, _, _, _, rfl, h1, h2, h3⟩
theorem ret_cfg1 {fn : Func} {slot : Nat} {R : Ending → World → Prop} {a : Act} {W : World} {r : Nat} {cells : Array Value} (hres : fn.results = #[.cell slot 54]) (hp : a.tmps.getD slot undef = .pointer (some ⟨r, 0, none⟩)) (hd : a.defers = [])
  (hblk : W.heap[r]? = some (.cells cells 54 (0, 0))) (hc : cells.size = 6) (hR : R (.returned (.agg cells)) W) : bodyPost prog fn R .ret a W :=
 bodyPost_ret (v := .agg cells) (results_cell_row hres _ _ r 54 cells (0, 0) _ (by simpa using hp) hblk underlying54 rfl (by rw [hc]; exact Cw)) hd hR
theorem copied_any (x : DCfg) (v : Value) (w : World) (S : Nat → Prop) (hx : DCfgAt w S x v) (hS : ∀ g, S g → g < w.heap.size) (h1 : x.read.length ≤ 1000) (h2 : x.write.length ≤ 1000) (h3 : x.faults.length ≤ 1000) :
  Calls prog 45 #[v] w fun e w' => ∃ v', e = .returned v' ∧ DCfgAt w' (w.heap.size ≤ ·) x v' ∧ Below w.heap.size w w' := by
 obtain ⟨nm, kd, mb, R, V, F⟩ := x
 obtain ⟨rA, rc, wA, wc, fA, fc, rfl, hr, hv, hf⟩ := hx
 simp only at hr hv hf h1 h2 h3 ⊢
 have hbA : ∀ (W : World) (o : Obj), Below W.heap.size W (W.alloc o) := fun W o => (Below.refl _ _).alloc (Nat.le_refl _) o
 obtain ⟨W1, hW1⟩ : ∃ W1 : World, W1 = w.alloc (.cells #[.string nm, .int .i64 kd, .int .u16 (mb : Nat), .slice rA R.length rc, .slice wA V.length wc, .slice fA F.length fc] 54) := ⟨_, rfl⟩
 have hb1 : Below w.heap.size w W1 := by rw [hW1]; exact hbA _ _
 have hr1 : W1.heap[w.heap.size]? = some (.cells #[.string nm, .int .i64 kd, .int .u16 (mb : Nat), .slice rA R.length rc, .slice wA V.length wc, .slice fA F.length fc] 54 (0, 0)) := by rw [hW1]; exact heap_alloc_new _ _
 have hz1 : W1.heap.size = w.heap.size + 1 := by rw [hW1]; simp
 obtain ⟨W2, hW2⟩ : ∃ W2 : World, W2 = W1.alloc (.cells #[.string ⟨#[]⟩, .int .i64 0, .int .u16 0, .slice none 0 0, .slice none 0 0, .slice none 0 0] 54) := ⟨_, rfl⟩
 have hb2 : Below W1.heap.size W1 W2 := by rw [hW2]; exact hbA _ _
 have hz2 : W2.heap.size = w.heap.size + 2 := by rw [hW2, World.size_alloc, hz1]
 have g2 : W2.heap[w.heap.size]? = some (.cells #[.string nm, .int .i64 kd, .int .u16 (mb : Nat), .slice rA R.length rc, .slice wA V.length wc, .slice fA F.length fc] 54 (0, 0)) := (hb2.block _ (by omega)).trans hr1
 have q2 : W2.heap[w.heap.size + 1]? = some (.cells #[.string ⟨#[]⟩, .int .i64 0, .int .u16 0, .slice none 0 0, .slice none 0 0, .slice none 0 0] 54 (0, 0)) := by rw [hW2, ← hz1]; exact heap_alloc_new _ _
 have hbw := hb1.trans (hb2.mono (by omega))
 have HR := Lib.hid (fun (X : World) (h : Kept S W2 X) (hz : W2.heap.size ≤ X.heap.size) => clone_sets R rA rc X S ((hr.keep (ai hbw hS)).keep h) (fun g hg => by have := hS g hg; omega) (by omega))
 have HV := Lib.hid (fun (X : World) (h : Kept S W2 X) (hz : W2.heap.size ≤ X.heap.size) => clone_sets V wA wc X S ((hv.keep (ai hbw hS)).keep h) (fun g hg => by have := hS g hg; omega) (by omega))
 have HF := Lib.hid (fun (X : World) (h : Kept S W2 X) (hz : W2.heap.size ≤ X.heap.size) => clone_flts F fA fc X S ((hf.keep (ai hbw hS)).keep h) (fun g hg => by have := hS g hg; omega) (by omega))
 have hSq : ∀ g, S g → ¬ g = w.heap.size := fun g hg e => by have := hS g hg; omega
 have hgt : ∀ g, w.heap.size + 1 < g → ¬ g = w.heap.size := fun g h e => by omega
 have H1 := Lib.hid hW1
 have H2 := Lib.hid hW2
 have HZ1 := Lib.hid hz1
 have HZ2 := Lib.hid hz2
 have HBW := Lib.hid hbw
 have G2 := Lib.hid g2
 have Q2 := Lib.hid q2
 clear hr hv hf hW1 hW2 hr1 hb1 hb2 hz1 hz2 hbw g2 q2
 go_enter func45, ntmps45
 go_upto_region 1 with fail
 rw [← H1.out, ← H2.out]
 go_cut [] (fun wx => ∃ r2 n1 w2 n2 f2 n3, Hid (wx.heap[w.heap.size]? = some (.cells #[.string nm, .int .i64 kd, .int .u16 (mb : Nat), .slice r2 R.length n1, .slice w2 V.length n2, .slice f2 F.length n3] 54 (0, 0))) ∧ Hid (ak wx (fun g => w.heap.size + 1 < g) 1 r2 R.length (fG R) ∧ ak wx (fun g => w.heap.size + 1 < g) 1 w2 V.length (fG V) ∧ ak wx (fun g => w.heap.size + 1 < g) 2 f2 F.length (bG F)) ∧ But (fun g => g = w.heap.size) W2 wx)
 case first =>
  refine ax.start (fun W' => W'.heap[w.heap.size]? = some (.cells #[.string nm, .int .i64 kd, .int .u16 (mb : Nat), .slice rA R.length rc, .slice wA V.length wc, .slice fA F.length fc] 54 (0, 0)) ∧ But (fun g => g = w.heap.size) W2 W') [10, 12, 14] [0, 1, 3, 4, 6, 7, 9, 11, 13] (by kernel_rfl) ⟨G2.out, ⟨rfl, rfl, rfl, Nat.le_refl _, fun _ _ _ => rfl⟩⟩ (fun hHeld => ?_)
  obtain ⟨g, bx⟩ := hHeld
  repeat
   refine ax.take (v := ?_) rfl (by decide +kernel) (by rfl) (fun _ _ _ h => h) ⟨g, bx⟩ ?_ ?_
   rotate_left
   focus
    intro w9 h9
    have k3 := ah h9.1 3 _ rfl
    have k4 := ah h9.1 4 _ rfl
    have k5 := ah h9.1 5 _ rfl
    go_simp
    (try with_reducible rfl)
    done
   simp only [Act.put, List.getElem_toArray, List.getElem_cons_succ, List.getElem_cons_zero, List.setIfInBounds_toArray, List.set_cons_zero, List.set_cons_succ]
  repeat'
   first
   |refine ax.pure (v := ?_) rfl (by decide +kernel) (by rfl) (fun _ _ _ h => h) (by first | exact fun h => absurd h (by decide) | exact fun _ => ⟨g, bx⟩) ?_ ?_
    rotate_left
    focus
     intro w9
     go_simp
     (try with_reducible rfl)
     done
    simp only [Act.put, List.getElem_toArray, List.getElem_cons_succ, List.getElem_cons_zero, List.setIfInBounds_toArray, List.set_cons_zero, List.set_cons_succ]
   |refine ax.one 2 rfl (by decide +kernel) (by rfl) (fun K hK => ?_)
   |refine ax.one 5 rfl (by decide +kernel) (by rfl) (fun K hK => ?_)
   |refine ax.one 8 rfl (by decide +kernel) (by rfl) (fun K hK => ?_)
   |refine ax.one 10 rfl (by decide +kernel) (by rfl) (fun K hK => ?_)
   |refine ax.one 12 rfl (by decide +kernel) (by rfl) (fun K hK => ?_)
   |refine ax.one 14 rfl (by decide +kernel) (by rfl) (fun K hK => ?_)
   |refine ax.two 5 10 rfl rfl (by decide +kernel) (by rfl) (by rfl) (fun K hK => ?_) (fun K hK => ?_)
   |refine ax.two 8 10 rfl rfl (by decide +kernel) (by rfl) (by rfl) (fun K hK => ?_) (fun K hK => ?_)
   |refine ax.two 8 12 rfl rfl (by decide +kernel) (by rfl) (by rfl) (fun K hK => ?_) (fun K hK => ?_)
   |have z3 := ah g 3 _ rfl
    have z4 := ah g 4 _ rfl
    have z5 := ah g 5 _ rfl
    have y3 := frozen_of_row _ _ 3 _ _ g
    have y4 := frozen_of_row _ _ 4 _ _ g
    have y5 := frozen_of_row _ _ 5 _ _ g
    go_simp
    first
    |first | go_at_call 79 | go_at_call 78
     first
     |(with_reducible refine (HR.out _ (bx.kept hSq) bx.size).mono ?_); rintro e Y1 ⟨r2, n1, rfl, hs, hb⟩; have hs1 := hs.mono (S' := fun g => w.heap.size + 1 < g) (fun g9 hg _ => by have h8 := bx.size; have h7 := HZ2.out; omega) (by decide)
     |(with_reducible refine (HV.out _ (bx.kept hSq) bx.size).mono ?_); rintro e Y2 ⟨w2, n2, rfl, hs, hb⟩; have hs2 := hs.mono (S' := fun g => w.heap.size + 1 < g) (fun g9 hg _ => by have h8 := bx.size; have h7 := HZ2.out; omega) (by decide); have hs1 := hs1.keep (aH hb)
     |(with_reducible refine (HF.out _ (bx.kept hSq) bx.size).mono ?_); rintro e Y3 ⟨f2, n3, rfl, hs, hb⟩; have hs3 := hs.mono (S' := fun g => w.heap.size + 1 < g) (fun g9 hg _ => by have h8 := bx.size; have h7 := HZ2.out; omega) (by decide); have hs1 := hs1.keep (aH hb); have hs2 := hs2.keep (aH hb)
     have g := (hb.block _ (lt_of_block g)).trans g
     have bx := bx.trans (.of_below hb)
     try go_simp
     refine hK.out _ _ (by first | exact fun h => absurd h (by decide) | exact fun _ => ⟨g, bx⟩) ?_
     clear hK K hs z3 z4 z5 y3 y4 y5
    |refine hK.out _ (World.setCell _ ⟨w.heap.size, 3, none⟩ _) (fun h => absurd h (by decide)) ?_
     have hs1 := hs1.keep (((But.refl (fun g => g = w.heap.size) _).setCell rfl 3 (.slice r2 R.length n1)).kept hgt)
     try have hs2 := hs2.keep (((But.refl (fun g => g = w.heap.size) _).setCell rfl 3 (.slice r2 R.length n1)).kept hgt)
     try have hs3 := hs3.keep (((But.refl (fun g => g = w.heap.size) _).setCell rfl 3 (.slice r2 R.length n1)).kept hgt)
     have g := aC g (i := 3) (.slice r2 R.length n1)
     have bx := bx.setCell rfl 3 (.slice r2 R.length n1)
     clear hK K z3 z4 z5 y3 y4 y5
    |refine hK.out _ (World.setCell _ ⟨w.heap.size, 4, none⟩ _) (fun h => absurd h (by decide)) ?_
     have hs1 := hs1.keep (((But.refl (fun g => g = w.heap.size) _).setCell rfl 4 (.slice w2 V.length n2)).kept hgt)
     try have hs2 := hs2.keep (((But.refl (fun g => g = w.heap.size) _).setCell rfl 4 (.slice w2 V.length n2)).kept hgt)
     try have hs3 := hs3.keep (((But.refl (fun g => g = w.heap.size) _).setCell rfl 4 (.slice w2 V.length n2)).kept hgt)
     have g := aC g (i := 4) (.slice w2 V.length n2)
     have bx := bx.setCell rfl 4 (.slice w2 V.length n2)
     clear hK K z3 z4 z5 y3 y4 y5
    |refine hK.out _ (World.setCell _ ⟨w.heap.size, 5, none⟩ _) (fun h => absurd h (by decide)) ?_
     have hs1 := hs1.keep (((But.refl (fun g => g = w.heap.size) _).setCell rfl 5 (.slice f2 F.length n3)).kept hgt)
     try have hs2 := hs2.keep (((But.refl (fun g => g = w.heap.size) _).setCell rfl 5 (.slice f2 F.length n3)).kept hgt)
     try have hs3 := hs3.keep (((But.refl (fun g => g = w.heap.size) _).setCell rfl 5 (.slice f2 F.length n3)).kept hgt)
     have g := aC g (i := 5) (.slice f2 F.length n3)
     have bx := bx.setCell rfl 5 (.slice f2 F.length n3)
     clear hK K z3 z4 z5 y3 y4 y5
  all_goals
   refine ax.done (by decide +kernel) ?_
   go_wp2_with fail
   go_meet
   exact ⟨r2, n1, w2, n2, f2, n3, Lib.hid g, Lib.hid ⟨hs1, hs2, hs3⟩, bx⟩
 case rest =>
 obtain ⟨r2, n1, w2, n2, f2, n3, hq, hss, hx9⟩ := hcut
 have hz9 := hx9.size
 have q9 := (hx9.block (w.heap.size + 1) (by omega) (by have := HZ2.out; omega)).trans Q2.out
 have d0 := ah hq.out 0 _ rfl
 have d1 := ah hq.out 1 _ rfl
 have d2 := ah hq.out 2 _ rfl
 have d3 := ah hq.out 3 _ rfl
 have d4 := ah hq.out 4 _ rfl
 have d5 := ah hq.out 5 _ rfl
 obtain ⟨p0, p1, p2, p3, p4, p5⟩ := eD q9
 have l0 := frozen_of_row _ _ 0 _ _ q9
 have l1 := frozen_of_row _ _ 1 _ _ q9
 have l2 := frozen_of_row _ _ 2 _ _ q9
 have l3 := frozen_of_row _ _ 3 _ _ q9
 have l4 := frozen_of_row _ _ 4 _ _ q9
 have l5 := frozen_of_row _ _ 5 _ _ q9
 have HQ9 := Lib.hid q9
 have HX9 := Lib.hid hx9
 clear q9 hx9
 have hb9 : Below w.heap.size w wc := { os := HX9.out.os.trans HBW.out.os, tape := HX9.out.tape.trans HBW.out.tape, output := HX9.out.output.trans HBW.out.output, size := Nat.le_trans HBW.out.size HX9.out.size, block := fun g hg => (HX9.out.block g (by omega) (by have := HBW.out.size; omega)).trans (HBW.out.block g hg) }
 have HB9 := Lib.hid hb9
 clear hb9
 go_wp2
 obtain ⟨e1, e2⟩ := set6 HQ9.out (.string nm) (.int .i64 kd) (.int .u16 (mb : Nat)) (.slice r2 R.length n1) (.slice w2 V.length n2) (.slice f2 F.length n3)
 have hk : Kept (fun g => w.heap.size + 1 < g) wc _ := (aR e2).mono fun g hg => by omega
 refine ret_cfg1 rfl rfl rfl e1 rfl ⟨_, rfl, DCfgAt.mk ((hss.out.1.keep hk).mono (fun g hg _ => by omega) (by decide)) ((hss.out.2.1.keep hk).mono (fun g hg _ => by omega) (by decide)) ((hss.out.2.2.keep hk).mono (fun g hg _ => by omega) (by decide)), HB9.out.trans (below_grown e2 (by omega) HB9.out.size)⟩
end Go.Proofs.YtmohibkomlhlaaaGreatDoor
