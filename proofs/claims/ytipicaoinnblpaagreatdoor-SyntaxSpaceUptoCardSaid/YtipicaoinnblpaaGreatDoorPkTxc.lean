/- The contracts of the reference's tests has, uses and isFault. Printed by gen_isfault.py. The contract of the reference's text of a fault: faultText. Printed by gen_tftext.py. The contract of the reference's text of a declaration: declText. Printed by gen_tdtext.py. The length of a declaration's text by its size. No condition. The contract of the reference's Few. Printed by gen_tform.py. -/
import Derived.Test.YtipicaoinnblpaaGreatDoorPkTxa
import Derived.Test.YtipicaoinnblpaaGreatDoorPkFmta
import Derived.Test.YtipicaoinnblpaaGreatDoorPkTxb
import Derived.Test.YtipicaoinnblpaaGreatDoorPkFmtb
import Derived.Test.YtipicaoinnblpaaGreatDoorPkOpen
import Derived.Test.YtipicaoinnblpaaGreatDoorPkSizeR
namespace Go.Proofs.YtipicaoinnblpaaGreatDoor
open Go.RowKit

/-- Whether a text holds a byte. -/
def hasB (s : ByteArray) (c : Nat) : Bool := s.data.toList.any fun x => x.toNat == c

set_option maxRecDepth 100000 in
set_option maxHeartbeats 1000000 in
theorem has_ref (s : ByteArray) (c : Nat) (w : World) (hs : s.size ≤ 1000000000) : Calls Tryz.prog 106 #[.string s, .int .u8 c] w fun e w' => e = .returned (.bool (hasB s c)) ∧ w = w' := by
 go_enter Tryz.func106, Tryz.ntmps106
 go_wp2
 go_loop [5] (fun x => ∃ k : Nat, k ≤ s.size ∧ x = .int .i64 k ∧ Hid (hasB s c = (s.data.toList.drop k).any fun x => x.toNat == c)) (fun x => s.size - (intOf x).toNat)
 case atStart => exact ⟨0, Nat.zero_le _, rfl, rfl⟩
 case round =>
  obtain ⟨k, hk, rfl, hd⟩ := hrel
  by_cases hlt : k < s.size
  ·have hkI : (k : Int) < (s.size : Int) := by omega
   have hk0 : (0 : Int) ≤ (k : Int) := by omega
   have hdk : ((s.data.toList.drop k).any fun x => x.toNat == c) = ((s[k].toNat == c) || ((s.data.toList.drop (k + 1)).any fun x => x.toNat == c)) := by rw [drop_get s k hlt, List.any_cons]
   by_cases hq : s[k].toNat = c
   ·have q : ((s[k].toNat : Int) == (c : Int)) = true := natI hq
    have E := Lib.hid (show hasB s c = true by rw [hd.out, hdk, hq]; simp)
    clear hq hdk
    go_wp2
    go_ret
    exact ⟨by rw [E.out]; rfl, rfl⟩
   ·have q : ((s[k].toNat : Int) == (c : Int)) = false := natNe hq
    have E := Lib.hid (show hasB s c = ((s.data.toList.drop (k + 1)).any fun x => x.toNat == c) by rw [hd.out, hdk, show (s[k].toNat == c) = false by simpa using hq, Bool.false_or])
    clear hq hdk
    go_wp2
    go_round
    case rel => exact ⟨k + 1, by omega, by go_num, E.out⟩
    case measure => simp [intOf]; omega
  ·obtain rfl : k = s.size := by omega
   have hkI : ¬ (s.size : Int) < (s.size : Int) := by omega
   have E := Lib.hid (show hasB s c = false by rw [hd.out, List.drop_of_length_le (by simp)]; rfl)
   go_wp2
   go_ret
   exact ⟨by rw [E.out]; rfl, rfl⟩

/-- The letters of a kind's fields. -/
def usesOf (k : Int) : ByteArray := if k = 1 then ⟨#[78, 76]⟩ else if k = 2 then ⟨#[78, 70]⟩ else if k = 3 then ⟨#[78, 84]⟩ else if k = 4 then ⟨#[78, 80, 85]⟩ else if k = 5 then ⟨#[76]⟩ else if k = 6 then ⟨#[78, 85]⟩ else if k = 7 then ⟨#[76]⟩ else ⟨#[]⟩
theorem uses_has {k : Int} (h : 1 ≤ k ∧ k ≤ 7) : hasB (usesOf k) 78 = hasName k ∧ hasB (usesOf k) 76 = hasNames k ∧ hasB (usesOf k) 70 = hasFaults k ∧ hasB (usesOf k) 84 = hasTerm k ∧ hasB (usesOf k) 80 = hasConfig k ∧ hasB (usesOf k) 85 = (hasConfig k || mayUse k) := by
 obtain rfl | rfl | rfl | rfl | rfl | rfl | rfl : k = 1 ∨ k = 2 ∨ k = 3 ∨ k = 4 ∨ k = 5 ∨ k = 6 ∨ k = 7 := by omega
 all_goals decide

set_option maxRecDepth 100000 in
set_option maxHeartbeats 2000000 in
theorem uses_ref (k : Int) (w : World) (h : 1 ≤ k ∧ k ≤ 7) : Calls Tryz.prog 104 #[.int .i64 k] w fun e w' => e = .returned (.string (usesOf k)) ∧ Below w.heap.size w w' := by
 have hnew := heap_alloc_new w (.cells #[.string ⟨#[]⟩, .string ⟨#[78, 76]⟩, .string ⟨#[78, 70]⟩, .string ⟨#[78, 84]⟩, .string ⟨#[78, 80, 85]⟩, .string ⟨#[76]⟩, .string ⟨#[78, 85]⟩, .string ⟨#[76]⟩] 9)
 have hb : Below w.heap.size w (w.alloc (.cells #[.string ⟨#[]⟩, .string ⟨#[78, 76]⟩, .string ⟨#[78, 70]⟩, .string ⟨#[78, 84]⟩, .string ⟨#[78, 80, 85]⟩, .string ⟨#[76]⟩, .string ⟨#[78, 85]⟩, .string ⟨#[76]⟩] 9)) := (Below.refl _ _).alloc (Nat.le_refl _) _
 have c1 := (cell_of_row _ _ 1 _ _ _ hnew).trans rfl
 have c2 := (cell_of_row _ _ 2 _ _ _ hnew).trans rfl
 have c3 := (cell_of_row _ _ 3 _ _ _ hnew).trans rfl
 have c4 := (cell_of_row _ _ 4 _ _ _ hnew).trans rfl
 have c5 := (cell_of_row _ _ 5 _ _ _ hnew).trans rfl
 have c6 := (cell_of_row _ _ 6 _ _ _ hnew).trans rfl
 have c7 := (cell_of_row _ _ 7 _ _ _ hnew).trans rfl
 clear hnew
 obtain rfl | rfl | rfl | rfl | rfl | rfl | rfl : k = 1 ∨ k = 2 ∨ k = 3 ∨ k = 4 ∨ k = 5 ∨ k = 6 ∨ k = 7 := by omega
 all_goals
  clear h
  go_enter Tryz.func104, Tryz.ntmps104
  go_wp2
  go_ret
  exact ⟨rfl, hb⟩

theorem fok1 (nm : ByteArray) (x y : Int) (bl cl : List ByteArray) : okFt ⟨1, nm, x, y, bl, cl⟩ = (decide (nm.size = 0) && !(!decide (x = 0) || !decide (y = 0)) && !decide (0 < bl.length + cl.length)) := rfl
theorem fok2 (nm : ByteArray) (x y : Int) (bl cl : List ByteArray) : okFt ⟨2, nm, x, y, bl, cl⟩ = (decide (nm.size = 0) && small x && small y && !decide (0 < bl.length + cl.length)) := rfl
theorem fok3 (nm : ByteArray) (x y : Int) (bl cl : List ByteArray) : okFt ⟨3, nm, x, y, bl, cl⟩ = (decide (nm.size = 0) && !(!decide (x = 0) || !decide (y = 0)) && decide (0 < bl.length + cl.length) && okNames bl && okNames cl) := rfl
theorem fok4 (nm : ByteArray) (x y : Int) (bl cl : List ByteArray) : okFt ⟨4, nm, x, y, bl, cl⟩ = (okName nm && !(!decide (x = 0) || !decide (y = 0)) && !decide (0 < bl.length + cl.length)) := rfl
theorem fok5 (nm : ByteArray) (x y : Int) (bl cl : List ByteArray) : okFt ⟨5, nm, x, y, bl, cl⟩ = (okName nm && !(!decide (x = 0) || !decide (y = 0)) && !decide (0 < bl.length + cl.length)) := rfl
theorem fok6 (nm : ByteArray) (x y : Int) (bl cl : List ByteArray) : okFt ⟨6, nm, x, y, bl, cl⟩ = (okName nm && !(!decide (x = 0) || !decide (y = 0)) && !decide (0 < bl.length + cl.length)) := rfl
theorem fok0 {op : Int} (nm : ByteArray) (x y : Int) (bl cl : List ByteArray) (h : ¬ (1 ≤ op ∧ op ≤ 6)) : okFt ⟨op, nm, x, y, bl, cl⟩ = false := by
 unfold okFt
 rw [if_neg (by simp only; omega), if_neg (by simp only; omega), if_neg (by simp only; omega), if_neg (by simp only; omega)]

set_option maxRecDepth 100000 in
set_option maxHeartbeats 16000000 in
theorem isFault_ref (f : Ft) (v : Value) (w : World) (S : Nat → Prop) (hv : FtAt w S f v) (hS : ∀ g, S g → g < w.heap.size) (hz : f.byzNames.length ≤ 1000000000 ∧ f.crashNames.length ≤ 1000000000) :
  Calls Tryz.prog 105 #[v] w fun e w' => e = .returned (.bool (okFt f)) ∧ Below w.heap.size w w' := by
 obtain ⟨op, nm, x, y, bl, cl⟩ := f
 obtain ⟨bA, bc, cA, cc, rfl, hs1, hbc, hs2, hcc⟩ := hv
 simp only at hs1 hs2 hz hbc hcc ⊢
 obtain ⟨hz1, hz2⟩ := hz
 obtain ⟨w0, hw0⟩ : ∃ w0 : World, w0 = w.alloc (.cells #[.int .i64 op, .string nm, .int .i64 x, .int .i64 y, .slice bA bl.length bc, .slice cA cl.length cc] 97) := ⟨_, rfl⟩
 have hb0 : Below w.heap.size w w0 := by rw [hw0]; exact (Below.refl _ _).alloc (Nat.le_refl _) _
 have hlt0 : w.heap.size < w0.heap.size := by rw [hw0]; simp
 have hr0 : w0.heap[w.heap.size]? = some (.cells #[.int .i64 op, .string nm, .int .i64 x, .int .i64 y, .slice bA bl.length bc, .slice cA cl.length cc] 97 (0, 0)) := by rw [hw0]; exact heap_alloc_new w _
 have H1 := Lib.hid hs1
 have H2 := Lib.hid hs2
 have HA1 := Lib.hid (fun (W : World) (hW : Below w.heap.size w W) => all_ref bl bA bc W S (hs1.keep (kept_of hW hS)) (fun g hg => by have := hS g hg; have := hW.size; omega) (by omega))
 have HA2 := Lib.hid (fun (W : World) (hW : Below w.heap.size w W) => all_ref cl cA cc W S (hs2.keep (kept_of hW hS)) (fun g hg => by have := hS g hg; have := hW.size; omega) (by omega))
 have HR0 := Lib.hid hr0
 have HW0 := Lib.hid hw0
 clear hs1 hs2 hr0 hw0
 have hbs := hb0.size
 by_cases h1 : op = 1
 ·subst h1
  by_cases hnm : nm.size = 0
  ·obtain rfl := size_zero hnm
   have dnm : decide ((⟨#[]⟩ : ByteArray).size = 0) = true := rfl
   by_cases hx : x = 0
   ·have dx : decide (x = 0) = true := decide_eq_true hx
    have zx : (x == 0) = true := by rw [hx]; rfl
    by_cases hy : y = 0
    ·have dy : decide (y = 0) = true := decide_eq_true hy
     have zy : (y == 0) = true := by rw [hy]; rfl
     by_cases hk : 0 < bl.length + cl.length
     ·have dk : decide (0 < bl.length + cl.length) = true := decide_eq_true hk
      have zk : (((bl.length : Int) + (cl.length : Int)) == 0) = false := by rw [beq_eq_false_iff_ne]; omega
      have zk2 : (0 : Int) < ((bl.length : Int) + (cl.length : Int)) := by omega
      have EL := Lib.hid (show okFt ⟨1, ⟨#[]⟩, x, y, bl, cl⟩ = false by rw [fok1, dnm, dx, dy, dk]; rfl)
      clear dnm dx dy dk hnm hx hy hk
      go_enter Tryz.func105, Tryz.ntmps105
      go_upto_region 1 with fail
      rw [← HW0.out]
      obtain ⟨c0, c1, c2, c3, c4, c5, -⟩ := row6 HR0.out
      clear HW0
      go_wp2
      go_ret
      exact ⟨by rw [EL.out]; rfl, hb0⟩
     ·have dk : decide (0 < bl.length + cl.length) = false := decide_eq_false hk
      have zk : (((bl.length : Int) + (cl.length : Int)) == 0) = true := by rw [beq_iff_eq]; omega
      have zk2 : ¬ (0 : Int) < ((bl.length : Int) + (cl.length : Int)) := by omega
      have EL := Lib.hid (show okFt ⟨1, ⟨#[]⟩, x, y, bl, cl⟩ = true by rw [fok1, dnm, dx, dy, dk]; rfl)
      clear dnm dx dy dk hnm hx hy hk
      go_enter Tryz.func105, Tryz.ntmps105
      go_upto_region 1 with fail
      rw [← HW0.out]
      obtain ⟨c0, c1, c2, c3, c4, c5, -⟩ := row6 HR0.out
      clear HW0
      go_wp2
      go_ret
      exact ⟨by rw [EL.out]; rfl, hb0⟩
    ·have dy : decide (y = 0) = false := decide_eq_false hy
     have zy : (y == 0) = false := by rw [beq_eq_false_iff_ne]; exact hy
     have EL := Lib.hid (show okFt ⟨1, ⟨#[]⟩, x, y, bl, cl⟩ = false by rw [fok1, dnm, dx, dy]; rfl)
     clear dnm dx dy hnm hx hy
     go_enter Tryz.func105, Tryz.ntmps105
     go_upto_region 1 with fail
     rw [← HW0.out]
     obtain ⟨c0, c1, c2, c3, c4, c5, -⟩ := row6 HR0.out
     clear HW0
     go_wp2
     go_ret
     exact ⟨by rw [EL.out]; rfl, hb0⟩
   ·have dx : decide (x = 0) = false := decide_eq_false hx
    have zx : (x == 0) = false := by rw [beq_eq_false_iff_ne]; exact hx
    have EL := Lib.hid (show okFt ⟨1, ⟨#[]⟩, x, y, bl, cl⟩ = false by rw [fok1, dnm, dx]; rfl)
    clear dnm dx hnm hx
    go_enter Tryz.func105, Tryz.ntmps105
    go_upto_region 1 with fail
    rw [← HW0.out]
    obtain ⟨c0, c1, c2, c3, c4, c5, -⟩ := row6 HR0.out
    clear HW0
    go_wp2
    go_ret
    exact ⟨by rw [EL.out]; rfl, hb0⟩
  ·have dnm : decide (nm.size = 0) = false := decide_eq_false hnm
   have hne := toList_isEmpty (show 0 < nm.size by omega)
   have EL := Lib.hid (show okFt ⟨1, nm, x, y, bl, cl⟩ = false by rw [fok1, dnm]; rfl)
   clear dnm hnm
   go_enter Tryz.func105, Tryz.ntmps105
   go_upto_region 1 with fail
   rw [← HW0.out]
   obtain ⟨c0, c1, c2, c3, c4, c5, -⟩ := row6 HR0.out
   clear HW0
   go_wp2
   go_ret
   exact ⟨by rw [EL.out]; rfl, hb0⟩
 have q1 : (op == 1) = false := by rw [beq_eq_false_iff_ne]; exact h1
 by_cases h2 : op = 2
 ·subst h2
  by_cases hnm : nm.size = 0
  ·obtain rfl := size_zero hnm
   have dnm : decide ((⟨#[]⟩ : ByteArray).size = 0) = true := rfl
   cases hsx : small x
   ·have HX := Lib.hid (by have h := small_ref x w0; rw [hsx] at h; exact h)
    have EL := Lib.hid (show okFt ⟨2, ⟨#[]⟩, x, y, bl, cl⟩ = false by rw [fok2, dnm, hsx]; rfl)
    clear dnm hsx hnm
    go_enter Tryz.func105, Tryz.ntmps105
    go_upto_region 1 with fail
    rw [← HW0.out]
    obtain ⟨c0, c1, c2, c3, c4, c5, -⟩ := row6 HR0.out
    clear HW0
    go_wp2_with fail
    refine HX.out.mono ?_
    rintro e w' ⟨rfl, rfl⟩
    go_wp2
    go_ret
    exact ⟨by rw [EL.out]; rfl, hb0⟩
   ·have HX := Lib.hid (by have h := small_ref x w0; rw [hsx] at h; exact h)
    cases hsy : small y
    ·have HY_ := Lib.hid (by have h := small_ref y w0; rw [hsy] at h; exact h)
     have EL := Lib.hid (show okFt ⟨2, ⟨#[]⟩, x, y, bl, cl⟩ = false by rw [fok2, dnm, hsx, hsy]; rfl)
     clear dnm hsx hsy hnm
     go_enter Tryz.func105, Tryz.ntmps105
     go_upto_region 1 with fail
     rw [← HW0.out]
     obtain ⟨c0, c1, c2, c3, c4, c5, -⟩ := row6 HR0.out
     clear HW0
     go_wp2_with fail
     refine HX.out.mono ?_
     rintro e w' ⟨rfl, rfl⟩
     go_wp2_with fail
     refine HY_.out.mono ?_
     rintro e w' ⟨rfl, rfl⟩
     go_wp2
     go_ret
     exact ⟨by rw [EL.out]; rfl, hb0⟩
    ·have HY_ := Lib.hid (by have h := small_ref y w0; rw [hsy] at h; exact h)
     by_cases hk : 0 < bl.length + cl.length
     ·have dk : decide (0 < bl.length + cl.length) = true := decide_eq_true hk
      have zk : (((bl.length : Int) + (cl.length : Int)) == 0) = false := by rw [beq_eq_false_iff_ne]; omega
      have zk2 : (0 : Int) < ((bl.length : Int) + (cl.length : Int)) := by omega
      have EL := Lib.hid (show okFt ⟨2, ⟨#[]⟩, x, y, bl, cl⟩ = false by rw [fok2, dnm, hsx, hsy, dk]; rfl)
      clear dnm hsx hsy dk hnm hk
      go_enter Tryz.func105, Tryz.ntmps105
      go_upto_region 1 with fail
      rw [← HW0.out]
      obtain ⟨c0, c1, c2, c3, c4, c5, -⟩ := row6 HR0.out
      clear HW0
      go_wp2_with fail
      refine HX.out.mono ?_
      rintro e w' ⟨rfl, rfl⟩
      go_wp2_with fail
      refine HY_.out.mono ?_
      rintro e w' ⟨rfl, rfl⟩
      go_wp2
      go_ret
      exact ⟨by rw [EL.out]; rfl, hb0⟩
     ·have dk : decide (0 < bl.length + cl.length) = false := decide_eq_false hk
      have zk : (((bl.length : Int) + (cl.length : Int)) == 0) = true := by rw [beq_iff_eq]; omega
      have zk2 : ¬ (0 : Int) < ((bl.length : Int) + (cl.length : Int)) := by omega
      have EL := Lib.hid (show okFt ⟨2, ⟨#[]⟩, x, y, bl, cl⟩ = true by rw [fok2, dnm, hsx, hsy, dk]; rfl)
      clear dnm hsx hsy dk hnm hk
      go_enter Tryz.func105, Tryz.ntmps105
      go_upto_region 1 with fail
      rw [← HW0.out]
      obtain ⟨c0, c1, c2, c3, c4, c5, -⟩ := row6 HR0.out
      clear HW0
      go_wp2_with fail
      refine HX.out.mono ?_
      rintro e w' ⟨rfl, rfl⟩
      go_wp2_with fail
      refine HY_.out.mono ?_
      rintro e w' ⟨rfl, rfl⟩
      go_wp2
      go_ret
      exact ⟨by rw [EL.out]; rfl, hb0⟩
  ·have dnm : decide (nm.size = 0) = false := decide_eq_false hnm
   have hne := toList_isEmpty (show 0 < nm.size by omega)
   have EL := Lib.hid (show okFt ⟨2, nm, x, y, bl, cl⟩ = false by rw [fok2, dnm]; rfl)
   clear dnm hnm
   go_enter Tryz.func105, Tryz.ntmps105
   go_upto_region 1 with fail
   rw [← HW0.out]
   obtain ⟨c0, c1, c2, c3, c4, c5, -⟩ := row6 HR0.out
   clear HW0
   go_wp2
   go_ret
   exact ⟨by rw [EL.out]; rfl, hb0⟩
 have q2 : (op == 2) = false := by rw [beq_eq_false_iff_ne]; exact h2
 by_cases h3 : op = 3
 ·subst h3
  by_cases hnm : nm.size = 0
  ·obtain rfl := size_zero hnm
   have dnm : decide ((⟨#[]⟩ : ByteArray).size = 0) = true := rfl
   by_cases hx : x = 0
   ·have dx : decide (x = 0) = true := decide_eq_true hx
    have zx : (x == 0) = true := by rw [hx]; rfl
    by_cases hy : y = 0
    ·have dy : decide (y = 0) = true := decide_eq_true hy
     have zy : (y == 0) = true := by rw [hy]; rfl
     by_cases hk : 0 < bl.length + cl.length
     ·have dk : decide (0 < bl.length + cl.length) = true := decide_eq_true hk
      have zk : (((bl.length : Int) + (cl.length : Int)) == 0) = false := by rw [beq_eq_false_iff_ne]; omega
      have zk2 : (0 : Int) < ((bl.length : Int) + (cl.length : Int)) := by omega
      cases ha1 : okNames bl
      ·rw [ha1] at HA1
       have EL := Lib.hid (show okFt ⟨3, ⟨#[]⟩, x, y, bl, cl⟩ = false by rw [fok3, dnm, dx, dy, dk, ha1]; rfl)
       clear dnm dx dy dk ha1 hnm hx hy hk
       go_enter Tryz.func105, Tryz.ntmps105
       go_upto_region 1 with fail
       rw [← HW0.out]
       obtain ⟨c0, c1, c2, c3, c4, c5, -⟩ := row6 HR0.out
       clear HW0
       go_wp2_with fail
       refine (HA1.out w0 hb0).mono ?_
       rintro e V1 ⟨rfl, hv1⟩
       have hw1 : Below w0.heap.size w0 V1 := hv1
       have hx1 : Below w.heap.size w V1 := hb0.trans (hw1.mono hbs)
       obtain ⟨e0, e1, e2, e3, e4, e5, -⟩ := row6 ((hw1.block _ hlt0).trans HR0.out)
       clear c0 c1 c2 c3 c4 c5
       have p0 := e0
       have p1 := e1
       have p2 := e2
       have p3 := e3
       have p4 := e4
       have p5 := e5
       clear e0 e1 e2 e3 e4 e5
       go_wp2
       go_ret
       exact ⟨by rw [EL.out]; rfl, hx1⟩
      ·rw [ha1] at HA1
       cases ha2 : okNames cl
       ·rw [ha2] at HA2
        have EL := Lib.hid (show okFt ⟨3, ⟨#[]⟩, x, y, bl, cl⟩ = false by rw [fok3, dnm, dx, dy, dk, ha1, ha2]; rfl)
        clear dnm dx dy dk ha1 ha2 hnm hx hy hk
        go_enter Tryz.func105, Tryz.ntmps105
        go_upto_region 1 with fail
        rw [← HW0.out]
        obtain ⟨c0, c1, c2, c3, c4, c5, -⟩ := row6 HR0.out
        clear HW0
        go_wp2_with fail
        refine (HA1.out w0 hb0).mono ?_
        rintro e V1 ⟨rfl, hv1⟩
        have hw1 : Below w0.heap.size w0 V1 := hv1
        have hx1 : Below w.heap.size w V1 := hb0.trans (hw1.mono hbs)
        obtain ⟨e0, e1, e2, e3, e4, e5, -⟩ := row6 ((hw1.block _ hlt0).trans HR0.out)
        clear c0 c1 c2 c3 c4 c5
        have p0 := e0
        have p1 := e1
        have p2 := e2
        have p3 := e3
        have p4 := e4
        have p5 := e5
        clear e0 e1 e2 e3 e4 e5
        go_wp2_with fail
        refine (HA2.out V1 hx1).mono ?_
        rintro e V2 ⟨rfl, hv2⟩
        have hw2 : Below w0.heap.size w0 V2 := hw1.trans (hv2.mono hw1.size)
        have hx2 : Below w.heap.size w V2 := hb0.trans (hw2.mono hbs)
        obtain ⟨e0, e1, e2, e3, e4, e5, -⟩ := row6 ((hw2.block _ hlt0).trans HR0.out)
        clear p0 p1 p2 p3 p4 p5
        have p0 := e0
        have p1 := e1
        have p2 := e2
        have p3 := e3
        have p4 := e4
        have p5 := e5
        clear e0 e1 e2 e3 e4 e5
        go_wp2
        go_ret
        exact ⟨by rw [EL.out]; rfl, hx2⟩
       ·rw [ha2] at HA2
        have EL := Lib.hid (show okFt ⟨3, ⟨#[]⟩, x, y, bl, cl⟩ = true by rw [fok3, dnm, dx, dy, dk, ha1, ha2]; rfl)
        clear dnm dx dy dk ha1 ha2 hnm hx hy hk
        go_enter Tryz.func105, Tryz.ntmps105
        go_upto_region 1 with fail
        rw [← HW0.out]
        obtain ⟨c0, c1, c2, c3, c4, c5, -⟩ := row6 HR0.out
        clear HW0
        go_wp2_with fail
        refine (HA1.out w0 hb0).mono ?_
        rintro e V1 ⟨rfl, hv1⟩
        have hw1 : Below w0.heap.size w0 V1 := hv1
        have hx1 : Below w.heap.size w V1 := hb0.trans (hw1.mono hbs)
        obtain ⟨e0, e1, e2, e3, e4, e5, -⟩ := row6 ((hw1.block _ hlt0).trans HR0.out)
        clear c0 c1 c2 c3 c4 c5
        have p0 := e0
        have p1 := e1
        have p2 := e2
        have p3 := e3
        have p4 := e4
        have p5 := e5
        clear e0 e1 e2 e3 e4 e5
        go_wp2_with fail
        refine (HA2.out V1 hx1).mono ?_
        rintro e V2 ⟨rfl, hv2⟩
        have hw2 : Below w0.heap.size w0 V2 := hw1.trans (hv2.mono hw1.size)
        have hx2 : Below w.heap.size w V2 := hb0.trans (hw2.mono hbs)
        obtain ⟨e0, e1, e2, e3, e4, e5, -⟩ := row6 ((hw2.block _ hlt0).trans HR0.out)
        clear p0 p1 p2 p3 p4 p5
        have p0 := e0
        have p1 := e1
        have p2 := e2
        have p3 := e3
        have p4 := e4
        have p5 := e5
        clear e0 e1 e2 e3 e4 e5
        go_wp2
        go_ret
        exact ⟨by rw [EL.out]; rfl, hx2⟩
     ·have dk : decide (0 < bl.length + cl.length) = false := decide_eq_false hk
      have zk : (((bl.length : Int) + (cl.length : Int)) == 0) = true := by rw [beq_iff_eq]; omega
      have zk2 : ¬ (0 : Int) < ((bl.length : Int) + (cl.length : Int)) := by omega
      have EL := Lib.hid (show okFt ⟨3, ⟨#[]⟩, x, y, bl, cl⟩ = false by rw [fok3, dnm, dx, dy, dk]; rfl)
      clear dnm dx dy dk hnm hx hy hk
      go_enter Tryz.func105, Tryz.ntmps105
      go_upto_region 1 with fail
      rw [← HW0.out]
      obtain ⟨c0, c1, c2, c3, c4, c5, -⟩ := row6 HR0.out
      clear HW0
      go_wp2
      go_ret
      exact ⟨by rw [EL.out]; rfl, hb0⟩
    ·have dy : decide (y = 0) = false := decide_eq_false hy
     have zy : (y == 0) = false := by rw [beq_eq_false_iff_ne]; exact hy
     have EL := Lib.hid (show okFt ⟨3, ⟨#[]⟩, x, y, bl, cl⟩ = false by rw [fok3, dnm, dx, dy]; rfl)
     clear dnm dx dy hnm hx hy
     go_enter Tryz.func105, Tryz.ntmps105
     go_upto_region 1 with fail
     rw [← HW0.out]
     obtain ⟨c0, c1, c2, c3, c4, c5, -⟩ := row6 HR0.out
     clear HW0
     go_wp2
     go_ret
     exact ⟨by rw [EL.out]; rfl, hb0⟩
   ·have dx : decide (x = 0) = false := decide_eq_false hx
    have zx : (x == 0) = false := by rw [beq_eq_false_iff_ne]; exact hx
    have EL := Lib.hid (show okFt ⟨3, ⟨#[]⟩, x, y, bl, cl⟩ = false by rw [fok3, dnm, dx]; rfl)
    clear dnm dx hnm hx
    go_enter Tryz.func105, Tryz.ntmps105
    go_upto_region 1 with fail
    rw [← HW0.out]
    obtain ⟨c0, c1, c2, c3, c4, c5, -⟩ := row6 HR0.out
    clear HW0
    go_wp2
    go_ret
    exact ⟨by rw [EL.out]; rfl, hb0⟩
  ·have dnm : decide (nm.size = 0) = false := decide_eq_false hnm
   have hne := toList_isEmpty (show 0 < nm.size by omega)
   have EL := Lib.hid (show okFt ⟨3, nm, x, y, bl, cl⟩ = false by rw [fok3, dnm]; rfl)
   clear dnm hnm
   go_enter Tryz.func105, Tryz.ntmps105
   go_upto_region 1 with fail
   rw [← HW0.out]
   obtain ⟨c0, c1, c2, c3, c4, c5, -⟩ := row6 HR0.out
   clear HW0
   go_wp2
   go_ret
   exact ⟨by rw [EL.out]; rfl, hb0⟩
 have q3 : (op == 3) = false := by rw [beq_eq_false_iff_ne]; exact h3
 by_cases h4 : op = 4
 ·subst h4
  cases hok : okName nm
  ·have HN := Lib.hid (by have h := isName_ref nm w0; rw [hok] at h; exact h)
   have EL := Lib.hid (show okFt ⟨4, nm, x, y, bl, cl⟩ = false by rw [fok4, hok]; rfl)
   clear hok
   go_enter Tryz.func105, Tryz.ntmps105
   go_upto_region 1 with fail
   rw [← HW0.out]
   obtain ⟨c0, c1, c2, c3, c4, c5, -⟩ := row6 HR0.out
   clear HW0
   go_wp2_with fail
   refine HN.out.mono ?_
   rintro e V1 ⟨rfl, hv1⟩
   have hw1 : Below w0.heap.size w0 V1 := hv1
   have hx1 : Below w.heap.size w V1 := hb0.trans (hw1.mono hbs)
   obtain ⟨e0, e1, e2, e3, e4, e5, -⟩ := row6 ((hw1.block _ hlt0).trans HR0.out)
   clear c0 c1 c2 c3 c4 c5
   have p0 := e0
   have p1 := e1
   have p2 := e2
   have p3 := e3
   have p4 := e4
   have p5 := e5
   clear e0 e1 e2 e3 e4 e5
   go_wp2
   go_ret
   exact ⟨by rw [EL.out]; rfl, hx1⟩
  ·have HN := Lib.hid (by have h := isName_ref nm w0; rw [hok] at h; exact h)
   by_cases hx : x = 0
   ·have dx : decide (x = 0) = true := decide_eq_true hx
    have zx : (x == 0) = true := by rw [hx]; rfl
    by_cases hy : y = 0
    ·have dy : decide (y = 0) = true := decide_eq_true hy
     have zy : (y == 0) = true := by rw [hy]; rfl
     by_cases hk : 0 < bl.length + cl.length
     ·have dk : decide (0 < bl.length + cl.length) = true := decide_eq_true hk
      have zk : (((bl.length : Int) + (cl.length : Int)) == 0) = false := by rw [beq_eq_false_iff_ne]; omega
      have zk2 : (0 : Int) < ((bl.length : Int) + (cl.length : Int)) := by omega
      have EL := Lib.hid (show okFt ⟨4, nm, x, y, bl, cl⟩ = false by rw [fok4, hok, dx, dy, dk]; rfl)
      clear hok dx dy dk hx hy hk
      go_enter Tryz.func105, Tryz.ntmps105
      go_upto_region 1 with fail
      rw [← HW0.out]
      obtain ⟨c0, c1, c2, c3, c4, c5, -⟩ := row6 HR0.out
      clear HW0
      go_wp2_with fail
      refine HN.out.mono ?_
      rintro e V1 ⟨rfl, hv1⟩
      have hw1 : Below w0.heap.size w0 V1 := hv1
      have hx1 : Below w.heap.size w V1 := hb0.trans (hw1.mono hbs)
      obtain ⟨e0, e1, e2, e3, e4, e5, -⟩ := row6 ((hw1.block _ hlt0).trans HR0.out)
      clear c0 c1 c2 c3 c4 c5
      have p0 := e0
      have p1 := e1
      have p2 := e2
      have p3 := e3
      have p4 := e4
      have p5 := e5
      clear e0 e1 e2 e3 e4 e5
      go_wp2
      go_ret
      exact ⟨by rw [EL.out]; rfl, hx1⟩
     ·have dk : decide (0 < bl.length + cl.length) = false := decide_eq_false hk
      have zk : (((bl.length : Int) + (cl.length : Int)) == 0) = true := by rw [beq_iff_eq]; omega
      have zk2 : ¬ (0 : Int) < ((bl.length : Int) + (cl.length : Int)) := by omega
      have EL := Lib.hid (show okFt ⟨4, nm, x, y, bl, cl⟩ = true by rw [fok4, hok, dx, dy, dk]; rfl)
      clear hok dx dy dk hx hy hk
      go_enter Tryz.func105, Tryz.ntmps105
      go_upto_region 1 with fail
      rw [← HW0.out]
      obtain ⟨c0, c1, c2, c3, c4, c5, -⟩ := row6 HR0.out
      clear HW0
      go_wp2_with fail
      refine HN.out.mono ?_
      rintro e V1 ⟨rfl, hv1⟩
      have hw1 : Below w0.heap.size w0 V1 := hv1
      have hx1 : Below w.heap.size w V1 := hb0.trans (hw1.mono hbs)
      obtain ⟨e0, e1, e2, e3, e4, e5, -⟩ := row6 ((hw1.block _ hlt0).trans HR0.out)
      clear c0 c1 c2 c3 c4 c5
      have p0 := e0
      have p1 := e1
      have p2 := e2
      have p3 := e3
      have p4 := e4
      have p5 := e5
      clear e0 e1 e2 e3 e4 e5
      go_wp2
      go_ret
      exact ⟨by rw [EL.out]; rfl, hx1⟩
    ·have dy : decide (y = 0) = false := decide_eq_false hy
     have zy : (y == 0) = false := by rw [beq_eq_false_iff_ne]; exact hy
     have EL := Lib.hid (show okFt ⟨4, nm, x, y, bl, cl⟩ = false by rw [fok4, hok, dx, dy]; rfl)
     clear hok dx dy hx hy
     go_enter Tryz.func105, Tryz.ntmps105
     go_upto_region 1 with fail
     rw [← HW0.out]
     obtain ⟨c0, c1, c2, c3, c4, c5, -⟩ := row6 HR0.out
     clear HW0
     go_wp2_with fail
     refine HN.out.mono ?_
     rintro e V1 ⟨rfl, hv1⟩
     have hw1 : Below w0.heap.size w0 V1 := hv1
     have hx1 : Below w.heap.size w V1 := hb0.trans (hw1.mono hbs)
     obtain ⟨e0, e1, e2, e3, e4, e5, -⟩ := row6 ((hw1.block _ hlt0).trans HR0.out)
     clear c0 c1 c2 c3 c4 c5
     have p0 := e0
     have p1 := e1
     have p2 := e2
     have p3 := e3
     have p4 := e4
     have p5 := e5
     clear e0 e1 e2 e3 e4 e5
     go_wp2
     go_ret
     exact ⟨by rw [EL.out]; rfl, hx1⟩
   ·have dx : decide (x = 0) = false := decide_eq_false hx
    have zx : (x == 0) = false := by rw [beq_eq_false_iff_ne]; exact hx
    have EL := Lib.hid (show okFt ⟨4, nm, x, y, bl, cl⟩ = false by rw [fok4, hok, dx]; rfl)
    clear hok dx hx
    go_enter Tryz.func105, Tryz.ntmps105
    go_upto_region 1 with fail
    rw [← HW0.out]
    obtain ⟨c0, c1, c2, c3, c4, c5, -⟩ := row6 HR0.out
    clear HW0
    go_wp2_with fail
    refine HN.out.mono ?_
    rintro e V1 ⟨rfl, hv1⟩
    have hw1 : Below w0.heap.size w0 V1 := hv1
    have hx1 : Below w.heap.size w V1 := hb0.trans (hw1.mono hbs)
    obtain ⟨e0, e1, e2, e3, e4, e5, -⟩ := row6 ((hw1.block _ hlt0).trans HR0.out)
    clear c0 c1 c2 c3 c4 c5
    have p0 := e0
    have p1 := e1
    have p2 := e2
    have p3 := e3
    have p4 := e4
    have p5 := e5
    clear e0 e1 e2 e3 e4 e5
    go_wp2
    go_ret
    exact ⟨by rw [EL.out]; rfl, hx1⟩
 have q4 : (op == 4) = false := by rw [beq_eq_false_iff_ne]; exact h4
 by_cases h5 : op = 5
 ·subst h5
  cases hok : okName nm
  ·have HN := Lib.hid (by have h := isName_ref nm w0; rw [hok] at h; exact h)
   have EL := Lib.hid (show okFt ⟨5, nm, x, y, bl, cl⟩ = false by rw [fok5, hok]; rfl)
   clear hok
   go_enter Tryz.func105, Tryz.ntmps105
   go_upto_region 1 with fail
   rw [← HW0.out]
   obtain ⟨c0, c1, c2, c3, c4, c5, -⟩ := row6 HR0.out
   clear HW0
   go_wp2_with fail
   refine HN.out.mono ?_
   rintro e V1 ⟨rfl, hv1⟩
   have hw1 : Below w0.heap.size w0 V1 := hv1
   have hx1 : Below w.heap.size w V1 := hb0.trans (hw1.mono hbs)
   obtain ⟨e0, e1, e2, e3, e4, e5, -⟩ := row6 ((hw1.block _ hlt0).trans HR0.out)
   clear c0 c1 c2 c3 c4 c5
   have p0 := e0
   have p1 := e1
   have p2 := e2
   have p3 := e3
   have p4 := e4
   have p5 := e5
   clear e0 e1 e2 e3 e4 e5
   go_wp2
   go_ret
   exact ⟨by rw [EL.out]; rfl, hx1⟩
  ·have HN := Lib.hid (by have h := isName_ref nm w0; rw [hok] at h; exact h)
   by_cases hx : x = 0
   ·have dx : decide (x = 0) = true := decide_eq_true hx
    have zx : (x == 0) = true := by rw [hx]; rfl
    by_cases hy : y = 0
    ·have dy : decide (y = 0) = true := decide_eq_true hy
     have zy : (y == 0) = true := by rw [hy]; rfl
     by_cases hk : 0 < bl.length + cl.length
     ·have dk : decide (0 < bl.length + cl.length) = true := decide_eq_true hk
      have zk : (((bl.length : Int) + (cl.length : Int)) == 0) = false := by rw [beq_eq_false_iff_ne]; omega
      have zk2 : (0 : Int) < ((bl.length : Int) + (cl.length : Int)) := by omega
      have EL := Lib.hid (show okFt ⟨5, nm, x, y, bl, cl⟩ = false by rw [fok5, hok, dx, dy, dk]; rfl)
      clear hok dx dy dk hx hy hk
      go_enter Tryz.func105, Tryz.ntmps105
      go_upto_region 1 with fail
      rw [← HW0.out]
      obtain ⟨c0, c1, c2, c3, c4, c5, -⟩ := row6 HR0.out
      clear HW0
      go_wp2_with fail
      refine HN.out.mono ?_
      rintro e V1 ⟨rfl, hv1⟩
      have hw1 : Below w0.heap.size w0 V1 := hv1
      have hx1 : Below w.heap.size w V1 := hb0.trans (hw1.mono hbs)
      obtain ⟨e0, e1, e2, e3, e4, e5, -⟩ := row6 ((hw1.block _ hlt0).trans HR0.out)
      clear c0 c1 c2 c3 c4 c5
      have p0 := e0
      have p1 := e1
      have p2 := e2
      have p3 := e3
      have p4 := e4
      have p5 := e5
      clear e0 e1 e2 e3 e4 e5
      go_wp2
      go_ret
      exact ⟨by rw [EL.out]; rfl, hx1⟩
     ·have dk : decide (0 < bl.length + cl.length) = false := decide_eq_false hk
      have zk : (((bl.length : Int) + (cl.length : Int)) == 0) = true := by rw [beq_iff_eq]; omega
      have zk2 : ¬ (0 : Int) < ((bl.length : Int) + (cl.length : Int)) := by omega
      have EL := Lib.hid (show okFt ⟨5, nm, x, y, bl, cl⟩ = true by rw [fok5, hok, dx, dy, dk]; rfl)
      clear hok dx dy dk hx hy hk
      go_enter Tryz.func105, Tryz.ntmps105
      go_upto_region 1 with fail
      rw [← HW0.out]
      obtain ⟨c0, c1, c2, c3, c4, c5, -⟩ := row6 HR0.out
      clear HW0
      go_wp2_with fail
      refine HN.out.mono ?_
      rintro e V1 ⟨rfl, hv1⟩
      have hw1 : Below w0.heap.size w0 V1 := hv1
      have hx1 : Below w.heap.size w V1 := hb0.trans (hw1.mono hbs)
      obtain ⟨e0, e1, e2, e3, e4, e5, -⟩ := row6 ((hw1.block _ hlt0).trans HR0.out)
      clear c0 c1 c2 c3 c4 c5
      have p0 := e0
      have p1 := e1
      have p2 := e2
      have p3 := e3
      have p4 := e4
      have p5 := e5
      clear e0 e1 e2 e3 e4 e5
      go_wp2
      go_ret
      exact ⟨by rw [EL.out]; rfl, hx1⟩
    ·have dy : decide (y = 0) = false := decide_eq_false hy
     have zy : (y == 0) = false := by rw [beq_eq_false_iff_ne]; exact hy
     have EL := Lib.hid (show okFt ⟨5, nm, x, y, bl, cl⟩ = false by rw [fok5, hok, dx, dy]; rfl)
     clear hok dx dy hx hy
     go_enter Tryz.func105, Tryz.ntmps105
     go_upto_region 1 with fail
     rw [← HW0.out]
     obtain ⟨c0, c1, c2, c3, c4, c5, -⟩ := row6 HR0.out
     clear HW0
     go_wp2_with fail
     refine HN.out.mono ?_
     rintro e V1 ⟨rfl, hv1⟩
     have hw1 : Below w0.heap.size w0 V1 := hv1
     have hx1 : Below w.heap.size w V1 := hb0.trans (hw1.mono hbs)
     obtain ⟨e0, e1, e2, e3, e4, e5, -⟩ := row6 ((hw1.block _ hlt0).trans HR0.out)
     clear c0 c1 c2 c3 c4 c5
     have p0 := e0
     have p1 := e1
     have p2 := e2
     have p3 := e3
     have p4 := e4
     have p5 := e5
     clear e0 e1 e2 e3 e4 e5
     go_wp2
     go_ret
     exact ⟨by rw [EL.out]; rfl, hx1⟩
   ·have dx : decide (x = 0) = false := decide_eq_false hx
    have zx : (x == 0) = false := by rw [beq_eq_false_iff_ne]; exact hx
    have EL := Lib.hid (show okFt ⟨5, nm, x, y, bl, cl⟩ = false by rw [fok5, hok, dx]; rfl)
    clear hok dx hx
    go_enter Tryz.func105, Tryz.ntmps105
    go_upto_region 1 with fail
    rw [← HW0.out]
    obtain ⟨c0, c1, c2, c3, c4, c5, -⟩ := row6 HR0.out
    clear HW0
    go_wp2_with fail
    refine HN.out.mono ?_
    rintro e V1 ⟨rfl, hv1⟩
    have hw1 : Below w0.heap.size w0 V1 := hv1
    have hx1 : Below w.heap.size w V1 := hb0.trans (hw1.mono hbs)
    obtain ⟨e0, e1, e2, e3, e4, e5, -⟩ := row6 ((hw1.block _ hlt0).trans HR0.out)
    clear c0 c1 c2 c3 c4 c5
    have p0 := e0
    have p1 := e1
    have p2 := e2
    have p3 := e3
    have p4 := e4
    have p5 := e5
    clear e0 e1 e2 e3 e4 e5
    go_wp2
    go_ret
    exact ⟨by rw [EL.out]; rfl, hx1⟩
 have q5 : (op == 5) = false := by rw [beq_eq_false_iff_ne]; exact h5
 by_cases h6 : op = 6
 ·subst h6
  cases hok : okName nm
  ·have HN := Lib.hid (by have h := isName_ref nm w0; rw [hok] at h; exact h)
   have EL := Lib.hid (show okFt ⟨6, nm, x, y, bl, cl⟩ = false by rw [fok6, hok]; rfl)
   clear hok
   go_enter Tryz.func105, Tryz.ntmps105
   go_upto_region 1 with fail
   rw [← HW0.out]
   obtain ⟨c0, c1, c2, c3, c4, c5, -⟩ := row6 HR0.out
   clear HW0
   go_wp2_with fail
   refine HN.out.mono ?_
   rintro e V1 ⟨rfl, hv1⟩
   have hw1 : Below w0.heap.size w0 V1 := hv1
   have hx1 : Below w.heap.size w V1 := hb0.trans (hw1.mono hbs)
   obtain ⟨e0, e1, e2, e3, e4, e5, -⟩ := row6 ((hw1.block _ hlt0).trans HR0.out)
   clear c0 c1 c2 c3 c4 c5
   have p0 := e0
   have p1 := e1
   have p2 := e2
   have p3 := e3
   have p4 := e4
   have p5 := e5
   clear e0 e1 e2 e3 e4 e5
   go_wp2
   go_ret
   exact ⟨by rw [EL.out]; rfl, hx1⟩
  ·have HN := Lib.hid (by have h := isName_ref nm w0; rw [hok] at h; exact h)
   by_cases hx : x = 0
   ·have dx : decide (x = 0) = true := decide_eq_true hx
    have zx : (x == 0) = true := by rw [hx]; rfl
    by_cases hy : y = 0
    ·have dy : decide (y = 0) = true := decide_eq_true hy
     have zy : (y == 0) = true := by rw [hy]; rfl
     by_cases hk : 0 < bl.length + cl.length
     ·have dk : decide (0 < bl.length + cl.length) = true := decide_eq_true hk
      have zk : (((bl.length : Int) + (cl.length : Int)) == 0) = false := by rw [beq_eq_false_iff_ne]; omega
      have zk2 : (0 : Int) < ((bl.length : Int) + (cl.length : Int)) := by omega
      have EL := Lib.hid (show okFt ⟨6, nm, x, y, bl, cl⟩ = false by rw [fok6, hok, dx, dy, dk]; rfl)
      clear hok dx dy dk hx hy hk
      go_enter Tryz.func105, Tryz.ntmps105
      go_upto_region 1 with fail
      rw [← HW0.out]
      obtain ⟨c0, c1, c2, c3, c4, c5, -⟩ := row6 HR0.out
      clear HW0
      go_wp2_with fail
      refine HN.out.mono ?_
      rintro e V1 ⟨rfl, hv1⟩
      have hw1 : Below w0.heap.size w0 V1 := hv1
      have hx1 : Below w.heap.size w V1 := hb0.trans (hw1.mono hbs)
      obtain ⟨e0, e1, e2, e3, e4, e5, -⟩ := row6 ((hw1.block _ hlt0).trans HR0.out)
      clear c0 c1 c2 c3 c4 c5
      have p0 := e0
      have p1 := e1
      have p2 := e2
      have p3 := e3
      have p4 := e4
      have p5 := e5
      clear e0 e1 e2 e3 e4 e5
      go_wp2
      go_ret
      exact ⟨by rw [EL.out]; rfl, hx1⟩
     ·have dk : decide (0 < bl.length + cl.length) = false := decide_eq_false hk
      have zk : (((bl.length : Int) + (cl.length : Int)) == 0) = true := by rw [beq_iff_eq]; omega
      have zk2 : ¬ (0 : Int) < ((bl.length : Int) + (cl.length : Int)) := by omega
      have EL := Lib.hid (show okFt ⟨6, nm, x, y, bl, cl⟩ = true by rw [fok6, hok, dx, dy, dk]; rfl)
      clear hok dx dy dk hx hy hk
      go_enter Tryz.func105, Tryz.ntmps105
      go_upto_region 1 with fail
      rw [← HW0.out]
      obtain ⟨c0, c1, c2, c3, c4, c5, -⟩ := row6 HR0.out
      clear HW0
      go_wp2_with fail
      refine HN.out.mono ?_
      rintro e V1 ⟨rfl, hv1⟩
      have hw1 : Below w0.heap.size w0 V1 := hv1
      have hx1 : Below w.heap.size w V1 := hb0.trans (hw1.mono hbs)
      obtain ⟨e0, e1, e2, e3, e4, e5, -⟩ := row6 ((hw1.block _ hlt0).trans HR0.out)
      clear c0 c1 c2 c3 c4 c5
      have p0 := e0
      have p1 := e1
      have p2 := e2
      have p3 := e3
      have p4 := e4
      have p5 := e5
      clear e0 e1 e2 e3 e4 e5
      go_wp2
      go_ret
      exact ⟨by rw [EL.out]; rfl, hx1⟩
    ·have dy : decide (y = 0) = false := decide_eq_false hy
     have zy : (y == 0) = false := by rw [beq_eq_false_iff_ne]; exact hy
     have EL := Lib.hid (show okFt ⟨6, nm, x, y, bl, cl⟩ = false by rw [fok6, hok, dx, dy]; rfl)
     clear hok dx dy hx hy
     go_enter Tryz.func105, Tryz.ntmps105
     go_upto_region 1 with fail
     rw [← HW0.out]
     obtain ⟨c0, c1, c2, c3, c4, c5, -⟩ := row6 HR0.out
     clear HW0
     go_wp2_with fail
     refine HN.out.mono ?_
     rintro e V1 ⟨rfl, hv1⟩
     have hw1 : Below w0.heap.size w0 V1 := hv1
     have hx1 : Below w.heap.size w V1 := hb0.trans (hw1.mono hbs)
     obtain ⟨e0, e1, e2, e3, e4, e5, -⟩ := row6 ((hw1.block _ hlt0).trans HR0.out)
     clear c0 c1 c2 c3 c4 c5
     have p0 := e0
     have p1 := e1
     have p2 := e2
     have p3 := e3
     have p4 := e4
     have p5 := e5
     clear e0 e1 e2 e3 e4 e5
     go_wp2
     go_ret
     exact ⟨by rw [EL.out]; rfl, hx1⟩
   ·have dx : decide (x = 0) = false := decide_eq_false hx
    have zx : (x == 0) = false := by rw [beq_eq_false_iff_ne]; exact hx
    have EL := Lib.hid (show okFt ⟨6, nm, x, y, bl, cl⟩ = false by rw [fok6, hok, dx]; rfl)
    clear hok dx hx
    go_enter Tryz.func105, Tryz.ntmps105
    go_upto_region 1 with fail
    rw [← HW0.out]
    obtain ⟨c0, c1, c2, c3, c4, c5, -⟩ := row6 HR0.out
    clear HW0
    go_wp2_with fail
    refine HN.out.mono ?_
    rintro e V1 ⟨rfl, hv1⟩
    have hw1 : Below w0.heap.size w0 V1 := hv1
    have hx1 : Below w.heap.size w V1 := hb0.trans (hw1.mono hbs)
    obtain ⟨e0, e1, e2, e3, e4, e5, -⟩ := row6 ((hw1.block _ hlt0).trans HR0.out)
    clear c0 c1 c2 c3 c4 c5
    have p0 := e0
    have p1 := e1
    have p2 := e2
    have p3 := e3
    have p4 := e4
    have p5 := e5
    clear e0 e1 e2 e3 e4 e5
    go_wp2
    go_ret
    exact ⟨by rw [EL.out]; rfl, hx1⟩
 have q6 : (op == 6) = false := by rw [beq_eq_false_iff_ne]; exact h6
 have HO := Lib.hid (show ¬ (1 ≤ op ∧ op ≤ 6) by omega)
 have EL := Lib.hid (show okFt ⟨op, nm, x, y, bl, cl⟩ = false by rw [fok0 _ _ _ _ _ HO.out])
 go_enter Tryz.func105, Tryz.ntmps105
 go_upto_region 1 with fail
 rw [← HW0.out]
 obtain ⟨c0, c1, c2, c3, c4, c5, -⟩ := row6 HR0.out
 clear HW0
 go_wp2
 go_ret
 exact ⟨by rw [EL.out]; rfl, hb0⟩
end Go.Proofs.YtipicaoinnblpaaGreatDoor
namespace Go.Proofs.YtipicaoinnblpaaGreatDoor
open Go.RowKit

theorem join_two (a b sep : List UInt8) : Lib.join ([a] ++ [b]) sep = a ++ sep ++ b := by
  have e := join_next [a, b] sep 1 (by simp) (by simp)
  have e1 : [a, b].take 1 = [a] := rfl
  have e2 : [a, b].take (1 + 1) = [a, b] := rfl
  rw [e1, e2, Lib.join_one] at e
  exact e
set_option maxRecDepth 100000 in
set_option maxHeartbeats 4000000 in
theorem sets_ref (nm : ByteArray) (x y : Int) (bl cl : List ByteArray) (bA : Option Addr) (bc : Nat) (cA : Option Addr) (cc : Nat) (w : World) (S : Nat → Prop) (hsb : SeesIn w S 1 bA bl.length (bl.map Value.string)) (hsc : SeesIn w S 1 cA cl.length (cl.map Value.string)) (hS : ∀ g, S g → g < w.heap.size) (hok : okFt ⟨3, nm, x, y, bl, cl⟩ = true) (hlim : bl.length + cl.length ≤ 1000000000) :
    Calls Tryz.prog 110 #[.agg #[.int .i64 3, .string nm, .int .i64 x, .int .i64 y, .slice bA bl.length bc, .slice cA cl.length cc]] w fun e w' => e = .returned (.string (bs (ftText ⟨3, nm, x, y, bl, cl⟩))) ∧ Below w.heap.size w w' := by
  have hbA : ∀ o, Below w.heap.size w (w.alloc o) := fun o => (Below.refl _ _).alloc (Nat.le_refl _) o
  obtain ⟨hn, hob, hoc⟩ : 0 < bl.length + cl.length ∧ okNames bl = true ∧ okNames cl = true := by
    have h := hok
    have e : okFt ⟨3, nm, x, y, bl, cl⟩ = (decide (nm.size = 0) && !ftNumbered ⟨3, nm, x, y, bl, cl⟩ && decide (0 < bl.length + cl.length) && okNames bl && okNames cl) := rfl
    rw [e] at h
    simp only [Bool.and_eq_true, decide_eq_true_eq] at h
    exact ⟨h.1.1.2, h.1.2, h.2⟩
  have hnb := nameList_le hob
  have hnc := nameList_le hoc
  have htb := names_tot (List.all_eq_true.1 hob)
  have htc := names_tot (List.all_eq_true.1 hoc)
  obtain ⟨W0, hW0⟩ : ∃ W0 : World, W0 = w.alloc (.cells #[.int .i64 3, .string nm, .int .i64 x, .int .i64 y, .slice bA bl.length bc, .slice cA cl.length cc] 97) := ⟨_, rfl⟩
  have hb0 : Below w.heap.size w W0 := by rw [hW0]; exact hbA _
  have hr0 : W0.heap[w.heap.size]? = some (.cells #[.int .i64 3, .string nm, .int .i64 x, .int .i64 y, .slice bA bl.length bc, .slice cA cl.length cc] 97 (0, 0)) := by rw [hW0]; exact heap_alloc_new w _
  have hz0 := hb0.size
  have hlb := list_ref bl bA bc W0 S (hsb.keep (kept_of hb0 hS)) (fun g hg => by have := hS g hg; omega) (by omega)
  have hlc := list_ref cl cA cc W0 S (hsc.keep (kept_of hb0 hS)) (fun g hg => by have := hS g hg; omega) (by omega)
  obtain ⟨TB, hTB⟩ : ∃ T : ByteArray, T = bs (nameList bl) := ⟨_, rfl⟩
  have hTBs : TB.size ≤ 26000000000 := by rw [hTB, bs_size]; omega
  obtain ⟨TC, hTC⟩ : ∃ T : ByteArray, T = bs (nameList cl) := ⟨_, rfl⟩
  have hTCs : TC.size ≤ 26000000000 := by rw [hTC, bs_size]; omega
  rw [← hTB] at hlb
  rw [← hTC] at hlc
  have EB := Lib.hid (show ((⟨#[98, 121, 122, 32, 123, 32]⟩ : ByteArray) ++ TB ++ (⟨#[32, 125]⟩ : ByteArray)) = bs (braced [98, 121, 122] bl) from cat3 _ _ _ _ _ _ rfl hTB rfl)
  have EC := Lib.hid (show ((⟨#[99, 114, 97, 115, 104, 32, 123, 32]⟩ : ByteArray) ++ TC ++ (⟨#[32, 125]⟩ : ByteArray)) = bs (braced [99, 114, 97, 115, 104] cl) from cat3 _ _ _ _ _ _ rfl hTC rfl)
  have EC2 := Lib.hid (show ∀ (X : ByteArray) (l : List UInt8), X = bs l → (X ++ (⟨#[32]⟩ : ByteArray) ++ (⟨#[99, 114, 97, 115, 104, 32, 123, 32]⟩ : ByteArray) ++ TC ++ (⟨#[32, 125]⟩ : ByteArray)) = bs (l ++ [32] ++ braced [99, 114, 97, 115, 104] cl) from fun X l hX => by
    rw [hX, hTC, show (⟨#[32]⟩ : ByteArray) = bs [32] from rfl, show (⟨#[99, 114, 97, 115, 104, 32, 123, 32]⟩ : ByteArray) = bs [99, 114, 97, 115, 104, 32, 123, 32] from rfl, show (⟨#[32, 125]⟩ : ByteArray) = bs [32, 125] from rfl]
    simp only [bs_append, braced, List.append_assoc, List.cons_append, List.nil_append])
  have EF := Lib.hid (ft3 nm x y bl cl)
  have ES := Lib.hid (show setsText ⟨3, nm, x, y, bl, cl⟩ = (if bl.length = 0 then [] else [braced [98, 121, 122] bl]) ++ (if cl.length = 0 then [] else [braced [99, 114, 97, 115, 104] cl]) from rfl)
  have HLB := Lib.hid hlb
  have HLC := Lib.hid hlc
  have HR0 := Lib.hid hr0
  have HW0 := Lib.hid hW0
  clear hob hoc hnb hnc hTB hTC hsb hsc hok htb htc hlb hlc hr0 hW0 hbA
  by_cases zb : bl.length = 0
  · have hzb : ¬ (0 : Int) < (bl.length : Int) := by omega
    have hzc : (0 : Int) < (cl.length : Int) := by omega
    have HZB := Lib.hid zb
    have HN := Lib.hid hn
    clear zb hn
    go_enter Tryz.func110, Tryz.ntmps110
    go_upto_region 1 with fail
    rw [← HW0.out]
    obtain ⟨c0, c1, c2, c3, c4, c5, -⟩ := row6 HR0.out
    clear HW0
    go_wp2_with fail
    refine HLC.out.mono ?_
    rintro e w' ⟨rfl, rfl⟩
    go_wp2
    go_ret
    refine ⟨congrArg (fun b => Ending.returned (.string b)) ?_, hb0⟩
    rw [EF.out, ES.out, if_pos HZB.out, if_neg (by have := HN.out; have := HZB.out; omega), List.nil_append, Lib.join_one, ← EC.out]
    first | rfl | simp
  · have hzb : (0 : Int) < (bl.length : Int) := by omega
    have HZB := Lib.hid zb
    clear zb hn
    by_cases zc : cl.length = 0
    · have hzc : ¬ (0 : Int) < (cl.length : Int) := by omega
      have HZC := Lib.hid zc
      clear zc
      go_enter Tryz.func110, Tryz.ntmps110
      go_upto_region 1 with fail
      rw [← HW0.out]
      obtain ⟨c0, c1, c2, c3, c4, c5, -⟩ := row6 HR0.out
      clear HW0
      go_wp2_with fail
      refine HLB.out.mono ?_
      rintro e w' ⟨rfl, rfl⟩
      go_wp2
      go_ret
      refine ⟨congrArg (fun b => Ending.returned (.string b)) ?_, hb0⟩
      rw [EF.out, ES.out, if_neg HZB.out, if_pos HZC.out, List.append_nil, Lib.join_one, ← EB.out]
    · have hzc : (0 : Int) < (cl.length : Int) := by omega
      have HZC := Lib.hid zc
      clear zc
      obtain ⟨X, hX⟩ : ∃ X : ByteArray, X = (⟨#[98, 121, 122, 32, 123, 32]⟩ : ByteArray) ++ TB ++ (⟨#[32, 125]⟩ : ByteArray) := ⟨_, rfl⟩
      have hXs : X.size ≤ 27000000000 := by rw [hX, ByteArray.size_append, ByteArray.size_append]; show 6 + TB.size + 2 ≤ _; omega
      have hX0 : 0 < X.size := by rw [hX, ByteArray.size_append, ByteArray.size_append]; show 0 < 6 + TB.size + 2; omega
      have hXe := toList_isEmpty hX0
      have HX := Lib.hid hX
      go_enter Tryz.func110, Tryz.ntmps110
      go_upto_region 1 with fail
      rw [← HW0.out]
      obtain ⟨c0, c1, c2, c3, c4, c5, -⟩ := row6 HR0.out
      clear HW0 hX
      go_wp2_with fail
      refine HLB.out.mono ?_
      rintro e w' ⟨rfl, rfl⟩
      go_upto_region 15 with fail
      rw [← HX.out]
      go_wp2_with fail
      refine HLC.out.mono ?_
      rintro e w' ⟨rfl, rfl⟩
      go_wp2
      go_ret
      refine ⟨congrArg (fun b => Ending.returned (.string b)) ?_, hb0⟩
      rw [EF.out, ES.out, if_neg HZB.out, if_neg HZC.out]
      refine (EC2.out X _ (HX.out.trans EB.out)).trans ?_
      rw [join_two]

set_option maxRecDepth 100000 in
set_option maxHeartbeats 4000000 in
theorem faultText_ref (f : Ft) (v : Value) (w : World) (S : Nat → Prop) (hf : FtAt w S f v) (hS : ∀ g, S g → g < w.heap.size) (hok : okFt f = true) (hlim : f.byzNames.length + f.crashNames.length ≤ 1000000000) (hpw : Pow w) :
    Calls Tryz.prog 110 #[v] w fun e w' => e = .returned (.string (bs (ftText f))) ∧ Below w.heap.size w w' := by
  have hlen := ft_length hok
  obtain ⟨op, nm, x, y, bl, cl⟩ := f
  obtain ⟨bA, bc, cA, cc, rfl, hsb, hlb, hsc, hlc⟩ := hf
  simp only at hsb hlb hsc hlc hlim hlen
  have hbA : ∀ o, Below w.heap.size w (w.alloc o) := fun o => (Below.refl _ _).alloc (Nat.le_refl _) o
  have HB := Lib.hid hsb
  have HC := Lib.hid hsc
  have HP := Lib.hid hpw
  have HOK := Lib.hid hok
  have HLN := Lib.hid hlen
  have hnm : nm.size ≤ 24 := by
    by_cases h : op = 4 ∨ op = 5 ∨ op = 6
    · have e : okFt ⟨op, nm, x, y, bl, cl⟩ = (okName nm && !ftNumbered ⟨op, nm, x, y, bl, cl⟩ && !ftNamed ⟨op, nm, x, y, bl, cl⟩) := by
        unfold okFt
        simp only
        rw [if_neg (by omega), if_neg (by omega), if_neg (by omega), if_pos h]
      rw [e] at hok
      simp only [Bool.and_eq_true] at hok
      exact (okName_size hok.1.1).1
    · by_cases h0 : nm.size = 0
      · omega
      · have e : okFt ⟨op, nm, x, y, bl, cl⟩ = false := by
          unfold okFt
          simp only
          rw [if_neg h]
          simp [h0]
        rw [e] at hok
        cases hok
  clear hsb hsc hpw hok hlen
  by_cases h1 : op = 1
  · subst h1
    go_enter Tryz.func110, Tryz.ntmps110
    go_wp2
    go_ret
    exact ⟨rfl, hbA _⟩
  have q1 : (op == 1) = false := by rw [beq_eq_false_iff_ne]; exact h1
  by_cases h2 : op = 2
  · subst h2
    obtain ⟨hx, hy⟩ : small x = true ∧ small y = true := by
      have h := HOK.out
      have e : okFt ⟨2, nm, x, y, bl, cl⟩ = (decide (nm.size = 0) && small x && small y && !ftNamed ⟨2, nm, x, y, bl, cl⟩) := rfl
      rw [e] at h
      simp only [Bool.and_eq_true] at h
      exact ⟨h.1.1.2, h.1.2⟩
    obtain ⟨I, hI⟩ : ∃ I : ByteArray, I = bs (Lib.itoa x) := ⟨_, rfl⟩
    have hIs : I.size ≤ 21 := by rw [hI, bs_size]; exact itoa_small hx
    obtain ⟨J, hJ⟩ : ∃ J : ByteArray, J = bs (Lib.itoa y) := ⟨_, rfl⟩
    have hJs : J.size ≤ 21 := by rw [hJ, bs_size]; exact itoa_small hy
    have HIE := Lib.hid hI
    have HJE := Lib.hid hJ
    have HX := Lib.hid (fun (W : World) (hb : Below w.heap.size w W) => show Calls Tryz.prog 89 #[.int .i64 x] W (fun e w' => e = .returned (.string I) ∧ Below W.heap.size W w') by rw [hI]; exact itoa_any x hx W (HP.out.below hb))
    have HY := Lib.hid (fun (W : World) (hb : Below w.heap.size w W) => show Calls Tryz.prog 89 #[.int .i64 y] W (fun e w' => e = .returned (.string J) ∧ Below W.heap.size W w') by rw [hJ]; exact itoa_any y hy W (HP.out.below hb))
    clear hI hJ hx hy
    go_enter Tryz.func110, Tryz.ntmps110
    go_wp2
    obtain ⟨W0, hW0⟩ : ∃ W0 : World, W0 = w.alloc (.cells #[.int .i64 2, .string nm, .int .i64 x, .int .i64 y, .slice bA bl.length bc, .slice cA cl.length cc] 97) := ⟨_, rfl⟩
    have hb0 : Below w.heap.size w W0 := by rw [hW0]; exact hbA _
    have hs0 : w.heap.size < W0.heap.size := by rw [hW0]; simp
    have hr0 : W0.heap[w.heap.size]? = some (.cells #[.int .i64 2, .string nm, .int .i64 x, .int .i64 y, .slice bA bl.length bc, .slice cA cl.length cc] 97 (0, 0)) := by rw [hW0]; exact heap_alloc_new w _
    rw [← hW0]
    have c2 : W0.cell? ⟨w.heap.size, 2, none⟩ = some (.int .i64 x) := cell_row hr0 2 _ rfl
    have c3 : W0.cell? ⟨w.heap.size, 3, none⟩ = some (.int .i64 y) := cell_row hr0 3 _ rfl
    clear hW0 hr0
    have hA1 := fun W => run_string_add_sum (P := Tryz.prog) W (⟨#[116, 104, 114, 101, 115, 104, 111, 108, 100, 32]⟩ : ByteArray) I (by show 10 + I.size ≤ _; omega)
    have hA2 := fun W => run_string_add_sum (P := Tryz.prog) W ((⟨#[116, 104, 114, 101, 115, 104, 111, 108, 100, 32]⟩ : ByteArray) ++ I) (⟨#[32]⟩ : ByteArray) (by rw [ByteArray.size_append]; show 10 + I.size + 1 ≤ _; omega)
    have hA3 := fun W => run_string_add_sum (P := Tryz.prog) W ((⟨#[116, 104, 114, 101, 115, 104, 111, 108, 100, 32]⟩ : ByteArray) ++ I ++ (⟨#[32]⟩ : ByteArray)) J (by rw [ByteArray.size_append, ByteArray.size_append]; show 10 + I.size + 1 + J.size ≤ _; omega)
    go_region_held3 (fun w' => w'.cell? ⟨w.heap.size, 2, none⟩ = some (.int .i64 x) ∧ w'.cell? ⟨w.heap.size, 3, none⟩ = some (.int .i64 y)) (first | go_keep | (refine ⟨?_, ?_⟩ <;> (rw [hb2.cell (by simp; omega)]; go_keep)) | (refine ⟨?_, ?_⟩ <;> (rw [hb3.cell (by have := hb2.size; simp at this ⊢; omega), hb2.cell (by simp; omega)]; go_keep)))
      (first | (go_at_call 89; (refine (HX.out _ (below_drewN hb0 _)).mono ?_; rintro e w2 ⟨rfl, hb2⟩)) | (go_at_call 89; (refine (HY.out _ ((below_drewN hb0 _).trans (hb2.mono (by simp; omega)))).mono ?_; rintro e w3 ⟨rfl, hb3⟩)))
    all_goals (
      go_wp2
      go_ret
      refine ⟨congrArg (fun b => Ending.returned (.string b)) ?_, ((below_drewN hb0 _).trans (hb2.mono (by simp; omega))).trans (hb3.mono (by have := hb2.size; simp at this; omega))⟩
      rw [ft2]
      exact cat2 _ _ _ _ (cat3 _ _ _ _ _ _ rfl HIE.out rfl) HJE.out)
  have q2 : (op == 2) = false := by rw [beq_eq_false_iff_ne]; exact h2
  by_cases h4 : op = 4
  · subst h4
    go_enter Tryz.func110, Tryz.ntmps110
    go_wp2
    go_ret
    refine ⟨congrArg (fun b => Ending.returned (.string b)) ?_, hbA _⟩
    exact cat3 _ _ _ _ _ _ rfl (bs_of nm).symm rfl
  have q4 : (op == 4) = false := by rw [beq_eq_false_iff_ne]; exact h4
  by_cases h5 : op = 5
  · subst h5
    go_enter Tryz.func110, Tryz.ntmps110
    go_wp2
    go_ret
    refine ⟨congrArg (fun b => Ending.returned (.string b)) ?_, hbA _⟩
    exact cat3 _ _ _ _ _ _ rfl (bs_of nm).symm rfl
  have q5 : (op == 5) = false := by rw [beq_eq_false_iff_ne]; exact h5
  by_cases h3 : op = 3
  · subst h3
    exact sets_ref nm x y bl cl bA bc cA cc w S HB.out HC.out hS HOK.out hlim
  have q3 : (op == 3) = false := by rw [beq_eq_false_iff_ne]; exact h3
  by_cases h6 : op = 6
  · subst h6
    go_enter Tryz.func110, Tryz.ntmps110
    go_wp2
    go_ret
    refine ⟨congrArg (fun b => Ending.returned (.string b)) ?_, hbA _⟩
    exact (bs_of nm).symm
  have q6 : (op == 6) = false := by rw [beq_eq_false_iff_ne]; exact h6
  have := HOK.out
  simp [okFt, h1, h2, h3, h4, h5, h6] at this
end Go.Proofs.YtipicaoinnblpaaGreatDoor
namespace Go.Proofs.YtipicaoinnblpaaGreatDoor
open Go.RowKit

set_option maxRecDepth 100000 in
set_option maxHeartbeats 4000000 in
theorem declTextR_1 (line : Int) (name : ByteArray) (names : List ByteArray) (faults : List Ft) (term : Tm) (proto : ByteArray) (read write : Tm) (use : ByteArray) (nA : Option Addr) (nc : Nat) (fA : Option Addr) (fc : Nat) (o1 : Int) (m1 : ByteArray) (d1 : Int) (wA1 : Option Addr) (wn1 wc1 : Nat) (kA1 : Option Addr) (kn1 kc1 : Nat) (o2 : Int) (m2 : ByteArray) (d2 : Int) (wA2 : Option Addr) (wn2 wc2 : Nat) (kA2 : Option Addr) (kn2 kc2 : Nat) (o3 : Int) (m3 : ByteArray) (d3 : Int) (wA3 : Option Addr) (wn3 wc3 : Nat) (kA3 : Option Addr) (kn3 kc3 : Nat) (w : World) (S : Nat → Prop) (hS : ∀ g, S g → g < w.heap.size)
    (hnm : name.size ≤ 24) (hs : SeesIn w S 1 nA names.length (names.map Value.string)) (hon : okNames names = true) (hlim : names.length ≤ 1000000000) :
    Calls Tryz.prog 57 #[.agg #[.int .i64 1, .int .i64 line, .string name, .slice nA names.length nc, .slice fA faults.length fc, .int .i64 o1, .string m1, .int .i64 d1, .slice wA1 wn1 wc1, .slice kA1 kn1 kc1, .string proto, .int .i64 o2, .string m2, .int .i64 d2, .slice wA2 wn2 wc2, .slice kA2 kn2 kc2, .int .i64 o3, .string m3, .int .i64 d3, .slice wA3 wn3 wc3, .slice kA3 kn3 kc3, .string use]] w fun e w' => e = .returned (.string (bs (dcText ⟨1, line, name, names, faults, term, proto, read, write, use⟩))) ∧ Below w.heap.size w w' := by
  have hbA : ∀ o, Below w.heap.size w (w.alloc o) := fun o => (Below.refl _ _).alloc (Nat.le_refl _) o
  have hnb := nameList_le hon
  have htn := names_tot (List.all_eq_true.1 hon)
  obtain ⟨TN, hTN⟩ : ∃ T : ByteArray, T = bs (nameList names) := ⟨_, rfl⟩
  have hTNs : TN.size ≤ 26000000000 := by rw [hTN, bs_size]; omega
  have HN := Lib.hid hs
  have HL := Lib.hid (fun (W : World) (hb : Below w.heap.size w W) => show Calls Tryz.prog 109 #[.slice nA names.length nc] W (fun e w' => e = .returned (.string TN) ∧ Below W.heap.size W w') by rw [hTN]; exact (list_ref names nA nc W S (HN.out.keep (kept_of hb hS)) (fun g hg => by have := hS g hg; have := hb.size; omega) (by omega)).mono fun e w' h => ⟨h.1, by rw [← h.2]; exact Below.refl _ _⟩)
  have HTN := Lib.hid hTN
  clear hs hon hnb htn hTN
  go_enter Tryz.func57, Tryz.ntmps57
  go_upto_region 3 with fail
  obtain ⟨W0, hW0⟩ : ∃ W0 : World, W0 = w.alloc (.cells #[.int .i64 1, .int .i64 line, .string name, .slice nA names.length nc, .slice fA faults.length fc, .int .i64 o1, .string m1, .int .i64 d1, .slice wA1 wn1 wc1, .slice kA1 kn1 kc1, .string proto, .int .i64 o2, .string m2, .int .i64 d2, .slice wA2 wn2 wc2, .slice kA2 kn2 kc2, .int .i64 o3, .string m3, .int .i64 d3, .slice wA3 wn3 wc3, .slice kA3 kn3 kc3, .string use] 54) := ⟨_, rfl⟩
  have hb0 : Below w.heap.size w W0 := by rw [hW0]; exact hbA _
  have hs0 : w.heap.size < W0.heap.size := by rw [hW0]; simp
  have hr0 : W0.heap[w.heap.size]? = some (.cells #[.int .i64 1, .int .i64 line, .string name, .slice nA names.length nc, .slice fA faults.length fc, .int .i64 o1, .string m1, .int .i64 d1, .slice wA1 wn1 wc1, .slice kA1 kn1 kc1, .string proto, .int .i64 o2, .string m2, .int .i64 d2, .slice wA2 wn2 wc2, .slice kA2 kn2 kc2, .int .i64 o3, .string m3, .int .i64 d3, .slice wA3 wn3 wc3, .slice kA3 kn3 kc3, .string use] 54 (0, 0)) := by rw [hW0]; exact heap_alloc_new w _
  rw [← hW0]
  have HR0 := Lib.hid hr0
  clear hW0 hr0
  have ks2 : ¬ (9223372036854775807 < 5 + name.size) := by omega
  have ks3 : ¬ (9223372036854775807 < 5 + name.size + 3) := by omega
  have ks4 : ¬ (9223372036854775807 < 5 + name.size + 3 + TN.size) := by omega
  have ks5 : ¬ (9223372036854775807 < 5 + name.size + 3 + TN.size + 3) := by omega
  have c2 := cell_row HR0.out 2 _ rfl
  have c3 := cell_row HR0.out 3 _ rfl
  go_region_held3 (fun w' => w'.cell? ⟨w.heap.size, 2, none⟩ = some (.string name) ∧ w'.cell? ⟨w.heap.size, 3, none⟩ = some (.slice nA names.length nc)) (first | go_keep | (refine ⟨?_, ?_⟩ <;> (rw [hb2.cell (by simp; omega)]; go_keep)))
    (first | (go_at_call 109; (refine (HL.out _ (below_drewN hb0 _)).mono ?_; rintro e w2 ⟨rfl, hb2⟩)))
  all_goals (
    go_wp2
    go_ret
    refine ⟨congrArg (fun b => Ending.returned (.string b)) ?_, (below_drewN hb0 _).trans (hb2.mono (by simp; omega))⟩
    exact cat5 _ _ _ _ _ _ _ _ _ _ rfl (bs_of name).symm rfl HTN.out rfl)


set_option maxRecDepth 100000 in
set_option maxHeartbeats 4000000 in
theorem declTextR_5 (line : Int) (name : ByteArray) (names : List ByteArray) (faults : List Ft) (term : Tm) (proto : ByteArray) (read write : Tm) (use : ByteArray) (nA : Option Addr) (nc : Nat) (fA : Option Addr) (fc : Nat) (o1 : Int) (m1 : ByteArray) (d1 : Int) (wA1 : Option Addr) (wn1 wc1 : Nat) (kA1 : Option Addr) (kn1 kc1 : Nat) (o2 : Int) (m2 : ByteArray) (d2 : Int) (wA2 : Option Addr) (wn2 wc2 : Nat) (kA2 : Option Addr) (kn2 kc2 : Nat) (o3 : Int) (m3 : ByteArray) (d3 : Int) (wA3 : Option Addr) (wn3 wc3 : Nat) (kA3 : Option Addr) (kn3 kc3 : Nat) (w : World) (S : Nat → Prop) (hS : ∀ g, S g → g < w.heap.size)
    (hs : SeesIn w S 1 nA names.length (names.map Value.string)) (hon : okNames names = true) (hlim : names.length ≤ 1000000000) :
    Calls Tryz.prog 57 #[.agg #[.int .i64 5, .int .i64 line, .string name, .slice nA names.length nc, .slice fA faults.length fc, .int .i64 o1, .string m1, .int .i64 d1, .slice wA1 wn1 wc1, .slice kA1 kn1 kc1, .string proto, .int .i64 o2, .string m2, .int .i64 d2, .slice wA2 wn2 wc2, .slice kA2 kn2 kc2, .int .i64 o3, .string m3, .int .i64 d3, .slice wA3 wn3 wc3, .slice kA3 kn3 kc3, .string use]] w fun e w' => e = .returned (.string (bs (dcText ⟨5, line, name, names, faults, term, proto, read, write, use⟩))) ∧ Below w.heap.size w w' := by
  have hbA : ∀ o, Below w.heap.size w (w.alloc o) := fun o => (Below.refl _ _).alloc (Nat.le_refl _) o
  have hnb := nameList_le hon
  have htn := names_tot (List.all_eq_true.1 hon)
  obtain ⟨TN, hTN⟩ : ∃ T : ByteArray, T = bs (nameList names) := ⟨_, rfl⟩
  have hTNs : TN.size ≤ 26000000000 := by rw [hTN, bs_size]; omega
  have HN := Lib.hid hs
  have HL := Lib.hid (fun (W : World) (hb : Below w.heap.size w W) => show Calls Tryz.prog 109 #[.slice nA names.length nc] W (fun e w' => e = .returned (.string TN) ∧ Below W.heap.size W w') by rw [hTN]; exact (list_ref names nA nc W S (HN.out.keep (kept_of hb hS)) (fun g hg => by have := hS g hg; have := hb.size; omega) (by omega)).mono fun e w' h => ⟨h.1, by rw [← h.2]; exact Below.refl _ _⟩)
  have HTN := Lib.hid hTN
  clear hs hon hnb htn hTN
  go_enter Tryz.func57, Tryz.ntmps57
  go_wp2_with fail
  refine (HL.out _ (hbA _)).mono ?_
  rintro e w2 ⟨rfl, hb2⟩
  go_wp2
  go_ret
  refine ⟨congrArg (fun b => Ending.returned (.string b)) ?_, (hbA _).trans (hb2.mono (by simp))⟩
  exact cat3 _ _ _ _ _ _ rfl HTN.out rfl


set_option maxRecDepth 100000 in
set_option maxHeartbeats 4000000 in
theorem declTextR_7 (line : Int) (name : ByteArray) (names : List ByteArray) (faults : List Ft) (term : Tm) (proto : ByteArray) (read write : Tm) (use : ByteArray) (nA : Option Addr) (nc : Nat) (fA : Option Addr) (fc : Nat) (o1 : Int) (m1 : ByteArray) (d1 : Int) (wA1 : Option Addr) (wn1 wc1 : Nat) (kA1 : Option Addr) (kn1 kc1 : Nat) (o2 : Int) (m2 : ByteArray) (d2 : Int) (wA2 : Option Addr) (wn2 wc2 : Nat) (kA2 : Option Addr) (kn2 kc2 : Nat) (o3 : Int) (m3 : ByteArray) (d3 : Int) (wA3 : Option Addr) (wn3 wc3 : Nat) (kA3 : Option Addr) (kn3 kc3 : Nat) (w : World) (S : Nat → Prop) (hS : ∀ g, S g → g < w.heap.size)
    (hs : SeesIn w S 1 nA names.length (names.map Value.string)) (hon : okNames names = true) (hlim : names.length ≤ 1000000000) :
    Calls Tryz.prog 57 #[.agg #[.int .i64 7, .int .i64 line, .string name, .slice nA names.length nc, .slice fA faults.length fc, .int .i64 o1, .string m1, .int .i64 d1, .slice wA1 wn1 wc1, .slice kA1 kn1 kc1, .string proto, .int .i64 o2, .string m2, .int .i64 d2, .slice wA2 wn2 wc2, .slice kA2 kn2 kc2, .int .i64 o3, .string m3, .int .i64 d3, .slice wA3 wn3 wc3, .slice kA3 kn3 kc3, .string use]] w fun e w' => e = .returned (.string (bs (dcText ⟨7, line, name, names, faults, term, proto, read, write, use⟩))) ∧ Below w.heap.size w w' := by
  have hbA : ∀ o, Below w.heap.size w (w.alloc o) := fun o => (Below.refl _ _).alloc (Nat.le_refl _) o
  have hnb := nameList_le hon
  have htn := names_tot (List.all_eq_true.1 hon)
  obtain ⟨TN, hTN⟩ : ∃ T : ByteArray, T = bs (nameList names) := ⟨_, rfl⟩
  have hTNs : TN.size ≤ 26000000000 := by rw [hTN, bs_size]; omega
  have HN := Lib.hid hs
  have HL := Lib.hid (fun (W : World) (hb : Below w.heap.size w W) => show Calls Tryz.prog 109 #[.slice nA names.length nc] W (fun e w' => e = .returned (.string TN) ∧ Below W.heap.size W w') by rw [hTN]; exact (list_ref names nA nc W S (HN.out.keep (kept_of hb hS)) (fun g hg => by have := hS g hg; have := hb.size; omega) (by omega)).mono fun e w' h => ⟨h.1, by rw [← h.2]; exact Below.refl _ _⟩)
  have HTN := Lib.hid hTN
  clear hs hon hnb htn hTN
  go_enter Tryz.func57, Tryz.ntmps57
  go_wp2_with fail
  refine (HL.out _ (hbA _)).mono ?_
  rintro e w2 ⟨rfl, hb2⟩
  go_wp2
  go_ret
  refine ⟨congrArg (fun b => Ending.returned (.string b)) ?_, (hbA _).trans (hb2.mono (by simp))⟩
  exact cat3 _ _ _ _ _ _ rfl HTN.out rfl


set_option maxRecDepth 100000 in
set_option maxHeartbeats 4000000 in
theorem declTextR_3 (line : Int) (name : ByteArray) (names : List ByteArray) (faults : List Ft) (term : Tm) (proto : ByteArray) (read write : Tm) (use : ByteArray) (nA : Option Addr) (nc : Nat) (fA : Option Addr) (fc : Nat) (o1 : Int) (m1 : ByteArray) (d1 : Int) (wA1 : Option Addr) (wn1 wc1 : Nat) (kA1 : Option Addr) (kn1 kc1 : Nat) (o2 : Int) (m2 : ByteArray) (d2 : Int) (wA2 : Option Addr) (wn2 wc2 : Nat) (kA2 : Option Addr) (kn2 kc2 : Nat) (o3 : Int) (m3 : ByteArray) (d3 : Int) (wA3 : Option Addr) (wn3 wc3 : Nat) (kA3 : Option Addr) (kn3 kc3 : Nat) (w : World) (S : Nat → Prop) (hS : ∀ g, S g → g < w.heap.size)
    (hnm : name.size ≤ 24) (hv1 : TmAt w S term (.agg #[.int .i64 o1, .string m1, .int .i64 d1, .slice wA1 wn1 wc1, .slice kA1 kn1 kc1])) (hok1 : okTm term = true) (hlim1 : tmSize term ≤ 1000000000) (hpw : Pow w) :
    Calls Tryz.prog 57 #[.agg #[.int .i64 3, .int .i64 line, .string name, .slice nA names.length nc, .slice fA faults.length fc, .int .i64 o1, .string m1, .int .i64 d1, .slice wA1 wn1 wc1, .slice kA1 kn1 kc1, .string proto, .int .i64 o2, .string m2, .int .i64 d2, .slice wA2 wn2 wc2, .slice kA2 kn2 kc2, .int .i64 o3, .string m3, .int .i64 d3, .slice wA3 wn3 wc3, .slice kA3 kn3 kc3, .string use]] w fun e w' => e = .returned (.string (bs (dcText ⟨3, line, name, names, faults, term, proto, read, write, use⟩))) ∧ Below w.heap.size w w' := by
  have hbA : ∀ o, Below w.heap.size w (w.alloc o) := fun o => (Below.refl _ _).alloc (Nat.le_refl _) o
  have htl1 := tmText_le hok1
  obtain ⟨T1, hT1⟩ : ∃ T : ByteArray, T = bs (tmText term) := ⟨_, rfl⟩
  have hTs1 : T1.size ≤ 48000000000 := by rw [hT1, bs_size]; omega
  have HV1 := Lib.hid hv1
  have HT1 := Lib.hid (fun (W : World) (hb : Below w.heap.size w W) => show Calls Tryz.prog 49 #[.agg #[.int .i64 o1, .string m1, .int .i64 d1, .slice wA1 wn1 wc1, .slice kA1 kn1 kc1]] W (fun e w' => e = .returned (.string T1) ∧ Below W.heap.size W w') by rw [hT1]; exact termText_ref term _ W S (HV1.out.keep (kept_of hb hS)) (fun g hg => by have := hS g hg; have := hb.size; omega) hok1 hlim1 (hpw.below hb))
  have HE1 := Lib.hid hT1
  clear hv1 htl1 hT1
  go_enter Tryz.func57, Tryz.ntmps57
  go_upto_region 14 with fail
  obtain ⟨W0, hW0⟩ : ∃ W0 : World, W0 = w.alloc (.cells #[.int .i64 3, .int .i64 line, .string name, .slice nA names.length nc, .slice fA faults.length fc, .int .i64 o1, .string m1, .int .i64 d1, .slice wA1 wn1 wc1, .slice kA1 kn1 kc1, .string proto, .int .i64 o2, .string m2, .int .i64 d2, .slice wA2 wn2 wc2, .slice kA2 kn2 kc2, .int .i64 o3, .string m3, .int .i64 d3, .slice wA3 wn3 wc3, .slice kA3 kn3 kc3, .string use] 54) := ⟨_, rfl⟩
  have hb0 : Below w.heap.size w W0 := by rw [hW0]; exact hbA _
  have hs0 : w.heap.size < W0.heap.size := by rw [hW0]; simp
  have hr0 : W0.heap[w.heap.size]? = some (.cells #[.int .i64 3, .int .i64 line, .string name, .slice nA names.length nc, .slice fA faults.length fc, .int .i64 o1, .string m1, .int .i64 d1, .slice wA1 wn1 wc1, .slice kA1 kn1 kc1, .string proto, .int .i64 o2, .string m2, .int .i64 d2, .slice wA2 wn2 wc2, .slice kA2 kn2 kc2, .int .i64 o3, .string m3, .int .i64 d3, .slice wA3 wn3 wc3, .slice kA3 kn3 kc3, .string use] 54 (0, 0)) := by rw [hW0]; exact heap_alloc_new w _
  rw [← hW0]
  have HR0 := Lib.hid hr0
  clear hW0 hr0
  have ks2 : ¬ (9223372036854775807 < 7 + name.size) := by omega
  have ks3 : ¬ (9223372036854775807 < 7 + name.size + 3) := by omega
  have ks4 : ¬ (9223372036854775807 < 7 + name.size + 3 + T1.size) := by omega
  have ks5 : ¬ (9223372036854775807 < 7 + name.size + 3 + T1.size + 1) := by omega
  have c2 := cell_row HR0.out 2 _ rfl
  have c5 := cell_row HR0.out 5 _ rfl
  have c6 := cell_row HR0.out 6 _ rfl
  have c7 := cell_row HR0.out 7 _ rfl
  have c8 := cell_row HR0.out 8 _ rfl
  have c9 := cell_row HR0.out 9 _ rfl
  go_region_held3 (fun w' => w'.cell? ⟨w.heap.size, 2, none⟩ = some (.string name) ∧ w'.cell? ⟨w.heap.size, 5, none⟩ = some (.int .i64 o1) ∧ w'.cell? ⟨w.heap.size, 6, none⟩ = some (.string m1) ∧ w'.cell? ⟨w.heap.size, 7, none⟩ = some (.int .i64 d1) ∧ w'.cell? ⟨w.heap.size, 8, none⟩ = some (.slice wA1 wn1 wc1) ∧ w'.cell? ⟨w.heap.size, 9, none⟩ = some (.slice kA1 kn1 kc1)) (first | go_keep | (refine ⟨?_, ?_, ?_, ?_, ?_, ?_⟩ <;> (rw [hb2.cell (by simp; omega)]; go_keep)))
    (first | (go_at_call 49; (refine (HT1.out _ (below_drewN hb0 _)).mono ?_; rintro e w2 ⟨rfl, hb2⟩)))
  all_goals (
    go_wp2
    go_ret
    refine ⟨congrArg (fun b => Ending.returned (.string b)) ?_, (below_drewN hb0 _).trans (hb2.mono (by simp; omega))⟩
    exact cat5 _ _ _ _ _ _ _ _ _ _ rfl (bs_of name).symm rfl HE1.out rfl)


set_option maxRecDepth 100000 in
set_option maxHeartbeats 4000000 in
theorem declTextR_6 (line : Int) (name : ByteArray) (names : List ByteArray) (faults : List Ft) (term : Tm) (proto : ByteArray) (read write : Tm) (use : ByteArray) (nA : Option Addr) (nc : Nat) (fA : Option Addr) (fc : Nat) (o1 : Int) (m1 : ByteArray) (d1 : Int) (wA1 : Option Addr) (wn1 wc1 : Nat) (kA1 : Option Addr) (kn1 kc1 : Nat) (o2 : Int) (m2 : ByteArray) (d2 : Int) (wA2 : Option Addr) (wn2 wc2 : Nat) (kA2 : Option Addr) (kn2 kc2 : Nat) (o3 : Int) (m3 : ByteArray) (d3 : Int) (wA3 : Option Addr) (wn3 wc3 : Nat) (kA3 : Option Addr) (kn3 kc3 : Nat) (w : World) (S : Nat → Prop) (_hS : ∀ g, S g → g < w.heap.size)
    (hnm : name.size ≤ 24) (hus : use.size ≤ 24) :
    Calls Tryz.prog 57 #[.agg #[.int .i64 6, .int .i64 line, .string name, .slice nA names.length nc, .slice fA faults.length fc, .int .i64 o1, .string m1, .int .i64 d1, .slice wA1 wn1 wc1, .slice kA1 kn1 kc1, .string proto, .int .i64 o2, .string m2, .int .i64 d2, .slice wA2 wn2 wc2, .slice kA2 kn2 kc2, .int .i64 o3, .string m3, .int .i64 d3, .slice wA3 wn3 wc3, .slice kA3 kn3 kc3, .string use]] w fun e w' => e = .returned (.string (bs (dcText ⟨6, line, name, names, faults, term, proto, read, write, use⟩))) ∧ Below w.heap.size w w' := by
  have hbA : ∀ o, Below w.heap.size w (w.alloc o) := fun o => (Below.refl _ _).alloc (Nat.le_refl _) o
  by_cases zu : use.size = 0
  · obtain rfl := size_zero zu
    clear zu hus
    go_enter Tryz.func57, Tryz.ntmps57
    go_wp2
    go_ret
    refine ⟨congrArg (fun b => Ending.returned (.string b)) ?_, hbA _⟩
    exact cat3 _ _ _ _ _ _ rfl (bs_of name).symm rfl
  · have hpu : 0 < use.size := by omega
    have hnu2 := toList_ne hpu
    have hnu := toList_isEmpty hpu
    have E := Lib.hid (show dcText ⟨6, line, name, names, faults, term, proto, read, write, use⟩ = [99, 108, 105, 101, 110, 116, 32] ++ name.data.toList ++ [32, 102, 97, 117, 108, 116, 115, 32] ++ use.data.toList ++ [59] by
      exact if_neg zu)
    clear zu
    go_enter Tryz.func57, Tryz.ntmps57
    go_wp2
    go_ret
    refine ⟨congrArg (fun b => Ending.returned (.string b)) ?_, hbA _⟩
    rw [E.out]
    exact cat5 _ _ _ _ _ _ _ _ _ _ rfl (bs_of name).symm rfl (bs_of use).symm rfl


set_option maxRecDepth 100000 in
set_option maxHeartbeats 4000000 in
theorem declTextR_4 (line : Int) (name : ByteArray) (names : List ByteArray) (faults : List Ft) (term : Tm) (proto : ByteArray) (read write : Tm) (use : ByteArray) (nA : Option Addr) (nc : Nat) (fA : Option Addr) (fc : Nat) (o1 : Int) (m1 : ByteArray) (d1 : Int) (wA1 : Option Addr) (wn1 wc1 : Nat) (kA1 : Option Addr) (kn1 kc1 : Nat) (o2 : Int) (m2 : ByteArray) (d2 : Int) (wA2 : Option Addr) (wn2 wc2 : Nat) (kA2 : Option Addr) (kn2 kc2 : Nat) (o3 : Int) (m3 : ByteArray) (d3 : Int) (wA3 : Option Addr) (wn3 wc3 : Nat) (kA3 : Option Addr) (kn3 kc3 : Nat) (w : World) (S : Nat → Prop) (hS : ∀ g, S g → g < w.heap.size)
    (hnm : name.size ≤ 24) (hpr : proto.size ≤ 24) (hus : use.size ≤ 24) (hv2 : TmAt w S read (.agg #[.int .i64 o2, .string m2, .int .i64 d2, .slice wA2 wn2 wc2, .slice kA2 kn2 kc2])) (hok2 : okTm read = true) (hlim2 : tmSize read ≤ 1000000000) (hv3 : TmAt w S write (.agg #[.int .i64 o3, .string m3, .int .i64 d3, .slice wA3 wn3 wc3, .slice kA3 kn3 kc3])) (hok3 : okTm write = true) (hlim3 : tmSize write ≤ 1000000000) (hpw : Pow w) :
    Calls Tryz.prog 57 #[.agg #[.int .i64 4, .int .i64 line, .string name, .slice nA names.length nc, .slice fA faults.length fc, .int .i64 o1, .string m1, .int .i64 d1, .slice wA1 wn1 wc1, .slice kA1 kn1 kc1, .string proto, .int .i64 o2, .string m2, .int .i64 d2, .slice wA2 wn2 wc2, .slice kA2 kn2 kc2, .int .i64 o3, .string m3, .int .i64 d3, .slice wA3 wn3 wc3, .slice kA3 kn3 kc3, .string use]] w fun e w' => e = .returned (.string (bs (dcText ⟨4, line, name, names, faults, term, proto, read, write, use⟩))) ∧ Below w.heap.size w w' := by
  have hbA : ∀ o, Below w.heap.size w (w.alloc o) := fun o => (Below.refl _ _).alloc (Nat.le_refl _) o
  have htl2 := tmText_le hok2
  obtain ⟨T2, hT2⟩ : ∃ T : ByteArray, T = bs (tmText read) := ⟨_, rfl⟩
  have hTs2 : T2.size ≤ 48000000000 := by rw [hT2, bs_size]; omega
  have HV2 := Lib.hid hv2
  have HT2 := Lib.hid (fun (W : World) (hb : Below w.heap.size w W) => show Calls Tryz.prog 49 #[.agg #[.int .i64 o2, .string m2, .int .i64 d2, .slice wA2 wn2 wc2, .slice kA2 kn2 kc2]] W (fun e w' => e = .returned (.string T2) ∧ Below W.heap.size W w') by rw [hT2]; exact termText_ref read _ W S (HV2.out.keep (kept_of hb hS)) (fun g hg => by have := hS g hg; have := hb.size; omega) hok2 hlim2 (hpw.below hb))
  have HE2 := Lib.hid hT2
  clear hv2 htl2 hT2
  have htl3 := tmText_le hok3
  obtain ⟨T3, hT3⟩ : ∃ T : ByteArray, T = bs (tmText write) := ⟨_, rfl⟩
  have hTs3 : T3.size ≤ 48000000000 := by rw [hT3, bs_size]; omega
  have HV3 := Lib.hid hv3
  have HT3 := Lib.hid (fun (W : World) (hb : Below w.heap.size w W) => show Calls Tryz.prog 49 #[.agg #[.int .i64 o3, .string m3, .int .i64 d3, .slice wA3 wn3 wc3, .slice kA3 kn3 kc3]] W (fun e w' => e = .returned (.string T3) ∧ Below W.heap.size W w') by rw [hT3]; exact termText_ref write _ W S (HV3.out.keep (kept_of hb hS)) (fun g hg => by have := hS g hg; have := hb.size; omega) hok3 hlim3 (hpw.below hb))
  have HE3 := Lib.hid hT3
  clear hv3 htl3 hT3
  have E := Lib.hid (text_cfg line name names faults term proto read write use T2 T3 HE2.out HE3.out)
  go_enter Tryz.func57, Tryz.ntmps57
  go_upto_region 16 with fail
  obtain ⟨W0, hW0⟩ : ∃ W0 : World, W0 = w.alloc (.cells #[.int .i64 4, .int .i64 line, .string name, .slice nA names.length nc, .slice fA faults.length fc, .int .i64 o1, .string m1, .int .i64 d1, .slice wA1 wn1 wc1, .slice kA1 kn1 kc1, .string proto, .int .i64 o2, .string m2, .int .i64 d2, .slice wA2 wn2 wc2, .slice kA2 kn2 kc2, .int .i64 o3, .string m3, .int .i64 d3, .slice wA3 wn3 wc3, .slice kA3 kn3 kc3, .string use] 54) := ⟨_, rfl⟩
  have hb0 : Below w.heap.size w W0 := by rw [hW0]; exact hbA _
  have hs0 : w.heap.size < W0.heap.size := by rw [hW0]; simp
  have hr0 : W0.heap[w.heap.size]? = some (.cells #[.int .i64 4, .int .i64 line, .string name, .slice nA names.length nc, .slice fA faults.length fc, .int .i64 o1, .string m1, .int .i64 d1, .slice wA1 wn1 wc1, .slice kA1 kn1 kc1, .string proto, .int .i64 o2, .string m2, .int .i64 d2, .slice wA2 wn2 wc2, .slice kA2 kn2 kc2, .int .i64 o3, .string m3, .int .i64 d3, .slice wA3 wn3 wc3, .slice kA3 kn3 kc3, .string use] 54 (0, 0)) := by rw [hW0]; exact heap_alloc_new w _
  rw [← hW0]
  have HR0 := Lib.hid hr0
  clear hW0 hr0
  have ks2 : ¬ (9223372036854775807 < 7 + name.size) := by omega
  have ks3 : ¬ (9223372036854775807 < 7 + name.size + 1) := by omega
  have ks4 : ¬ (9223372036854775807 < 7 + name.size + 1 + proto.size) := by omega
  have ks5 : ¬ (9223372036854775807 < 7 + name.size + 1 + proto.size + 6) := by omega
  have ks6 : ¬ (9223372036854775807 < 7 + name.size + 1 + proto.size + 6 + T2.size) := by omega
  have ks7 : ¬ (9223372036854775807 < 7 + name.size + 1 + proto.size + 6 + T2.size + 7) := by omega
  have ks8 : ¬ (9223372036854775807 < 7 + name.size + 1 + proto.size + 6 + T2.size + 7 + T3.size) := by omega
  have ks9 : ¬ (9223372036854775807 < 7 + name.size + 1 + proto.size + 6 + T2.size + 7 + T3.size + 8) := by omega
  have ks10 : ¬ (9223372036854775807 < 7 + name.size + 1 + proto.size + 6 + T2.size + 7 + T3.size + 8 + use.size) := by omega
  have ks11 : ¬ (9223372036854775807 < 7 + name.size + 1 + proto.size + 6 + T2.size + 7 + T3.size + 8 + use.size + 1) := by omega
  have c2 : W0.cell? ⟨w.heap.size, 2, none⟩ = some (.string name) := cell_row HR0.out 2 _ rfl
  have c10 : W0.cell? ⟨w.heap.size, 10, none⟩ = some (.string proto) := cell_row HR0.out 10 _ rfl
  have c11 : W0.cell? ⟨w.heap.size, 11, none⟩ = some (.int .i64 o2) := cell_row HR0.out 11 _ rfl
  have c12 : W0.cell? ⟨w.heap.size, 12, none⟩ = some (.string m2) := cell_row HR0.out 12 _ rfl
  have c13 : W0.cell? ⟨w.heap.size, 13, none⟩ = some (.int .i64 d2) := cell_row HR0.out 13 _ rfl
  have c14 : W0.cell? ⟨w.heap.size, 14, none⟩ = some (.slice wA2 wn2 wc2) := cell_row HR0.out 14 _ rfl
  have c15 : W0.cell? ⟨w.heap.size, 15, none⟩ = some (.slice kA2 kn2 kc2) := cell_row HR0.out 15 _ rfl
  have c16 : W0.cell? ⟨w.heap.size, 16, none⟩ = some (.int .i64 o3) := cell_row HR0.out 16 _ rfl
  have c17 : W0.cell? ⟨w.heap.size, 17, none⟩ = some (.string m3) := cell_row HR0.out 17 _ rfl
  have c18 : W0.cell? ⟨w.heap.size, 18, none⟩ = some (.int .i64 d3) := cell_row HR0.out 18 _ rfl
  have c19 : W0.cell? ⟨w.heap.size, 19, none⟩ = some (.slice wA3 wn3 wc3) := cell_row HR0.out 19 _ rfl
  have c20 : W0.cell? ⟨w.heap.size, 20, none⟩ = some (.slice kA3 kn3 kc3) := cell_row HR0.out 20 _ rfl
  have c21 : W0.cell? ⟨w.heap.size, 21, none⟩ = some (.string use) := cell_row HR0.out 21 _ rfl
  go_region_held3 (fun w' => w'.cell? ⟨w.heap.size, 2, none⟩ = some (.string name) ∧ w'.cell? ⟨w.heap.size, 10, none⟩ = some (.string proto) ∧ w'.cell? ⟨w.heap.size, 11, none⟩ = some (.int .i64 o2) ∧ w'.cell? ⟨w.heap.size, 12, none⟩ = some (.string m2) ∧ w'.cell? ⟨w.heap.size, 13, none⟩ = some (.int .i64 d2) ∧ w'.cell? ⟨w.heap.size, 14, none⟩ = some (.slice wA2 wn2 wc2) ∧ w'.cell? ⟨w.heap.size, 15, none⟩ = some (.slice kA2 kn2 kc2) ∧ w'.cell? ⟨w.heap.size, 16, none⟩ = some (.int .i64 o3) ∧ w'.cell? ⟨w.heap.size, 17, none⟩ = some (.string m3) ∧ w'.cell? ⟨w.heap.size, 18, none⟩ = some (.int .i64 d3) ∧ w'.cell? ⟨w.heap.size, 19, none⟩ = some (.slice wA3 wn3 wc3) ∧ w'.cell? ⟨w.heap.size, 20, none⟩ = some (.slice kA3 kn3 kc3) ∧ w'.cell? ⟨w.heap.size, 21, none⟩ = some (.string use)) (first | exact ⟨(hb3.cell (p := ⟨w.heap.size, 2, none⟩) (Nat.lt_of_lt_of_le hs0 hb2.size)).trans ((hb2.cell (p := ⟨w.heap.size, 2, none⟩) hs0).trans c2), (hb3.cell (p := ⟨w.heap.size, 10, none⟩) (Nat.lt_of_lt_of_le hs0 hb2.size)).trans ((hb2.cell (p := ⟨w.heap.size, 10, none⟩) hs0).trans c10), (hb3.cell (p := ⟨w.heap.size, 11, none⟩) (Nat.lt_of_lt_of_le hs0 hb2.size)).trans ((hb2.cell (p := ⟨w.heap.size, 11, none⟩) hs0).trans c11), (hb3.cell (p := ⟨w.heap.size, 12, none⟩) (Nat.lt_of_lt_of_le hs0 hb2.size)).trans ((hb2.cell (p := ⟨w.heap.size, 12, none⟩) hs0).trans c12), (hb3.cell (p := ⟨w.heap.size, 13, none⟩) (Nat.lt_of_lt_of_le hs0 hb2.size)).trans ((hb2.cell (p := ⟨w.heap.size, 13, none⟩) hs0).trans c13), (hb3.cell (p := ⟨w.heap.size, 14, none⟩) (Nat.lt_of_lt_of_le hs0 hb2.size)).trans ((hb2.cell (p := ⟨w.heap.size, 14, none⟩) hs0).trans c14), (hb3.cell (p := ⟨w.heap.size, 15, none⟩) (Nat.lt_of_lt_of_le hs0 hb2.size)).trans ((hb2.cell (p := ⟨w.heap.size, 15, none⟩) hs0).trans c15), (hb3.cell (p := ⟨w.heap.size, 16, none⟩) (Nat.lt_of_lt_of_le hs0 hb2.size)).trans ((hb2.cell (p := ⟨w.heap.size, 16, none⟩) hs0).trans c16), (hb3.cell (p := ⟨w.heap.size, 17, none⟩) (Nat.lt_of_lt_of_le hs0 hb2.size)).trans ((hb2.cell (p := ⟨w.heap.size, 17, none⟩) hs0).trans c17), (hb3.cell (p := ⟨w.heap.size, 18, none⟩) (Nat.lt_of_lt_of_le hs0 hb2.size)).trans ((hb2.cell (p := ⟨w.heap.size, 18, none⟩) hs0).trans c18), (hb3.cell (p := ⟨w.heap.size, 19, none⟩) (Nat.lt_of_lt_of_le hs0 hb2.size)).trans ((hb2.cell (p := ⟨w.heap.size, 19, none⟩) hs0).trans c19), (hb3.cell (p := ⟨w.heap.size, 20, none⟩) (Nat.lt_of_lt_of_le hs0 hb2.size)).trans ((hb2.cell (p := ⟨w.heap.size, 20, none⟩) hs0).trans c20), (hb3.cell (p := ⟨w.heap.size, 21, none⟩) (Nat.lt_of_lt_of_le hs0 hb2.size)).trans ((hb2.cell (p := ⟨w.heap.size, 21, none⟩) hs0).trans c21)⟩ | exact ⟨(hb2.cell (p := ⟨w.heap.size, 2, none⟩) hs0).trans c2, (hb2.cell (p := ⟨w.heap.size, 10, none⟩) hs0).trans c10, (hb2.cell (p := ⟨w.heap.size, 11, none⟩) hs0).trans c11, (hb2.cell (p := ⟨w.heap.size, 12, none⟩) hs0).trans c12, (hb2.cell (p := ⟨w.heap.size, 13, none⟩) hs0).trans c13, (hb2.cell (p := ⟨w.heap.size, 14, none⟩) hs0).trans c14, (hb2.cell (p := ⟨w.heap.size, 15, none⟩) hs0).trans c15, (hb2.cell (p := ⟨w.heap.size, 16, none⟩) hs0).trans c16, (hb2.cell (p := ⟨w.heap.size, 17, none⟩) hs0).trans c17, (hb2.cell (p := ⟨w.heap.size, 18, none⟩) hs0).trans c18, (hb2.cell (p := ⟨w.heap.size, 19, none⟩) hs0).trans c19, (hb2.cell (p := ⟨w.heap.size, 20, none⟩) hs0).trans c20, (hb2.cell (p := ⟨w.heap.size, 21, none⟩) hs0).trans c21⟩ | exact ⟨c2, c10, c11, c12, c13, c14, c15, c16, c17, c18, c19, c20, c21⟩)
    (first | (go_at_call 49; (first | (guard_target = Calls _ _ #[.agg #[.int .i64 o3, _, _, _, _]] _ _; refine (HT3.out _ (second_below hb0 hb2)).mono ?_; rintro e w3 ⟨rfl, hb3⟩) | (guard_target =~ Calls _ _ #[.agg #[.int .i64 o2, _, _, _, _]] _ _; refine (HT2.out _ (second_below hb0 hb2)).mono ?_; rintro e w3 ⟨rfl, hb3⟩) | (guard_target =~ Calls _ _ #[.agg #[.int .i64 o2, _, _, _, _]] _ _; refine (HT2.out _ hb0.drew).mono ?_; rintro e w2 ⟨rfl, hb2⟩) | (guard_target =~ Calls _ _ #[.agg #[.int .i64 o3, _, _, _, _]] _ _; refine (HT3.out _ hb0.drew).mono ?_; rintro e w2 ⟨rfl, hb2⟩))))
  all_goals (
    go_wp2
    go_ret
    exact ⟨congrArg (fun b => Ending.returned (.string b)) E.out, (second_below hb0 hb2).trans (hb3.mono (second_below hb0 hb2).size)⟩)


set_option maxRecDepth 100000 in
set_option maxHeartbeats 4000000 in
theorem declTextR_2 (line : Int) (name : ByteArray) (names : List ByteArray) (faults : List Ft) (term : Tm) (proto : ByteArray) (read write : Tm) (use : ByteArray) (nA : Option Addr) (nc : Nat) (fA : Option Addr) (fc : Nat) (o1 : Int) (m1 : ByteArray) (d1 : Int) (wA1 : Option Addr) (wn1 wc1 : Nat) (kA1 : Option Addr) (kn1 kc1 : Nat) (o2 : Int) (m2 : ByteArray) (d2 : Int) (wA2 : Option Addr) (wn2 wc2 : Nat) (kA2 : Option Addr) (kn2 kc2 : Nat) (o3 : Int) (m3 : ByteArray) (d3 : Int) (wA3 : Option Addr) (wn3 wc3 : Nat) (kA3 : Option Addr) (kn3 kc3 : Nat) (w : World) (S : Nat → Prop) (hS : ∀ g, S g → g < w.heap.size)
    (hnm : name.size ≤ 24) (hf : ListAt (FtAt w S) w S 6 fA faults) (hof : faults.all okFt = true) (hlf : faults.length ≤ 10000) (hln : ∀ f ∈ faults, f.byzNames.length + f.crashNames.length ≤ 100000000) (hpw : Pow w) :
    Calls Tryz.prog 57 #[.agg #[.int .i64 2, .int .i64 line, .string name, .slice nA names.length nc, .slice fA faults.length fc, .int .i64 o1, .string m1, .int .i64 d1, .slice wA1 wn1 wc1, .slice kA1 kn1 kc1, .string proto, .int .i64 o2, .string m2, .int .i64 d2, .slice wA2 wn2 wc2, .slice kA2 kn2 kc2, .int .i64 o3, .string m3, .int .i64 d3, .slice wA3 wn3 wc3, .slice kA3 kn3 kc3, .string use]] w fun e w' => e = .returned (.string (bs (dcText ⟨2, line, name, names, faults, term, proto, read, write, use⟩))) ∧ Below w.heap.size w w' := by
  have hbA : ∀ o, Below w.heap.size w (w.alloc o) := fun o => (Below.refl _ _).alloc (Nat.le_refl _) o
  have HF := Lib.hid hf
  have HOF := Lib.hid (List.all_eq_true.1 hof)
  have HLN := Lib.hid hln
  have HP := Lib.hid hpw
  have hj1 := join_length_le (faults.map ftText) [32, 124, 32]
  have hj2 := ft_lens faults (fun f hf => by have := ft_length (List.all_eq_true.1 hof f hf); have := hln f hf; omega)
  obtain ⟨Q, hQ⟩ : ∃ Q, Q = faults.map ftText := ⟨_, rfl⟩
  rw [← hQ] at hj1 hj2
  have hQl : Q.length = faults.length := by rw [hQ, List.length_map]
  have hjl : (Lib.join Q [32, 124, 32]).length ≤ 28000000000000 := by simp only [List.length_cons, List.length_nil] at hj1; rw [hQl] at hj1; omega
  have HQ := Lib.hid (show ∀ k (h : k < faults.length) (h2 : k < Q.length), Q[k] = ftText faults[k] from fun k h h2 => by simp [hQ])
  have HE := Lib.hid (show dcText ⟨2, line, name, names, faults, term, proto, read, write, use⟩ = [102, 97, 117, 108, 116, 115, 32] ++ name.data.toList ++ [32, 61, 32] ++ Lib.join Q [32, 124, 32] ++ [59] by rw [hQ]; rfl)
  have HLE := Lib.hid (show ∀ k, ([102, 97, 117, 108, 116, 115, 32] ++ name.data.toList ++ [32, 61, 32] ++ Lib.join (Q.take k) [32, 124, 32]).length ≤ 29000000000000 from fun k => by
    have := join_take_le Q [32, 124, 32] k
    have e : name.data.toList.length = name.size := by simp
    simp only [List.length_append, List.length_cons, List.length_nil]; omega)
  have HQL := Lib.hid hQl
  clear hf hof hln hpw hj1 hj2 hQ hQl hjl
  go_enter Tryz.func57, Tryz.ntmps57
  go_upto_region 5 with fail
  obtain ⟨W0, hW0⟩ : ∃ W0 : World, W0 = w.alloc (.cells #[.int .i64 2, .int .i64 line, .string name, .slice nA names.length nc, .slice fA faults.length fc, .int .i64 o1, .string m1, .int .i64 d1, .slice wA1 wn1 wc1, .slice kA1 kn1 kc1, .string proto, .int .i64 o2, .string m2, .int .i64 d2, .slice wA2 wn2 wc2, .slice kA2 kn2 kc2, .int .i64 o3, .string m3, .int .i64 d3, .slice wA3 wn3 wc3, .slice kA3 kn3 kc3, .string use] 54) := ⟨_, rfl⟩
  have hb0 : Below w.heap.size w W0 := by rw [hW0]; exact hbA _
  have hs0 : w.heap.size < W0.heap.size := by rw [hW0]; simp
  have hr0 : W0.heap[w.heap.size]? = some (.cells #[.int .i64 2, .int .i64 line, .string name, .slice nA names.length nc, .slice fA faults.length fc, .int .i64 o1, .string m1, .int .i64 d1, .slice wA1 wn1 wc1, .slice kA1 kn1 kc1, .string proto, .int .i64 o2, .string m2, .int .i64 d2, .slice wA2 wn2 wc2, .slice kA2 kn2 kc2, .int .i64 o3, .string m3, .int .i64 d3, .slice wA3 wn3 wc3, .slice kA3 kn3 kc3, .string use] 54 (0, 0)) := by rw [hW0]; exact heap_alloc_new w _
  rw [← hW0]
  have HR0 := Lib.hid hr0
  clear hW0 hr0
  obtain ⟨-, -, c2, -, c4, -, -, -, -, -, -, -, -, -, -, -, -, -, -, -, -, -, -⟩ := row22 HR0.out
  go_wp2
  go_loopw [3, 4] (fun o x wr => ∃ k : Nat, k ≤ faults.length ∧ x = .int .i64 k ∧ o = .string (bs ([102, 97, 117, 108, 116, 115, 32] ++ name.data.toList ++ [32, 61, 32] ++ Lib.join (Q.take k) [32, 124, 32])) ∧ Below W0.heap.size W0 wr) (fun _ x _ => faults.length - (intOf x).toNat)
  case atStart => exact ⟨0, Nat.zero_le _, rfl, by rw [List.take_zero, Lib.join_nil, List.append_nil]; exact congrArg Value.string (cat3 _ _ _ _ _ _ rfl (bs_of name).symm rfl), Below.refl _ _⟩
  case round =>
    obtain ⟨k, hk, rfl, rfl, hb⟩ := hrel
    have hsr := hb.size
    have hbw : Below w.heap.size w wr := hb0.trans (hb.mono (Nat.le_of_lt hs0))
    clear c2 c4
    obtain ⟨-, -, -, -, c4, -, -, -, -, -, -, -, -, -, -, -, -, -, -, -, -, -, -⟩ := row22 ((hb.block _ hs0).trans HR0.out)
    obtain ⟨X, hX⟩ : ∃ X, X = bs ([102, 97, 117, 108, 116, 115, 32] ++ name.data.toList ++ [32, 61, 32] ++ Lib.join (Q.take k) [32, 124, 32]) := ⟨_, rfl⟩
    have hXs : X.size ≤ 29000000000000 := by rw [hX, bs_size]; exact HLE.out k
    rw [← hX]
    have HX := Lib.hid hX
    clear hX
    by_cases hlt : k < faults.length
    · have hfr := HF.out.keep (P' := FtAt wr S) (kept_of hbw hS) (fun _ _ h => h.keep (kept_of hbw hS))
      obtain ⟨g, o, op, fn, x, y, bA, bn, bc, cA, cn, cc, rfl, hSg, hft, k0, k1, k2, k3, k4, k5⟩ := fault_cells6 hfr hlt
      have hgs : g < wr.heap.size := by have := hS g hSg; have := hbw.size; omega
      have hkI : (k : Int) < (faults.length : Int) := by omega
      have hk0 : (0 : Int) ≤ (k : Int) := by omega
      have hql : k < Q.length := by rw [HQL.out]; exact hlt
      have hq := HQ.out k hlt hql
      have hmem : faults[k] ∈ faults := List.getElem_mem hlt
      have hl1 := ft_length (HOF.out _ hmem)
      have hl2 := HLN.out _ hmem
      have hC := faultText_ref _ _ wr S hft (fun g hg => by have := hS g hg; have := hbw.size; omega) (HOF.out _ hmem) (by omega) (HP.out.below hbw)
      have hus : (bs (ftText faults[k])).size ≤ 2700000000 := by rw [bs_size]; omega
      obtain ⟨t, ht⟩ : ∃ t, t = faults[k] := ⟨_, rfl⟩
      rw [← ht] at hC hq hus
      obtain ⟨U, hU⟩ : ∃ U, U = bs (ftText t) := ⟨_, rfl⟩
      rw [← hU] at hC hus
      have HU := Lib.hid hU
      have HC := Lib.hid hC
      clear hfr hft hl1 hl2 hC ht hU hmem
      by_cases hz : 0 < k
      · have hzI : (0 : Int) < (k : Int) := by omega
        have HS : Hid (Lib.join (Q.take (k + 1)) [32, 124, 32] = Lib.join (Q.take k) [32, 124, 32] ++ [32, 124, 32] ++ Q[k]) := join_next Q _ k hql hz
        rw [hq] at HS
        clear hq hz
        go_wp2_with fail
        refine HC.out.mono ?_
        rintro e W2 ⟨rfl, hb2⟩
        go_wp2
        go_roundw
        case rel =>
          refine ⟨k + 1, by omega, by go_num, ?_, hb.trans (hb2.mono (by omega))⟩
          · rw [HS.out, HX.out, HU.out, show (⟨#[32, 124, 32]⟩ : ByteArray) = bs [32, 124, 32] from rfl]
            simp only [bs_append, List.append_assoc]
        case measure => simp [intOf]; omega
      · obtain rfl : k = 0 := by omega
        rw [Nat.zero_mul, Nat.add_zero] at k0 k1 k2 k3 k4 k5
        have HS : Hid (Lib.join (Q.take (0 + 1)) [32, 124, 32] = Lib.join (Q.take 0) [32, 124, 32] ++ Q[0]) := join_first Q _ hql
        rw [hq] at HS
        clear hq hz
        go_wp2_with fail
        refine HC.out.mono ?_
        rintro e W2 ⟨rfl, hb2⟩
        go_wp2
        go_roundw
        case rel =>
          refine ⟨0 + 1, by omega, by go_num, ?_, hb.trans (hb2.mono (by omega))⟩
          · rw [HS.out, HX.out, HU.out]
            simp only [bs_append, List.append_assoc]
        case measure => simp [intOf]; omega
    · obtain rfl : k = faults.length := by omega
      have hkI : ¬ (faults.length : Int) < (faults.length : Int) := by omega
      have HEE := Lib.hid (show X ++ (⟨#[59]⟩ : ByteArray) = bs (dcText ⟨2, line, name, names, faults, term, proto, read, write, use⟩) by rw [HX.out, HE.out, ← HQL.out, List.take_length]; exact cat2 _ _ _ _ rfl rfl)
      go_wp2
      go_ret
      exact ⟨by rw [← HEE.out]; rfl, hbw⟩

theorem declText_ref (d : Dc) (v : Value) (w : World) (S : Nat → Prop) (hd : DcAt w S d v) (hS : ∀ g, S g → g < w.heap.size) (hok : okDc d = true) (hlim : TLim d) (hpw : Pow w) :
    Calls Tryz.prog 57 #[v] w fun e w' => e = .returned (.string (bs (dcText d))) ∧ Below w.heap.size w w' := by
  have h := dc_ok hok
  obtain ⟨kind, line, name, names, faults, term, proto, read, write, use⟩ := d
  obtain ⟨nA, nc, fA, fc, vt, vr, vw, rfl, h1, h2, h3, h4, h5, h6, h7⟩ := hd
  obtain ⟨o1, m1, d1, wA1, wn1, wc1, kA1, kn1, kc1, rfl⟩ := h5.form
  obtain ⟨o2, m2, d2, wA2, wn2, wc2, kA2, kn2, kc2, rfl⟩ := h6.form
  obtain ⟨o3, m3, d3, wA3, wn3, wc3, kA3, kn3, kc3, rfl⟩ := h7.form
  obtain ⟨l1, l2, l3, l4, l5, l6⟩ := hlim
  simp only at h1 h2 h3 h4 h5 h6 h7 l1 l2 l3 l4 l5 l6
  simp only [Value.cells, List.append_toArray, List.cons_append, List.nil_append]
  have nm : ∀ {x : ByteArray}, okName x = true → x.size ≤ 24 := fun h => (okName_size h).1
  rcases dc_kind h with hk | hk | hk | hk | hk | hk | hk <;> (simp only at hk; subst hk)
  · exact declTextR_1 line name names faults term proto read write use nA nc fA fc o1 m1 d1 wA1 wn1 wc1 kA1 kn1 kc1 o2 m2 d2 wA2 wn2 wc2 kA2 kn2 kc2 o3 m3 d3 wA3 wn3 wc3 kA3 kn3 kc3 w S hS (nm (dc_named h (show hasName 1 = true by decide))) h1 h.names l1
  · exact declTextR_2 line name names faults term proto read write use nA nc fA fc o1 m1 d1 wA1 wn1 wc1 kA1 kn1 kc1 o2 m2 d2 wA2 wn2 wc2 kA2 kn2 kc2 o3 m3 d3 wA3 wn3 wc3 kA3 kn3 kc3 w S hS (nm (dc_named h (show hasName 2 = true by decide))) h3 h.faults l2 l3 hpw
  · exact declTextR_3 line name names faults term proto read write use nA nc fA fc o1 m1 d1 wA1 wn1 wc1 kA1 kn1 kc1 o2 m2 d2 wA2 wn2 wc2 kA2 kn2 kc2 o3 m3 d3 wA3 wn3 wc3 kA3 kn3 kc3 w S hS (nm (dc_named h (show hasName 3 = true by decide))) h5 (by have ht := h.term; rw [if_pos (show hasTerm 3 = true by decide)] at ht; exact ht) l4 hpw
  · obtain ⟨hp, hr, hw, hu⟩ := dc_conf h (show hasConfig 4 = true by decide)
    have hp2 : proto.size ≤ 24 := by have := bd_word24 (proto_lex hp); simpa using this
    exact declTextR_4 line name names faults term proto read write use nA nc fA fc o1 m1 d1 wA1 wn1 wc1 kA1 kn1 kc1 o2 m2 d2 wA2 wn2 wc2 kA2 kn2 kc2 o3 m3 d3 wA3 wn3 wc3 kA3 kn3 kc3 w S hS (nm (dc_named h (show hasName 4 = true by decide))) hp2 (nm hu) h6 hr l5 h7 hw l6 hpw
  · exact declTextR_5 line name names faults term proto read write use nA nc fA fc o1 m1 d1 wA1 wn1 wc1 kA1 kn1 kc1 o2 m2 d2 wA2 wn2 wc2 kA2 kn2 kc2 o3 m3 d3 wA3 wn3 wc3 kA3 kn3 kc3 w S hS h1 h.names l1
  · have hu : use.size ≤ 24 := by
      rcases h.use with h | h
      · have h : use.size = 0 := h
        omega
      · exact nm h
    exact declTextR_6 line name names faults term proto read write use nA nc fA fc o1 m1 d1 wA1 wn1 wc1 kA1 kn1 kc1 o2 m2 d2 wA2 wn2 wc2 kA2 kn2 kc2 o3 m3 d3 wA3 wn3 wc3 kA3 kn3 kc3 w S hS (nm (dc_named h (show hasName 6 = true by decide))) hu
  · exact declTextR_7 line name names faults term proto read write use nA nc fA fc o1 m1 d1 wA1 wn1 wc1 kA1 kn1 kc1 o2 m2 d2 wA2 wn2 wc2 kA2 kn2 kc2 o3 m3 d3 wA3 wn3 wc3 kA3 kn3 kc3 w S hS h1 h.names l1

end Go.Proofs.YtipicaoinnblpaaGreatDoor
namespace Go.Proofs.YtipicaoinnblpaaGreatDoor

theorem names_few_size (l : List ByteArray) : l.length ≤ nameSize l := by
  unfold nameSize
  induction l with
  | nil => simp
  | cons x r ih => simp only [List.map_cons, List.sum_cons, List.length_cons]; omega
theorem ftSize_ge (f : Ft) : f.byzNames.length + f.crashNames.length + 1 ≤ ftSize f := by
  have a := names_few_size f.byzNames
  have b := names_few_size f.crashNames
  unfold ftSize; omega
theorem ft_text_size {f : Ft} (h : okFt f = true) : (ftText f).length ≤ 126 * ftSize f := by
  have a := ft_length h
  have b := ftSize_ge f
  omega
theorem fts_sum (l : List Ft) (h : ∀ f ∈ l, okFt f = true) : Lib.lens (l.map ftText) ≤ 126 * (l.map ftSize).sum ∧ l.length ≤ (l.map ftSize).sum := by
  induction l with
  | nil => simp [Lib.lens]
  | cons f r ih =>
    have a := ft_text_size (h f (by simp))
    have b := ih (fun q hq => h q (by simp [hq]))
    have c := ftSize_ge f
    rw [List.map_cons, lens_cons, List.map_cons, List.sum_cons, List.length_cons]
    omega
theorem ft_in_sum {l : List Ft} {f : Ft} (h : f ∈ l) : ftSize f ≤ (l.map ftSize).sum := by
  induction l with
  | nil => simp at h
  | cons a r ih =>
    rw [List.map_cons, List.sum_cons]
    rcases List.mem_cons.1 h with rfl | h
    · omega
    · have := ih h; omega
theorem dc_in_sum {l : List Dc} {d : Dc} (h : d ∈ l) : dcSize d ≤ (l.map dcSize).sum := by
  induction l with
  | nil => simp at h
  | cons a r ih =>
    rw [List.map_cons, List.sum_cons]
    rcases List.mem_cons.1 h with rfl | h
    · omega
    · have := ih h; omega
theorem dcs_len_sum (l : List Dc) : l.length ≤ (l.map dcSize).sum := by
  induction l with
  | nil => simp
  | cons a r ih =>
    rw [List.map_cons, List.sum_cons, List.length_cons]
    have : 1 ≤ dcSize a := by unfold dcSize; omega
    omega
theorem dc_text_size {d : Dc} (hok : okDc d = true) : (dcText d).length + 1 ≤ 200 * dcSize d := by
  have h := dc_ok hok
  have hs : dcSize d = d.name.size + nameSize d.names + (d.faults.map ftSize).sum + tmSize d.term + d.proto.size + tmSize d.read + tmSize d.write + d.use.size + 1 := rfl
  have n1 := names_few_size d.names
  have n2 := nameList_le h.names
  have en : d.name.data.toList.length = d.name.size := by simp
  have eu : d.use.data.toList.length = d.use.size := by simp
  have ep : d.proto.data.toList.length = d.proto.size := by simp
  unfold dcText
  rcases dc_kind h with hk | hk | hk | hk | hk | hk | hk
  · rw [if_pos hk]; simp only [List.length_append, List.length_cons, List.length_nil]; omega
  · rw [if_neg (by omega), if_pos hk]
    obtain ⟨f1, f2⟩ := fts_sum d.faults (List.all_eq_true.1 h.faults)
    have f3 := join_length_le (d.faults.map ftText) [32, 124, 32]
    simp only [List.length_append, List.length_cons, List.length_nil, List.length_map] at f3 ⊢; omega
  · rw [if_neg (by omega), if_neg (by omega), if_pos hk]
    have ht : okTm d.term = true := by have := h.term; rw [hk] at this; exact this
    have t1 := tmText_le ht
    simp only [List.length_append, List.length_cons, List.length_nil]; omega
  · rw [if_neg (by omega), if_neg (by omega), if_neg (by omega), if_pos hk]
    obtain ⟨hp, hr, hw, hu⟩ := dc_conf h (by rw [hk]; rfl)
    have t1 := tmText_le hr
    have t2 := tmText_le hw
    simp only [List.length_append, List.length_cons, List.length_nil]; omega
  · rw [if_neg (by omega), if_neg (by omega), if_neg (by omega), if_neg (by omega), if_pos hk]
    simp only [List.length_append, List.length_cons, List.length_nil]; omega
  · rw [if_neg (by omega), if_neg (by omega), if_neg (by omega), if_neg (by omega), if_neg (by omega), if_neg (by omega)]
    split
    · simp only [List.length_append, List.length_cons, List.length_nil]; omega
    · simp only [List.length_append, List.length_cons, List.length_nil]; omega
  · rw [if_neg (by omega), if_neg (by omega), if_neg (by omega), if_neg (by omega), if_neg (by omega), if_pos hk]
    simp only [List.length_append, List.length_cons, List.length_nil]; omega
theorem dcs_text_size (l : List Dc) (h : l.all okDc = true) : (dcsText l).length ≤ 200 * (l.map dcSize).sum := by
  induction l with
  | nil => simp [dcsText]
  | cons d r ih =>
    rw [List.all_cons, Bool.and_eq_true] at h
    have a := dc_text_size h.1
    have b := ih h.2
    have e : dcsText (d :: r) = (dcText d ++ [10]) ++ dcsText r := rfl
    rw [e, List.map_cons, List.sum_cons]
    simp only [List.length_append, List.length_cons, List.length_nil]; omega
theorem dcs_take (l : List Dc) (k : Nat) (h : k < l.length) : dcsText (l.take (k + 1)) = dcsText (l.take k) ++ (dcText l[k] ++ [10]) := by
  unfold dcsText
  rw [List.take_succ_eq_append_getElem h, List.flatMap_append]; simp
theorem sum_take (l : List Dc) (k : Nat) : ((l.take k).map dcSize).sum ≤ (l.map dcSize).sum := by
  have h := List.take_append_drop k l
  have : (l.map dcSize).sum = ((l.take k).map dcSize).sum + ((l.drop k).map dcSize).sum := by
    rw [← List.sum_append, ← List.map_append, h]
  omega
/-- What Few counts of a declaration. -/
def fewSize (d : Dc) : Nat := tmSize d.term + tmSize d.read + tmSize d.write + d.name.size + d.names.length + 10 * d.faults.length + d.proto.size + d.use.size
theorem few_take (l : List Dc) (k : Nat) (h : k < l.length) : ((l.take (k + 1)).map fewSize).sum = ((l.take k).map fewSize).sum + fewSize l[k] := by
  rw [List.take_succ_eq_append_getElem h, List.map_append, List.sum_append]; simp
theorem few_take_le (l : List Dc) (k : Nat) : ((l.take k).map fewSize).sum ≤ (l.map fewSize).sum := by
  have h := List.take_append_drop k l
  have : (l.map fewSize).sum = ((l.take k).map fewSize).sum + ((l.drop k).map fewSize).sum := by
    rw [← List.sum_append, ← List.map_append, h]
  omega
theorem few_in_sum {l : List Dc} {d : Dc} (h : d ∈ l) : fewSize d ≤ (l.map fewSize).sum := by
  induction l with
  | nil => simp at h
  | cons a r ih =>
    rw [List.map_cons, List.sum_cons]
    rcases List.mem_cons.1 h with rfl | h
    · omega
    · have := ih h; omega
theorem fts_len (l : List Ft) : l.length ≤ (l.map ftSize).sum := by
  induction l with
  | nil => simp
  | cons f r ih =>
    have c := ftSize_ge f
    rw [List.map_cons, List.sum_cons, List.length_cons]; omega
theorem few_dc (l : List Dc) : (l.map fewSize).sum ≤ 10 * (l.map dcSize).sum := by
  induction l with
  | nil => simp
  | cons d r ih =>
    have n1 := names_few_size d.names
    have n2 := fts_len d.faults
    have e : fewSize d ≤ 10 * dcSize d := by unfold fewSize dcSize; omega
    rw [List.map_cons, List.map_cons, List.sum_cons, List.sum_cons]; omega
end Go.Proofs.YtipicaoinnblpaaGreatDoor
namespace Go.Proofs.YtipicaoinnblpaaGreatDoor
open Go.RowKit

set_option maxRecDepth 100000 in
set_option maxHeartbeats 4000000 in
theorem few_ref (l : List Dc) (A : Option Addr) (c : Nat) (w : World) (S : Nat → Prop) (hl : ListAt (DcAt w S) w S 22 A l) (hS : ∀ g, S g → g < w.heap.size) (hsz : (l.map dcSize).sum ≤ 1100000) :
    Calls Tryz.prog 22 #[.slice A l.length c] w fun e w' => e = .returned (.bool (decide ((l.map fewSize).sum ≤ 10000))) ∧ Below w.heap.size w w' := by
  have HL := Lib.hid hl
  have hll := dcs_len_sum l
  have hlb : l.length ≤ 1100000 := by omega
  have hfd := few_dc l
  have hfb : (l.map fewSize).sum ≤ 11000000 := by omega
  have HFB := Lib.hid (show ∀ k, ((l.take k).map fewSize).sum ≤ 11000000 from fun k => by have := few_take_le l k; omega)
  clear hl hsz hll hfd
  go_enter Tryz.func22, Tryz.ntmps22
  go_wp2
  go_loopw [3, 4] (fun n x wr => ∃ k : Nat, k ≤ l.length ∧ x = .int .i64 k ∧ n = .int .i64 (((l.take k).map fewSize).sum : Nat) ∧ Below w.heap.size w wr) (fun _ x _ => l.length - (intOf x).toNat)
  case atStart => exact ⟨0, Nat.zero_le _, rfl, rfl, Below.refl _ _⟩
  case round =>
    obtain ⟨k, hk, rfl, rfl, hb⟩ := hrel
    have hsr := hb.size
    by_cases hlt : k < l.length
    · obtain ⟨g, o, v, rfl, hSg, hp, hc⟩ := el_cells (fun _ _ h => dc_len h) (HL.out.keep (P' := DcAt wr S) (kept_of hb hS) (fun _ _ h => h.keep (kept_of hb hS))) hlt
      have hgs : g < wr.heap.size := by have := hS g hSg; omega
      have hkI : (k : Int) < (l.length : Int) := by omega
      have hk0 : (0 : Int) ≤ (k : Int) := by omega
      have hft := few_take l k hlt
      have hfk := HFB.out (k + 1)
      rw [hft] at hfk
      generalize l[k] = d at hp hft hfk
      obtain ⟨kind, line, name, names, faults, term, proto, read, write, use⟩ := d
      obtain ⟨nA, nc, fA, fc, vt, vr, vw, rfl, h1, h2, h3, h4, h5, h6, h7⟩ := hp
      obtain ⟨o1, m1, d1, wA1, wn1, wc1, kA1, kn1, kc1, rfl⟩ := h5.form
      obtain ⟨o2, m2, d2, wA2, wn2, wc2, kA2, kn2, kc2, rfl⟩ := h6.form
      obtain ⟨o3, m3, d3, wA3, wn3, wc3, kA3, kn3, kc3, rfl⟩ := h7.form
      simp only at h5 h6 h7
      have hfs : fewSize ⟨kind, line, name, names, faults, term, proto, read, write, use⟩ = tmSize term + tmSize read + tmSize write + name.size + names.length + 10 * faults.length + proto.size + use.size := rfl
      rw [hfs] at hft hfk
      have hc2 : ∀ (j : Nat) (u : Value), ([.int .i64 kind, .int .i64 line, .string name, .slice nA names.length nc, .slice fA faults.length fc, .int .i64 o1, .string m1, .int .i64 d1, .slice wA1 wn1 wc1, .slice kA1 kn1 kc1, .string proto, .int .i64 o2, .string m2, .int .i64 d2, .slice wA2 wn2 wc2, .slice kA2 kn2 kc2, .int .i64 o3, .string m3, .int .i64 d3, .slice wA3 wn3 wc3, .slice kA3 kn3 kc3, .string use] : List Value)[j]? = some u → wr.cell? ⟨g, o + k * 22 + j, none⟩ = some u := fun j u hu => hc j u (by simpa [cellsOf, Value.cells] using hu)
      have hSW : ∀ (W : World), Below wr.heap.size wr W → ∀ g, S g → g < W.heap.size := fun W hW g hg => by have := hS g hg; have := hW.size; omega
      have e1 : tmSize term ≤ 11000000 := by omega
      have e2 : tmSize read ≤ 11000000 := by omega
      have e3 : tmSize write ≤ 11000000 := by omega
      have hs1 := fun (W : World) (hW : Below wr.heap.size wr W) => size_ref term _ W S (h5.keep (kept_all hW)) (hSW W hW) (by omega)
      have hs2 := fun (W : World) (hW : Below wr.heap.size wr W) => size_ref read _ W S (h6.keep (kept_all hW)) (hSW W hW) (by omega)
      have hs3 := fun (W : World) (hW : Below wr.heap.size wr W) => size_ref write _ W S (h7.keep (kept_all hW)) (hSW W hW) (by omega)
      obtain ⟨z1, y1⟩ : ∃ z, z = tmSize term := ⟨_, rfl⟩
      obtain ⟨z2, y2⟩ : ∃ z, z = tmSize read := ⟨_, rfl⟩
      obtain ⟨z3, y3⟩ : ∃ z, z = tmSize write := ⟨_, rfl⟩
      simp only [← y1] at hs1
      simp only [← y2] at hs2
      simp only [← y3] at hs3
      rw [← y1, ← y2, ← y3] at hft hfk
      have HS1 := Lib.hid hs1
      have HS2 := Lib.hid hs2
      have HS3 := Lib.hid hs3
      obtain ⟨p, hp⟩ : ∃ p, p = ((l.take k).map fewSize).sum := ⟨_, rfl⟩
      rw [← hp] at hft hfk
      rw [← hp]
      have HSN := Lib.hid hft
      have p1 : p ≤ 11000000 := by omega
      have p2 : z1 ≤ 11000000 := by omega
      have p3 : z2 ≤ 11000000 := by omega
      have p4 : z3 ≤ 11000000 := by omega
      have p5 : name.size ≤ 11000000 := by omega
      have p6 : names.length ≤ 11000000 := by omega
      have p7 : faults.length ≤ 11000000 := by omega
      have p8 : proto.size ≤ 11000000 := by omega
      have p9 : use.size ≤ 11000000 := by omega
      clear hft hfk hfs hs1 hs2 hs3 h1 h2 h3 h4 h5 h6 h7 hc y1 y2 y3 hp e1 e2 e3
      have HC := Lib.hid hc2
      have a5 : wr.cell? ⟨g, o + k * 22 + 5, none⟩ = some (.int .i64 o1) := HC.out 5 _ rfl
      have a6 : wr.cell? ⟨g, o + k * 22 + 6, none⟩ = some (.string m1) := HC.out 6 _ rfl
      have a7 : wr.cell? ⟨g, o + k * 22 + 7, none⟩ = some (.int .i64 d1) := HC.out 7 _ rfl
      have a8 : wr.cell? ⟨g, o + k * 22 + 8, none⟩ = some (.slice wA1 wn1 wc1) := HC.out 8 _ rfl
      have a9 : wr.cell? ⟨g, o + k * 22 + 9, none⟩ = some (.slice kA1 kn1 kc1) := HC.out 9 _ rfl
      go_wp2_with fail
      refine (HS1.out wr (Below.refl _ _)).mono ?_
      rintro e W1 ⟨rfl, hb1⟩
      clear a5 a6 a7 a8 a9
      have b11 : W1.cell? ⟨g, o + k * 22 + 11, none⟩ = some (.int .i64 o2) := (hb1.cell (p := ⟨g, o + k * 22 + 11, none⟩) hgs).trans (HC.out 11 _ rfl)
      have b12 : W1.cell? ⟨g, o + k * 22 + 12, none⟩ = some (.string m2) := (hb1.cell (p := ⟨g, o + k * 22 + 12, none⟩) hgs).trans (HC.out 12 _ rfl)
      have b13 : W1.cell? ⟨g, o + k * 22 + 13, none⟩ = some (.int .i64 d2) := (hb1.cell (p := ⟨g, o + k * 22 + 13, none⟩) hgs).trans (HC.out 13 _ rfl)
      have b14 : W1.cell? ⟨g, o + k * 22 + 14, none⟩ = some (.slice wA2 wn2 wc2) := (hb1.cell (p := ⟨g, o + k * 22 + 14, none⟩) hgs).trans (HC.out 14 _ rfl)
      have b15 : W1.cell? ⟨g, o + k * 22 + 15, none⟩ = some (.slice kA2 kn2 kc2) := (hb1.cell (p := ⟨g, o + k * 22 + 15, none⟩) hgs).trans (HC.out 15 _ rfl)
      go_wp2_with fail
      refine (HS2.out W1 hb1).mono ?_
      rintro e W2 ⟨rfl, hb2⟩
      have hx2 : Below wr.heap.size wr W2 := hb1.trans (hb2.mono hb1.size)
      clear b11 b12 b13 b14 b15
      have e16 : W2.cell? ⟨g, o + k * 22 + 16, none⟩ = some (.int .i64 o3) := (hx2.cell (p := ⟨g, o + k * 22 + 16, none⟩) hgs).trans (HC.out 16 _ rfl)
      have e17 : W2.cell? ⟨g, o + k * 22 + 17, none⟩ = some (.string m3) := (hx2.cell (p := ⟨g, o + k * 22 + 17, none⟩) hgs).trans (HC.out 17 _ rfl)
      have e18 : W2.cell? ⟨g, o + k * 22 + 18, none⟩ = some (.int .i64 d3) := (hx2.cell (p := ⟨g, o + k * 22 + 18, none⟩) hgs).trans (HC.out 18 _ rfl)
      have e19 : W2.cell? ⟨g, o + k * 22 + 19, none⟩ = some (.slice wA3 wn3 wc3) := (hx2.cell (p := ⟨g, o + k * 22 + 19, none⟩) hgs).trans (HC.out 19 _ rfl)
      have e20 : W2.cell? ⟨g, o + k * 22 + 20, none⟩ = some (.slice kA3 kn3 kc3) := (hx2.cell (p := ⟨g, o + k * 22 + 20, none⟩) hgs).trans (HC.out 20 _ rfl)
      go_wp2_with fail
      refine (HS3.out W2 hx2).mono ?_
      rintro e W3 ⟨rfl, hb3⟩
      have hx3 : Below wr.heap.size wr W3 := hx2.trans (hb3.mono hx2.size)
      have hgs3 : g < W3.heap.size := Nat.lt_of_lt_of_le hgs hx3.size
      clear e16 e17 e18 e19 e20
      have f2 : W3.cell? ⟨g, o + k * 22 + 2, none⟩ = some (.string name) := (hx3.cell (p := ⟨g, o + k * 22 + 2, none⟩) hgs).trans (HC.out 2 _ rfl)
      have f3 : W3.cell? ⟨g, o + k * 22 + 3, none⟩ = some (.slice nA names.length nc) := (hx3.cell (p := ⟨g, o + k * 22 + 3, none⟩) hgs).trans (HC.out 3 _ rfl)
      have f4 : W3.cell? ⟨g, o + k * 22 + 4, none⟩ = some (.slice fA faults.length fc) := (hx3.cell (p := ⟨g, o + k * 22 + 4, none⟩) hgs).trans (HC.out 4 _ rfl)
      have f10 : W3.cell? ⟨g, o + k * 22 + 10, none⟩ = some (.string proto) := (hx3.cell (p := ⟨g, o + k * 22 + 10, none⟩) hgs).trans (HC.out 10 _ rfl)
      have f21 : W3.cell? ⟨g, o + k * 22 + 21, none⟩ = some (.string use) := (hx3.cell (p := ⟨g, o + k * 22 + 21, none⟩) hgs).trans (HC.out 21 _ rfl)
      go_upto_region 8 with fail
      go_quiet (fail)
      go_wp2
      go_roundw
      case rel =>
        refine ⟨k + 1, by omega, by go_num, ?_, below_drewN (hb.trans (hx3.mono hsr)) _⟩
        rw [HSN.out]
        go_num
      case measure => simp [intOf]; omega
    · obtain rfl : k = l.length := by omega
      have hkI : ¬ (l.length : Int) < (l.length : Int) := by omega
      rw [List.take_length]
      obtain ⟨n, hn⟩ : ∃ n, n = (l.map fewSize).sum := ⟨_, rfl⟩
      rw [← hn]
      have HN := Lib.hid hn
      rw [← hn] at hfb
      clear hn
      go_wp2
      go_ret
      refine ⟨?_, hb⟩
      show Ending.returned (.bool (decide ((n : Int) ≤ 10000))) = _
      rw [show decide ((n : Int) ≤ 10000) = decide (n ≤ 10000) by rw [Bool.eq_iff_iff, decide_eq_true_iff, decide_eq_true_iff]; omega, HN.out]
end Go.Proofs.YtipicaoinnblpaaGreatDoor
