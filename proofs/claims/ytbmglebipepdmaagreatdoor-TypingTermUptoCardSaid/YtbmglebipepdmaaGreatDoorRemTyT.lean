/- What this closing text needs beyond the base: parts of the texts on typing and on the syntax; the conditions stand at each theorem. -/
import Derived.Lib.Join
import Derived.Laws.Concat
import Derived.Lib.ItoaNum
import Derived.Lib.ItoaLen
import Derived.Test.YtbmglebipepdmaaGreatDoorPkPlain
import Derived.Test.YtbmglebipepdmaaGreatDoorPkRound
import Derived.Test.YtbmglebipepdmaaGreatDoorPkTyp
import Derived.Test.YtbmglebipepdmaaGreatDoorPkMem
import Derived.Test.YtbmglebipepdmaaGreatDoorPkPara
import Derived.Test.YtbmglebipepdmaaGreatDoorPkParb
import Derived.Test.YtbmglebipepdmaaGreatDoorPkLex
import Derived.Test.YtbmglebipepdmaaGreatDoorPkPare
import Derived.Test.YtbmglebipepdmaaGreatDoorPkVala
import Derived.Test.YtbmglebipepdmaaGreatDoorPkValb
import Derived.Test.YtbmglebipepdmaaGreatDoorPkValc
import Derived.Test.YtbmglebipepdmaaGreatDoorPkFmta
import Derived.Test.YtbmglebipepdmaaGreatDoorPkFmtb
import Derived.Test.YtbmglebipepdmaaGreatDoorPkNms
import Derived.Test.YtbmglebipepdmaaGreatDoorPkTya
import Derived.Test.YtbmglebipepdmaaGreatDoorPkTyb
import Derived.Test.YtbmglebipepdmaaGreatDoorPkOpen
import Derived.Test.YtbmglebipepdmaaGreatDoorPkCheck
import Derived.Test.YtbmglebipepdmaaGreatDoorPkRefl
import Derived.Test.YtbmglebipepdmaaGreatDoorPkRefa
import Derived.Test.YtbmglebipepdmaaGreatDoorPkRefb
import Derived.Test.YtbmglebipepdmaaGreatDoorPkRefc
import Derived.Test.YtbmglebipepdmaaGreatDoorPkRefd
import Derived.Test.YtbmglebipepdmaaGreatDoorPkEq
import Derived.Test.YtbmglebipepdmaaGreatDoorPkHead
import Derived.Test.YtbmglebipepdmaaGreatDoorPkUses
import Derived.Test.YtbmglebipepdmaaGreatDoorPkAwt
namespace Go.Proofs.YtbmglebipepdmaaGreatDoor
end Go.Proofs.YtbmglebipepdmaaGreatDoor
namespace Go.Proofs.YtbmglebipepdmaaGreatDoor
end Go.Proofs.YtbmglebipepdmaaGreatDoor
namespace Go.Proofs.YtbmglebipepdmaaGreatDoor
end Go.Proofs.YtbmglebipepdmaaGreatDoor
namespace Go.Proofs.YtbmglebipepdmaaGreatDoor
end Go.Proofs.YtbmglebipepdmaaGreatDoor
namespace Go.Proofs.YtbmglebipepdmaaGreatDoor
end Go.Proofs.YtbmglebipepdmaaGreatDoor
namespace Go.Proofs.YtbmglebipepdmaaGreatDoor
def dW (t : Tm) : List UInt8 × Nat := if dX t then iO (aS t) else ([], 1)


mutual
def dQ : Tm → Nat
  | .mk _ _ _ _ kids => fM kids + 1
def fM : List Tm → Nat
  | [] => 0
  | t :: r => max (dQ t) (fM r)
end
end Go.Proofs.YtbmglebipepdmaaGreatDoor
namespace Go.Proofs.YtbmglebipepdmaaGreatDoor
end Go.Proofs.YtbmglebipepdmaaGreatDoor
namespace Go.Proofs.YtbmglebipepdmaaGreatDoor
end Go.Proofs.YtbmglebipepdmaaGreatDoor
namespace Go.Proofs.YtbmglebipepdmaaGreatDoor
open Go.RowKit
end Go.Proofs.YtbmglebipepdmaaGreatDoor
namespace Go.Proofs.YtbmglebipepdmaaGreatDoor
open Go.RowKit Go.Shelf
set_option maxHeartbeats 1000000 in
theorem AB (t : Tm) (v : Value) (w : World) (S : Nat → Prop) (ht : gm w S t v) (hS : ∀ g, S g → g < w.heap.size) (hsz : au t ≤ 1000000000) (hpw : Pow w) :
    Calls Tryz.prog 56 #[v] w fun e w' => e = .returned (.tuple #[.string (bs (dW t).1), .int .i64 (dW t).2]) ∧ Below w.heap.size w w' := by
  have hbA : ∀ o, Below w.heap.size w (w.alloc o) := fun o => (Below.refl _ _).alloc (Nat.le_refl _) o
  have ht2 := ht
  obtain ⟨op, nm, nd, wA, wn, wc, kA, kn, kc, rfl⟩ := ht2.form
  have HV := Lib.hid (fun o => jM t _ (w.alloc o) S (ht.keep (aW (hbA o))) (fun g hg => by have := hS g hg; simp; omega) (by omega))
  have HT := Lib.hid (fun (hok : dX t = true) (W : World) (hb : Below w.heap.size w W) => oo t _ W S (ht.keep (aF hb hS)) (fun g hg => by have := hS g hg; have := hb.size; omega) hok hsz (hpw.below hb))
  clear ht ht2 hpw
  go_enter Tryz.func56, Tryz.ntmps56
  go_wp2_with fail
  refine (HV.out _).mono ?_
  rintro e W1 ⟨rfl, hb1⟩
  have hs1 := hb1.size
  rw [show (w.alloc (.cells #[.int .i64 op, .string nm, .int .i64 nd, .slice wA wn wc, .slice kA kn kc] 39)).heap.size = w.heap.size + 1 by simp] at hs1 hb1
  have qI : Below w.heap.size w W1 := (hbA _).trans (hb1.mono (by omega))
  have hr1 : W1.heap[w.heap.size]? = some (.cells #[.int .i64 op, .string nm, .int .i64 nd, .slice wA wn wc, .slice kA kn kc] 39 (0, 0)) := (hb1.block _ (by omega)).trans (heap_alloc_new w _)
  obtain ⟨c0, c1, c2, c3, c4, -⟩ := iH hr1
  clear hr1
  cases hok : dX t
  · have e1 : dW t = ([], 1) := by unfold dW; rw [hok]; rfl
    have E1 := Lib.hid e1
    clear e1 hok
    go_wp2
    go_ret2
    rw [E1.out]
    exact ⟨rfl, qI⟩
  · have e1 : dW t = iO (aS t) := by unfold dW; rw [hok]; rfl
    have E1 := Lib.hid e1
    have HT1 := Lib.hid (HT.out hok W1 qI)
    clear e1 hok
    go_wp2_with fail
    refine HT1.out.mono ?_
    rintro e W2 ⟨rfl, hb2⟩
    go_wp2_with fail
    refine (Et (bs (aS t)) W2).mono ?_
    rintro e W3 ⟨rfl, hb3⟩
    go_wp2
    go_ret2
    rw [E1.out, fK]
    exact ⟨rfl, (qI.trans (hb2.mono qI.size)).trans (hb3.mono (Nat.le_trans qI.size hb2.size))⟩

end Go.Proofs.YtbmglebipepdmaaGreatDoor
namespace Go.Proofs.YtbmglebipepdmaaGreatDoor
theorem few_take (l : List Dc) (k : Nat) (h : k < l.length) : ((l.take (k + 1)).map dF).sum = ((l.take k).map dF).sum + dF l[k] := by
  rw [List.take_succ_eq_append_getElem h, List.map_append, List.sum_append]; simp
theorem Io (l : List Dc) (k : Nat) : ((l.take k).map dF).sum ≤ (l.map dF).sum := by
  have h := List.take_append_drop k l
  have : (l.map dF).sum = ((l.take k).map dF).sum + ((l.drop k).map dF).sum := by
    rw [← List.sum_append, ← List.map_append, h]
  omega
theorem fts_len (l : List Ft) : l.length ≤ (l.map jB).sum := by
  induction l with
  | nil => simp
  | cons f r ih =>
    have c := vO f
    rw [List.map_cons, List.sum_cons, List.length_cons]; omega
theorem few_dc (l : List Dc) : (l.map dF).sum ≤ 10 * (l.map d9).sum := by
  induction l with
  | nil => simp
  | cons d r ih =>
    have n1 := jV d.names
    have n2 := fts_len d.faults
    have e : dF d ≤ 10 * d9 d := by unfold dF d9; omega
    rw [List.map_cons, List.map_cons, List.sum_cons, List.sum_cons]; omega
end Go.Proofs.YtbmglebipepdmaaGreatDoor
namespace Go.Proofs.YtbmglebipepdmaaGreatDoor
open Go.RowKit
theorem Cm (l : List Tm) (k : Nat) (h : k < l.length) : fM (l.take (k + 1)) = max (fM (l.take k)) (dQ l[k]) := by
  have : ∀ (a : List Tm) (t : Tm), fM (a ++ [t]) = max (fM a) (dQ t) := by
    intro a t
    induction a with
    | nil => simp [fM]
    | cons x r ih => simp only [List.cons_append, fM, ih]; omega
  rw [List.take_succ_eq_append_getElem h, this]
theorem Ee (l : List Tm) (k : Nat) (h : k < l.length) : aR (l.take (k + 1)) = aR (l.take k) + au l[k] := by
  have : ∀ (a : List Tm) (t : Tm), aR (a ++ [t]) = aR a + au t := by
    intro a t
    induction a with
    | nil => simp [aR]
    | cons x r ih => simp only [List.cons_append, aR, ih]; omega
  rw [List.take_succ_eq_append_getElem h, this]
theorem Ed (l : List Tm) (k : Nat) : aR (l.take k) ≤ aR l := by
  have : ∀ (a b : List Tm), aR (a ++ b) = aR a + aR b := by
    intro a b
    induction a with
    | nil => simp [aR]
    | cons x r ih => simp only [List.cons_append, aR, ih]; omega
  have h := this (l.take k) (l.drop k)
  rw [List.take_append_drop] at h; omega
mutual
theorem AX : ∀ t : Tm, dQ t ≤ au t
  | .mk op name need ws kids => by
    have h := pR kids
    rw [dQ, au]; omega
theorem pR : ∀ l : List Tm, fM l ≤ aR l
  | [] => by simp [fM]
  | t :: r => by
    have h1 := AX t
    have h2 := pR r
    rw [fM, aR]; omega
end
def SzOk (t : Tm) : Prop := ∀ (v : Value) (w : World) (S : Nat → Prop), gm w S t v → (∀ g, S g → g < w.heap.size) → au t ≤ 1000000000 → Calls Tryz.prog 29 #[v] w fun e w' => e = .returned (.tuple #[.int .i64 (au t), .int .i64 (dQ t)]) ∧ Below w.heap.size w w'

set_option maxRecDepth 100000 in
set_option maxHeartbeats 4000000 in
theorem size_step (t : Tm) (ih : ∀ k ∈ t.kids, SzOk k) : SzOk t := by
  intro v w S hv hS hsz
  have HSS0 := Lib.hid (fH t)
  cases hv with
  | mk op nm need ws kids wA kA cw kc vs hw hwc hk hkc hl h =>
  have hss : au (.mk op nm need ws kids) = 1 + nm.size + ws.length + aR kids := HSS0.out
  have hdd : dQ (.mk op nm need ws kids) = fM kids + 1 := by rw [dQ]
  have hkl := kz kids
  have hbig : 1 + nm.size + ws.length + aR kids ≤ 1000000000 := by omega
  have IH := Lib.hid (show ∀ k ∈ kids, SzOk k from ih)
  have HL := Lib.hid (show bG (gm w S) w S 5 kA kids from ⟨vs, hl, hk, h⟩)
  have hkb : kids.length ≤ 1000000000 := by omega
  have HSS := Lib.hid hss
  have HDD := Lib.hid hdd
  clear ih hw hk hl h hss hdd hsz
  obtain ⟨w0, hw0⟩ : ∃ w0 : World, w0 = w.alloc (.cells #[.int .i64 op, .string nm, .int .i64 need, .slice wA ws.length cw, .slice kA kids.length kc] 39) := ⟨_, rfl⟩
  have hb0 : Below w.heap.size w w0 := by rw [hw0]; exact (Below.refl _ _).alloc (Nat.le_refl _) _
  have hz0 : w0.heap.size = w.heap.size + 1 := by rw [hw0]; simp
  have hr0 : w0.heap[w.heap.size]? = some (.cells #[.int .i64 op, .string nm, .int .i64 need, .slice wA ws.length cw, .slice kA kids.length kc] 39 (0, 0)) := by rw [hw0]; exact heap_alloc_new w _
  have uy : w.heap.size + 1 ≤ w0.heap.size := by omega
  have HR0 := Lib.hid hr0
  have hnI : (nm.size : Int) ≤ 1000000000 := by omega
  have hwI : (ws.length : Int) ≤ 1000000000 := by omega
  have HW0 := Lib.hid hw0
  clear hz0 hr0 hw0
  go_enter Tryz.func29, Tryz.ntmps29
  go_wp2
  rw [← HW0.out]
  go_loopw [4, 5, 6] (fun x y z wr => ∃ k : Nat, k ≤ kids.length ∧ z = .int .i64 k ∧ x = .int .i64 ((1 + nm.size + ws.length + aR (kids.take k) : Nat) : Int) ∧ y = .int .i64 (fM (kids.take k) : Nat) ∧ Below (w.heap.size + 1) w0 wr) (fun _ _ z _ => kids.length - (intOf z).toNat)
  case atStart => exact ⟨0, Nat.zero_le _, rfl, by simp [aR], by simp [fM], Below.refl _ _⟩
  case round =>
    obtain ⟨k, hk, rfl, rfl, rfl, hb⟩ := hrel
    have hsr := hb.size
    have hbw : Below w.heap.size w wr := hb0.trans (hb.mono (by omega))
    have hr1 := (hb.block _ (by omega)).trans HR0.out
    obtain ⟨c0, c1, c2, c3, c4, -⟩ := iH hr1
    clear hr1
    by_cases hlt : k < kids.length
    · have hlr := HL.out.keep (P' := gm wr S) (aF hbw hS) (fun _ _ h => h.keep (aF hbw hS))
      obtain ⟨g, o, op1, nm1, nd1, wA1, wn1, wc1, kA1, kn1, kc1, rfl, hSg, htm, k0, k1, k2, k3, k4, -⟩ := gV hlr hlt
      have hgs : g < wr.heap.size := World.block_lt_of_cell? wr _ k0
      have hkI : (k : Int) < (kids.length : Int) := by omega
      have hk0 : (0 : Int) ≤ (k : Int) := by omega
      have hmem : kids[k] ∈ kids := List.getElem_mem hlt
      have hts := bX hmem
      have hsn := Ee kids k hlt
      have hdn := Cm kids k hlt
      have htk := Ed kids (k + 1)
      have hdl := AX kids[k]
      have hdk := pR (kids.take k)
      have HC := Lib.hid (IH.out _ hmem _ wr S htm (fun g hg => by have := hS g hg; have := hbw.size; omega) (by omega))
      obtain ⟨a, ha⟩ : ∃ a, a = au kids[k] := ⟨_, rfl⟩
      obtain ⟨d, hd⟩ : ∃ d, d = dQ kids[k] := ⟨_, rfl⟩
      rw [← ha, ← hd] at HC
      rw [← ha] at hsn
      rw [← hd] at hdn
      obtain ⟨p, hp⟩ : ∃ p, p = 1 + nm.size + ws.length + aR (kids.take k) := ⟨_, rfl⟩
      obtain ⟨q, hq⟩ : ∃ q, q = fM (kids.take k) := ⟨_, rfl⟩
      have hpa : p + a ≤ 1000000000 := by omega
      have hqb : q ≤ 1000000000 := by omega
      have hdb : d ≤ 1000000000 := by omega
      have HSN := Lib.hid (show 1 + nm.size + ws.length + aR (kids.take (k + 1)) = p + a by omega)
      have HDN := Lib.hid (show fM (kids.take (k + 1)) = max q d by rw [hdn, hq])
      rw [← hp, ← hq]
      clear htm hlr hsn hdn htk hdl hdk ha hd hp hq hts
      by_cases hqd : q ≤ d
      · have m1 : (q : Int) ≤ (d : Int) := by omega
        have m2 : ¬ (d : Int) < (q : Int) := by omega
        have HM := Lib.hid (show max q d = d by omega)
        go_wp2_with fail
        refine HC.out.mono ?_
        rintro e W2 ⟨rfl, hb2⟩
        go_wp2
        go_roundw
        case rel => exact ⟨k + 1, by omega, by go_num, by rw [HSN.out]; go_num, by rw [HDN.out, HM.out]; congr 1; omega, hb.trans (hb2.mono (by omega))⟩
        case measure => simp [intOf]; omega
      · have m1 : ¬ (q : Int) ≤ (d : Int) := by omega
        have m2 : (d : Int) < (q : Int) := by omega
        have HM := Lib.hid (show max q d = q by omega)
        go_wp2_with fail
        refine HC.out.mono ?_
        rintro e W2 ⟨rfl, hb2⟩
        go_wp2
        go_roundw
        case rel => exact ⟨k + 1, by omega, by go_num, by rw [HSN.out]; go_num, by rw [HDN.out, HM.out]; congr 1; omega, hb.trans (hb2.mono (by omega))⟩
        case measure => simp [intOf]; omega
    · obtain rfl : k = kids.length := by omega
      have hkI : ¬ (kids.length : Int) < (kids.length : Int) := by omega
      rw [List.take_length]
      have hdl := pR kids
      obtain ⟨q, hq⟩ : ∃ q, q = fM kids := ⟨_, rfl⟩
      obtain ⟨p, hp⟩ : ∃ p, p = 1 + nm.size + ws.length + aR kids := ⟨_, rfl⟩
      have HSZ := Lib.hid (HSS.out.trans hp.symm)
      have HDZ := Lib.hid (show dQ (.mk op nm need ws kids) = q + 1 by rw [HDD.out, hq])
      have hqb : q ≤ 1000000000 := by omega
      rw [← hp, ← hq]
      clear hq hp hdl
      go_wp2
      go_ret2
      refine ⟨?_, hbw⟩
      rw [HSZ.out, HDZ.out]; rfl
theorem Cv (t : Tm) : SzOk t := by
  have : ∀ (n : Nat) (t : Tm), au t ≤ n → SzOk t := by
    intro n
    induction n with
    | zero =>
        intro t ht; have : 0 < au t := by (cases t; rw [au]; omega)
        omega
    | succ n ih => intro t ht; exact size_step t (fun k hk => ih k (by have := iC hk; omega))
  exact this _ t (Nat.le_refl _)
end Go.Proofs.YtbmglebipepdmaaGreatDoor
namespace Go.Proofs.YtbmglebipepdmaaGreatDoor
open Go.RowKit
set_option maxRecDepth 100000 in
set_option maxHeartbeats 4000000 in
theorem few_ref (l : List Dc) (A : Option Addr) (c : Nat) (w : World) (S : Nat → Prop) (hl : bG (jE w S) w S 22 A l) (hS : ∀ g, S g → g < w.heap.size) (hsz : (l.map d9).sum ≤ 1100000) :
    Calls Tryz.prog 11 #[.slice A l.length c] w fun e w' => e = .returned (.bool (decide ((l.map dF).sum ≤ 10000))) ∧ Below w.heap.size w w' := by
  have HL := Lib.hid hl
  have hll := uh l
  have hlb : l.length ≤ 1100000 := by omega
  have hfd := few_dc l
  have hfb : (l.map dF).sum ≤ 11000000 := by omega
  have HFB := Lib.hid (show ∀ k, ((l.take k).map dF).sum ≤ 11000000 from fun k => by have := Io l k; omega)
  clear hl hsz hll hfd
  go_enter Tryz.func11, Tryz.ntmps11
  go_wp2
  go_loopw [3, 4] (fun n x wr => ∃ k : Nat, k ≤ l.length ∧ x = .int .i64 k ∧ n = .int .i64 (((l.take k).map dF).sum : Nat) ∧ Below w.heap.size w wr) (fun _ x _ => l.length - (intOf x).toNat)
  case atStart => exact ⟨0, Nat.zero_le _, rfl, rfl, Below.refl _ _⟩
  case round =>
    obtain ⟨k, hk, rfl, rfl, hb⟩ := hrel
    have hsr := hb.size
    by_cases hlt : k < l.length
    · obtain ⟨g, o, v, rfl, hSg, hp, hc⟩ := iM (fun _ _ h => qB h) (HL.out.keep (P' := jE wr S) (aF hb hS) (fun _ _ h => h.keep (aF hb hS))) hlt
      have hgs : g < wr.heap.size := by have := hS g hSg; omega
      have hkI : (k : Int) < (l.length : Int) := by omega
      have hk0 : (0 : Int) ≤ (k : Int) := by omega
      have hft := few_take l k hlt
      have hfk := HFB.out (k + 1)
      rw [hft] at hfk
      generalize l[k] = d at hp hft hfk
      obtain ⟨kind, line, name, names, faults, term, proto, read, write, use⟩ := d
      obtain ⟨nA, nc, fA, fc, vt, vr, vw, rfl, h1, h2, h3, h4, h5, h6, h7⟩ := hp
      obtain ⟨o1, m1, d1, wA1, wn1, wc1, kA1, kn1, kc1, rfl⟩ := h5.form
      obtain ⟨o2, m2, d2, wA2, wn2, wc2, kA2, kn2, kc2, rfl⟩ := h6.form
      obtain ⟨o3, m3, d3, wA3, wn3, wc3, kA3, kn3, kc3, rfl⟩ := h7.form
      simp only at h5 h6 h7
      have hfs : dF ⟨kind, line, name, names, faults, term, proto, read, write, use⟩ = au term + au read + au write + name.size + names.length + 10 * faults.length + proto.size + use.size := rfl
      rw [hfs] at hft hfk
      have hc2 : ∀ (j : Nat) (u : Value), ([.int .i64 kind, .int .i64 line, .string name, .slice nA names.length nc, .slice fA faults.length fc, .int .i64 o1, .string m1, .int .i64 d1, .slice wA1 wn1 wc1, .slice kA1 kn1 kc1, .string proto, .int .i64 o2, .string m2, .int .i64 d2, .slice wA2 wn2 wc2, .slice kA2 kn2 kc2, .int .i64 o3, .string m3, .int .i64 d3, .slice wA3 wn3 wc3, .slice kA3 kn3 kc3, .string use] : List Value)[j]? = some u → wr.cell? ⟨g, o + k * 22 + j, none⟩ = some u := fun j u hu => hc j u (by simpa [cellsOf, Value.cells] using hu)
      have hSW : ∀ (W : World), Below wr.heap.size wr W → ∀ g, S g → g < W.heap.size := fun W hW g hg => by have := hS g hg; have := hW.size; omega
      have e1 : au term ≤ 11000000 := by omega
      have e2 : au read ≤ 11000000 := by omega
      have e3 : au write ≤ 11000000 := by omega
      have hs1 := fun (W : World) (hW : Below wr.heap.size wr W) => Cv term _ W S (h5.keep (aW hW)) (hSW W hW) (by omega)
      have hs2 := fun (W : World) (hW : Below wr.heap.size wr W) => Cv read _ W S (h6.keep (aW hW)) (hSW W hW) (by omega)
      have hs3 := fun (W : World) (hW : Below wr.heap.size wr W) => Cv write _ W S (h7.keep (aW hW)) (hSW W hW) (by omega)
      obtain ⟨z1, y1⟩ : ∃ z, z = au term := ⟨_, rfl⟩
      obtain ⟨z2, y2⟩ : ∃ z, z = au read := ⟨_, rfl⟩
      obtain ⟨z3, y3⟩ : ∃ z, z = au write := ⟨_, rfl⟩
      simp only [← y1] at hs1
      simp only [← y2] at hs2
      simp only [← y3] at hs3
      rw [← y1, ← y2, ← y3] at hft hfk
      have HS1 := Lib.hid hs1
      have HS2 := Lib.hid hs2
      have HS3 := Lib.hid hs3
      obtain ⟨p, hp⟩ : ∃ p, p = ((l.take k).map dF).sum := ⟨_, rfl⟩
      rw [← hp] at hft hfk
      rw [← hp]
      have HSN := Lib.hid hft
      have p1 : p ≤ 11000000 := by omega
      have p2 : z1 ≤ 11000000 := by omega
      have p3 : z2 ≤ 11000000 := by omega
      have p4 : z3 ≤ 11000000 := by omega
      have p5 : name.size ≤ 11000000 := by omega
      have p6 : names.length ≤ 11000000 := by omega
      have p7 : faults.length ≤ 11000000 := by omega
      have p8 : proto.size ≤ 11000000 := by omega
      have p9 : use.size ≤ 11000000 := by omega
      clear hft hfk hfs hs1 hs2 hs3 h1 h2 h3 h4 h5 h6 h7 hc y1 y2 y3 hp e1 e2 e3
      have HC := Lib.hid hc2
      have a5 : wr.cell? ⟨g, o + k * 22 + 5, none⟩ = some (.int .i64 o1) := HC.out 5 _ rfl
      have a6 : wr.cell? ⟨g, o + k * 22 + 6, none⟩ = some (.string m1) := HC.out 6 _ rfl
      have a7 : wr.cell? ⟨g, o + k * 22 + 7, none⟩ = some (.int .i64 d1) := HC.out 7 _ rfl
      have a8 : wr.cell? ⟨g, o + k * 22 + 8, none⟩ = some (.slice wA1 wn1 wc1) := HC.out 8 _ rfl
      have a9 : wr.cell? ⟨g, o + k * 22 + 9, none⟩ = some (.slice kA1 kn1 kc1) := HC.out 9 _ rfl
      go_wp2_with fail
      refine (HS1.out wr (Below.refl _ _)).mono ?_
      rintro e W1 ⟨rfl, hb1⟩
      clear a5 a6 a7 a8 a9
      have b11 : W1.cell? ⟨g, o + k * 22 + 11, none⟩ = some (.int .i64 o2) := (hb1.cell (p := ⟨g, o + k * 22 + 11, none⟩) hgs).trans (HC.out 11 _ rfl)
      have b12 : W1.cell? ⟨g, o + k * 22 + 12, none⟩ = some (.string m2) := (hb1.cell (p := ⟨g, o + k * 22 + 12, none⟩) hgs).trans (HC.out 12 _ rfl)
      have b13 : W1.cell? ⟨g, o + k * 22 + 13, none⟩ = some (.int .i64 d2) := (hb1.cell (p := ⟨g, o + k * 22 + 13, none⟩) hgs).trans (HC.out 13 _ rfl)
      have b14 : W1.cell? ⟨g, o + k * 22 + 14, none⟩ = some (.slice wA2 wn2 wc2) := (hb1.cell (p := ⟨g, o + k * 22 + 14, none⟩) hgs).trans (HC.out 14 _ rfl)
      have b15 : W1.cell? ⟨g, o + k * 22 + 15, none⟩ = some (.slice kA2 kn2 kc2) := (hb1.cell (p := ⟨g, o + k * 22 + 15, none⟩) hgs).trans (HC.out 15 _ rfl)
      go_wp2_with fail
      refine (HS2.out W1 hb1).mono ?_
      rintro e W2 ⟨rfl, hb2⟩
      have hx2 : Below wr.heap.size wr W2 := hb1.trans (hb2.mono hb1.size)
      clear b11 b12 b13 b14 b15
      have e16 : W2.cell? ⟨g, o + k * 22 + 16, none⟩ = some (.int .i64 o3) := (hx2.cell (p := ⟨g, o + k * 22 + 16, none⟩) hgs).trans (HC.out 16 _ rfl)
      have e17 : W2.cell? ⟨g, o + k * 22 + 17, none⟩ = some (.string m3) := (hx2.cell (p := ⟨g, o + k * 22 + 17, none⟩) hgs).trans (HC.out 17 _ rfl)
      have e18 : W2.cell? ⟨g, o + k * 22 + 18, none⟩ = some (.int .i64 d3) := (hx2.cell (p := ⟨g, o + k * 22 + 18, none⟩) hgs).trans (HC.out 18 _ rfl)
      have e19 : W2.cell? ⟨g, o + k * 22 + 19, none⟩ = some (.slice wA3 wn3 wc3) := (hx2.cell (p := ⟨g, o + k * 22 + 19, none⟩) hgs).trans (HC.out 19 _ rfl)
      have e20 : W2.cell? ⟨g, o + k * 22 + 20, none⟩ = some (.slice kA3 kn3 kc3) := (hx2.cell (p := ⟨g, o + k * 22 + 20, none⟩) hgs).trans (HC.out 20 _ rfl)
      go_wp2_with fail
      refine (HS3.out W2 hx2).mono ?_
      rintro e W3 ⟨rfl, hb3⟩
      have hx3 : Below wr.heap.size wr W3 := hx2.trans (hb3.mono hx2.size)
      have hgs3 : g < W3.heap.size := Nat.lt_of_lt_of_le hgs hx3.size
      clear e16 e17 e18 e19 e20
      have f2 : W3.cell? ⟨g, o + k * 22 + 2, none⟩ = some (.string name) := (hx3.cell (p := ⟨g, o + k * 22 + 2, none⟩) hgs).trans (HC.out 2 _ rfl)
      have f3 : W3.cell? ⟨g, o + k * 22 + 3, none⟩ = some (.slice nA names.length nc) := (hx3.cell (p := ⟨g, o + k * 22 + 3, none⟩) hgs).trans (HC.out 3 _ rfl)
      have f4 : W3.cell? ⟨g, o + k * 22 + 4, none⟩ = some (.slice fA faults.length fc) := (hx3.cell (p := ⟨g, o + k * 22 + 4, none⟩) hgs).trans (HC.out 4 _ rfl)
      have f10 : W3.cell? ⟨g, o + k * 22 + 10, none⟩ = some (.string proto) := (hx3.cell (p := ⟨g, o + k * 22 + 10, none⟩) hgs).trans (HC.out 10 _ rfl)
      have f21 : W3.cell? ⟨g, o + k * 22 + 21, none⟩ = some (.string use) := (hx3.cell (p := ⟨g, o + k * 22 + 21, none⟩) hgs).trans (HC.out 21 _ rfl)
      go_upto_region 8 with fail
      go_quiet (fail)
      go_wp2
      go_roundw
      case rel =>
        refine ⟨k + 1, by omega, by go_num, ?_, below_drewN (hb.trans (hx3.mono hsr)) _⟩
        rw [HSN.out]
        go_num
      case measure => simp [intOf]; omega
    · obtain rfl : k = l.length := by omega
      have hkI : ¬ (l.length : Int) < (l.length : Int) := by omega
      rw [List.take_length]
      obtain ⟨n, hn⟩ : ∃ n, n = (l.map dF).sum := ⟨_, rfl⟩
      rw [← hn]
      have HN := Lib.hid hn
      rw [← hn] at hfb
      clear hn
      go_wp2
      go_ret
      refine ⟨?_, hb⟩
      show Ending.returned (.bool (decide ((n : Int) ≤ 10000))) = _
      rw [show decide ((n : Int) ≤ 10000) = decide (n ≤ 10000) by rw [Bool.eq_iff_iff, decide_eq_true_iff, decide_eq_true_iff]; omega, HN.out]
end Go.Proofs.YtbmglebipepdmaaGreatDoor
namespace Go.Proofs.YtbmglebipepdmaaGreatDoor
open Go.RowKit
end Go.Proofs.YtbmglebipepdmaaGreatDoor
namespace Go.Proofs.YtbmglebipepdmaaGreatDoor
open Go.RowKit
theorem BH {w : World} {b : Nat} {v0 v1 v2 v3 v4 : Value} {t : TypeId} (h : w.heap[b]? = some (.cells #[v0, v1, v2, v3, v4] t (0, 0))) : w.cell? ⟨b, 0, none⟩ = some v0 ∧ w.cell? ⟨b, 1, none⟩ = some v1 ∧ w.cell? ⟨b, 2, none⟩ = some v2 ∧ w.cell? ⟨b, 3, none⟩ = some v3 ∧ w.cell? ⟨b, 4, none⟩ = some v4 := by
  obtain ⟨h0, h1, h2, h3, h4, -⟩ := iH h
  exact ⟨h0, h1, h2, h3, h4⟩
theorem sum_takeA {α : Type} (f : α → Nat) (l : List α) (k : Nat) : ((l.take k).map f).sum ≤ (l.map f).sum := by
  conv => rhs; rw [← List.take_append_drop k l, List.map_append, List.sum_append]
  omega
theorem pu {α β : Type} (f : α → List β) (l : List α) (k : Nat) : ((l.take k).flatMap f).length ≤ (l.flatMap f).length := by
  conv => rhs; rw [← List.take_append_drop k l, List.flatMap_append, List.length_append]
  omega
end Go.Proofs.YtbmglebipepdmaaGreatDoor
namespace Go.Proofs.YtbmglebipepdmaaGreatDoor
open Go.RowKit
def lZ (t : List (ByteArray × Int)) : List Value := t.flatMap fun p => [.string p.1, .int .i64 p.2]
theorem yY (t : List (ByteArray × Int)) (p : ByteArray × Int) : lZ (t ++ [p]) = lZ t ++ [.string p.1, .int .i64 p.2] := by simp [lZ]
theorem KG : ∀ (t : List (ByteArray × Int)) (k : Nat) (h : k < t.length), (lZ t)[k * 2]? = some (.string t[k].1) ∧ (lZ t)[k * 2 + 1]? = some (.int .i64 t[k].2) := by
  intro t
  induction t with
  | nil => intro k h; simp at h
  | cons p r ih =>
    intro k h
    cases k with
    | zero => exact ⟨rfl, rfl⟩
    | succ k =>
      have := ih k (by simpa using h)
      have e : lZ (p :: r) = .string p.1 :: .int .i64 p.2 :: lZ r := rfl
      rw [e, show (k + 1) * 2 = k * 2 + 1 + 1 by omega]
      simpa using this
theorem Bw : (Tryz.prog.info? 116).map (fun i => (i.zero, i.size, i.bytes)) = some (some (.agg #[.string ByteArray.empty, .int .i64 0]), 2, 24) := by kernel_rfl
theorem Ky (w : World) {ops : Array Oper} {rest : List Oper} {o : Oper} {a : Act} {Q : Exit → Act → World → Prop} (hgd : o.guard = none) (s x : Operand)
    (ho : o.op = .call { callee := .builtin .append, args := #[s, x], argTypes := #[85, 85] })
    (base : Nat) (v : Value) (n : Nat) (xs : List Value) (hown : w.ownsRow base 116 2 v n xs) (hs : a.eval s = v)
    (u : ByteArray) (k : Int) (hx : a.eval x = .slice (some ⟨w.heap.size, 0, none⟩) 1 1)
    (hlim : n ≤ 1000000000) (hbase : base ≤ w.heap.size)
    (h : ∀ v' w', w'.ownsRow base 116 2 v' (n + 1) (xs ++ [.string u, .int .i64 k]) → w.grownBy w' v.ownBlock → (v'.ownBlock = v.ownBlock ∨ v'.ownBlock = some (w.heap.size + 1)) → wpList Tryz.prog ops Q rest (a.put o.dst v') w') :
    wpList Tryz.prog ops Q (o :: rest) a (w.alloc (.cells #[.string u, .int .i64 k] 116)) := by
  obtain ⟨i0, hi, hz0, hz1, hz2⟩ := info_parts Bw
  exact iT w hgd s x _ ho base 116 i0 _ 2 24 Tryz.underlying85 hi hz0 hz1 hz2 rfl (by decide) v n xs hown hs [.string u, .int .i64 k] hx rfl (by simp [Value.oneCell']) (by omega) (by omega) hbase h
theorem Kq (w : World) {ops : Array Oper} {o : Oper} {a : Act} {K : Act → World → Prop} {Q : Exit → Act → World → Prop} {E : Prop} (hgd : o.guard = none) (s x : Operand)
    (ho : o.op = .call { callee := .builtin .append, args := #[s, x], argTypes := #[85, 85] })
    (base : Nat) (v : Value) (n : Nat) (xs : List Value) (hown : w.ownsRow base 116 2 v n xs) (hs : a.eval s = v)
    (g cc : Nat) (u : ByteArray) (k : Int)
    (hblk : w.heap[g]? = some (.cells #[.string u, .int .i64 k] 116 (0, 0))) (hx : a.eval x = .slice (some ⟨g, 0, none⟩) 1 cc)
    (hlim : n ≤ 1000000000) (hbase : base ≤ w.heap.size)
    (h : ∀ v' w', w'.ownsRow base 116 2 v' (n + 1) (xs ++ [.string u, .int .i64 k]) → w.grownBy w' v.ownBlock → K (a.put o.dst v') w') :
    if Region.wanted o (yielded ops a.tmps) = true then Oper.wp Tryz.prog o a w K Q else E := by
  obtain ⟨i0, hi, hz0, hz1, hz2⟩ := info_parts Bw
  have hcell : ∀ j u', [Value.string u, .int .i64 k][j]? = some u' → w.cell? ((⟨g, 0, none⟩ : Addr).add j) = some u' := by
    intro j u' hu
    have hadd : (⟨g, 0, none⟩ : Addr).add j = ⟨g, j, none⟩ := by unfold Addr.add; split <;> simp_all
    rw [hadd, cell_of_row _ g j _ _ (0, 0) hblk]
    simpa using hu
  refine step_append_lies w hgd s x _ ho base 116 i0 _ 2 24 Tryz.underlying85 hi hz0 hz1 hz2 rfl (by decide) v n xs hs hown ⟨g, 0, none⟩ 1 cc _ hx rfl hcell (by simp [Value.oneCell']) (by omega) (by unfold maxLen; omega) (by omega) hbase w.heap.size rfl ?_
  intro g' cap w' h2 h3 h4 _
  exact h _ w' h2 h3

set_option maxRecDepth 100000 in
set_option maxHeartbeats 1000000 in
theorem kind_ref (d : Dc) (v : Value) (w : World) (S : Nat → Prop) (hd : jE w S d v) :
    Calls Tryz.prog 51 #[v] w fun e w' => e = .returned (.int .i64 (jl d.kind)) ∧ Below w.heap.size w w' := by
  obtain ⟨cs, nA, nc, hcl, hone, rfl, c0, -⟩ := rC hd
  have e0 : (w.alloc (.cells cs.toArray 41)).cell? ⟨w.heap.size, 0, none⟩ = some (.int .i64 d.kind) := rE (heap_alloc_new w _) c0
  have hfin := (Below.refl w.heap.size w).alloc (Nat.le_refl _) (.cells cs.toArray 41)
  obtain ⟨k, hk⟩ : ∃ k, k = d.kind := ⟨_, rfl⟩
  rw [← hk] at e0 ⊢
  clear hd c0 hcl hone hk
  by_cases h1 : k = 1
  · subst h1
    go_enter Tryz.func51, Tryz.ntmps51
    go_wp2
    go_ret
    exact ⟨rfl, hfin⟩
  by_cases h2 : k = 2
  · subst h2
    go_enter Tryz.func51, Tryz.ntmps51
    go_wp2
    go_ret
    exact ⟨rfl, hfin⟩
  by_cases h3 : k = 3
  · subst h3
    go_enter Tryz.func51, Tryz.ntmps51
    go_wp2
    go_ret
    exact ⟨rfl, hfin⟩
  by_cases h4 : k = 4
  · subst h4
    go_enter Tryz.func51, Tryz.ntmps51
    go_wp2
    go_ret
    exact ⟨rfl, hfin⟩
  by_cases h6 : k = 6
  · subst h6
    go_enter Tryz.func51, Tryz.ntmps51
    go_wp2
    go_ret
    exact ⟨rfl, hfin⟩
  have q1 : (k == (1 : Int)) = false := by rw [beq_eq_false_iff_ne]; exact h1
  have q2 : (k == (2 : Int)) = false := by rw [beq_eq_false_iff_ne]; exact h2
  have q3 : (k == (3 : Int)) = false := by rw [beq_eq_false_iff_ne]; exact h3
  have q4 : (k == (4 : Int)) = false := by rw [beq_eq_false_iff_ne]; exact h4
  have q6 : (k == (6 : Int)) = false := by rw [beq_eq_false_iff_ne]; exact h6
  have HK := Lib.hid (show jl k = 0 by unfold jl; rw [if_neg h1, if_neg h2, if_neg h3, if_neg h4, if_neg h6])
  clear h1 h2 h3 h4 h6
  go_enter Tryz.func51, Tryz.ntmps51
  go_wp2
  go_ret
  exact ⟨by rw [HK.out]; rfl, hfin⟩

section
variable {t : List (ByteArray × Int)} {A : Option Addr} {w : World} {S : Nat → Prop}
theorem Hu (h : aV w S 2 A t.length (lZ t)) {k : Nat} (hk : k < t.length) : ∃ g o, A = some ⟨g, o, none⟩ ∧ w.cell? ⟨g, o + k * 2, none⟩ = some (.string t[k].1) ∧ w.cell? ⟨g, o + k * 2 + 1, none⟩ = some (.int .i64 t[k].2) := by
  obtain ⟨g, o, e, -, hc⟩ := h.cells (by omega)
  obtain ⟨h1, h2⟩ := KG t k hk
  exact ⟨g, o, e, hc _ _ h1, by rw [Nat.add_assoc]; exact hc _ _ h2⟩
theorem ba_tl (a b : ByteArray) : (a == b) = (a.toList == b.toList) := by
  rw [Bool.eq_iff_iff, gY, beq_iff_eq, ByteArray.toList_eq, ByteArray.toList_eq]
  exact ⟨fun h => by rw [h], fun h => ByteArray.ext (Array.toList_inj.1 h)⟩
theorem Lj (t : List (ByteArray × Int)) (k : Nat) (h : k < t.length) (x : ByteArray) : eZ (t.drop k) x = if t[k].1 == x then t[k].2 else eZ (t.drop (k + 1)) x := by
  rw [List.drop_eq_getElem_cons h, eZ]
set_option maxRecDepth 100000 in
set_option maxHeartbeats 1000000 in
theorem find_ref (hs : aV w S 2 A t.length (lZ t)) (c : Nat) (x : ByteArray) (hl : t.length ≤ 1000000000) :
    Calls Tryz.prog 54 #[.slice A t.length c, .string x] w fun e w' => e = .returned (.int .i64 (eZ t x)) ∧ w = w' := by
  have HS := Lib.hid hs
  obtain ⟨r, hr⟩ : ∃ r, r = eZ t x := ⟨_, rfl⟩
  have HR0 := Lib.hid (show r = eZ (t.drop 0) x by rw [List.drop_zero]; exact hr)
  rw [← hr]
  clear hs hr
  go_enter Tryz.func54, Tryz.ntmps54
  go_wp2
  go_loop [5] (fun i => ∃ k : Nat, k ≤ t.length ∧ i = .int .i64 k ∧ Hid (r = eZ (t.drop k) x)) (fun i => t.length - (intOf i).toNat)
  case atStart => exact ⟨0, Nat.zero_le _, rfl, HR0⟩
  case round =>
    obtain ⟨k, hk, rfl, hr⟩ := hrel
    by_cases hlt : k < t.length
    · obtain ⟨g, o, rfl, k0, k1⟩ := Hu HS.out hlt
      have hd := Lj t k hlt x
      obtain ⟨p, hp⟩ : ∃ p, p = t[k] := ⟨_, rfl⟩
      rw [← hp] at k0 k1 hd
      obtain ⟨p1, p2⟩ := p
      simp only at k0 k1 hd
      have hkI : (k : Int) < (t.length : Int) := by omega
      have hk0 : (0 : Int) ≤ (k : Int) := by omega
      clear hp
      rw [ba_tl] at hd
      cases hq : (p1.toList == x.toList)
      · have HR := Lib.hid (show r = eZ (t.drop (k + 1)) x by have := hr.out; rw [hd, hq] at this; exact this)
        clear hd hr
        go_wp2
        go_round
        case rel => exact ⟨k + 1, by omega, by go_num, HR⟩
        case measure => simp [intOf]; omega
      · have HR := Lib.hid (show r = p2 by have := hr.out; rw [hd, hq] at this; exact this)
        clear hd hr
        go_wp2
        go_ret
        exact ⟨by rw [HR.out]; rfl, rfl⟩
    · obtain rfl : k = t.length := by omega
      have hkI : ¬ (t.length : Int) < (t.length : Int) := by omega
      have HR := Lib.hid (show r = 0 by have := hr.out; rw [List.drop_length] at this; exact this)
      clear hr
      go_wp2
      go_ret
      exact ⟨by rw [HR.out]; rfl, rfl⟩
end
end Go.Proofs.YtbmglebipepdmaaGreatDoor
namespace Go.Proofs.YtbmglebipepdmaaGreatDoor
open Go.RowKit
/-- What Table returns. -/
def TabPost (l : List Dc) (w : World) (e : Ending) (w' : World) : Prop := ∃ v, e = .returned v ∧ w'.ownsRow w.heap.size 116 2 v (tab l).length (lZ (tab l)) ∧ Below w.heap.size w w'
theorem Jo (l : List Dc) (d : Dc) : tab (l ++ [d]) = tab l ++ BP d := by unfold tab; rw [List.flatMap_append]; simp
attribute [local go_sem ↓] wL in
set_option maxRecDepth 100000 in
set_option maxHeartbeats 8000000 in
theorem table_ref (l : List Dc) (A : Option Addr) (c : Nat) (w : World) (S : Nat → Prop) (hl : bG (jE w S) w S 22 A l) (hS : ∀ g, S g → g < w.heap.size) (hsz : (tab l).length ≤ 100000000) (hll : l.length ≤ 100000000) :
    Calls Tryz.prog 55 #[.slice A l.length c] w (TabPost l w) := by
  have HL := Lib.hid hl
  clear hl
  go_enter Tryz.func55, Tryz.ntmps55
  go_wp2
  go_loopw [3, 4] (fun v x wr => ∃ k : Nat, k ≤ l.length ∧ x = .int .i64 k ∧ wr.ownsRow w.heap.size 116 2 v (tab (l.take k)).length (lZ (tab (l.take k))) ∧ Below w.heap.size w wr) (fun _ x _ => l.length - (intOf x).toNat)
  case atStart => exact ⟨0, Nat.zero_le _, rfl, World.ownsRow_nil _ _ _ _, Below.refl _ _⟩
  case round =>
    obtain ⟨k, hk, rfl, hown, hb⟩ := hrel
    have hsr := hb.size
    by_cases hlt : k < l.length
    · obtain ⟨g, o, v2, rfl, hSg, hp, hc⟩ := iM (fun _ _ h => qB h) HL.out hlt
      have hgs : g < w.heap.size := hS g hSg
      obtain ⟨d, hd⟩ : ∃ d, d = l[k] := ⟨_, rfl⟩
      have htk := A8 l k hlt
      rw [← hd] at hp htk
      have hq2 := pu BP l (k + 1)
      have hq3 : (tab (l.take (k + 1))).length ≤ 100000000 := Nat.le_trans hq2 hsz
      rw [htk, Jo, List.length_append] at hq3
      have hp2 := hp
      obtain ⟨cs, nA, nc, hcl, hone, rfl, c0, -, c2, c3, -, hsn, hnc⟩ := rC hp2
      have hrange : w.rangeAt g (o + k * 22) cs := fun j u hu => hc j u (by simpa [cellsOf, Value.cells] using hu)
      have hrr : wr.rangeAt g (o + k * 22) cs := xR hrange hb hgs
      have BA : (Tryz.prog.info? 41).map (·.size) = some cs.length := by rw [hcl]; exact fP
      have HRG := Lib.hid (show ∀ W, Below w.heap.size w W → W.rangeAt g (o + k * 22) cs from fun W hW => xR hrange hW hgs)
      have HKD := Lib.hid (fun (W : World) (hW : Below w.heap.size w W) => kind_ref d _ W S (hp.keep (aF hW hS)))
      have HCL := Lib.hid hcl
      have hkI : (k : Int) < (l.length : Int) := by omega
      have hk0 : (0 : Int) ≤ (k : Int) := by omega
      obtain ⟨cur, hcur⟩ : ∃ cur, cur = tab (l.take k) := ⟨_, rfl⟩
      have HTK := Lib.hid (show tab (l.take (k + 1)) = cur ++ BP d by rw [htk, Jo, hcur])
      rw [← hcur] at hown hq3
      have C0 := Lib.hid c0
      have C2 := Lib.hid c2
      have C3 := Lib.hid c3
      have HSN := Lib.hid hsn
      clear hcur hp htk hd hc hcl c0 c2 c3 hone hsn hq2
      by_cases hz : jl d.kind = 0
      · have HN := Lib.hid (show BP d = [] by unfold BP; rw [if_pos hz, if_neg (fun h => by rw [h] at hz; exact absurd hz (by decide))]; rfl)
        obtain ⟨kd, hkd⟩ : ∃ kd, kd = jl d.kind := ⟨_, rfl⟩
        rw [← hkd] at HKD hz
        subst hz
        clear hkd
        go_wp2_with (first | (with_reducible refine wpList_load_mid rfl 41 (.tmp 14) rfl g (o + k * 22) rfl cs _ hrr Tryz.underlying41 rfl BA ?_) | (go_at_call 51; refine (HKD.out wr hb).mono ?_; rintro e w3 ⟨rfl, hb3⟩))
        go_roundw
        case rel =>
          refine ⟨k + 1, by omega, by go_num, ?_, hb.trans (hb3.mono hsr)⟩
          rw [HTK.out, HN.out, List.append_nil]
          exact own_below hown hb3 (Nat.le_refl _)
        case measure => simp [intOf]; omega
      · have hzb : (jl d.kind == (0 : Int)) = false := by rw [beq_eq_false_iff_ne]; exact hz
        obtain ⟨kd, hkd⟩ : ∃ kd, kd = jl d.kind := ⟨_, rfl⟩
        have HDT := Lib.hid (show BP d = [(d.name, kd)] ++ (if d.kind = 1 then d.names.map (fun x => (x, 2)) else []) by rw [hkd]; unfold BP; rw [if_neg hz])
        rw [HDT.out] at hq3
        rw [← hkd] at HKD hzb
        clear hkd hz
        have hql : cur.length + 1 ≤ 100000000 := by rw [List.length_append] at hq3; simp at hq3; omega
        go_upto_region 6 with (first | (with_reducible refine wpList_load_mid rfl 41 (.tmp 14) rfl g (o + k * 22) rfl cs _ hrr Tryz.underlying41 rfl BA ?_) | (go_at_call 51; refine (HKD.out wr hb).mono ?_; rintro e w3 ⟨rfl, hb3⟩))
        have hb3w : Below w.heap.size w w3 := hb.trans (hb3.mono hsr)
        have hown3 := own_below hown hb3 (Nat.le_refl _)
        have hs3 := hb3w.size
        clear hown hrr
        go_cut [3] (fun s3 wx => wx.ownsRow w.heap.size 116 2 s3 (cur.length + 1) (lZ (cur ++ [(d.name, kd)])) ∧ Below w.heap.size w wx)
        case first =>
          have ra := fun (W : World) (h : W.rangeAt g (o + k * 22) cs) => uL W g (o + k * 22) _ h HCL.out
          have KP := Lib.hid (fun (W : World) (hW : Below w.heap.size w W) => show W.rangeAt g (o + k * 22) cs ∧ W.cell? ⟨g, o + k * 22 + 2, none⟩ = some (.string d.name) from ⟨HRG.out W hW, HRG.out W hW 2 _ C2.out⟩)
          have hr3 : w3.rangeAt g (o + k * 22) cs := HRG.out w3 hb3w
          have e2 : w3.cell? ⟨g, o + k * 22 + 2, none⟩ = some (.string d.name) := hr3 2 _ C2.out
          have HP1 := Lib.hid (fun (W : World) (v : Value) (h : W.ownsRow w.heap.size 116 2 v (cur.length + 1) (lZ cur ++ [.string d.name, .int .i64 kd])) => show W.ownsRow w.heap.size 116 2 v (cur.length + 1) (lZ (cur ++ [(d.name, kd)])) by rw [yY]; exact h)
          clear hrange hp2 hb hb3 BA hzb
          go_region_held3 (fun w' => w'.rangeAt g (o + k * 22) cs ∧ w'.cell? ⟨g, o + k * 22 + 2, none⟩ = some (.string d.name)) (first | exact ⟨hr3, e2⟩ | exact hkeep4 | exact hkeep5 | exact hkeep6 | go_keep)
            (first | (go_at_call 51; (refine (HKD.out _ (below_drewN hb3w _)).mono ?_; rintro e w4 ⟨rfl, hb4⟩; have Al : Below w.heap.size w w4 := (below_drewN hb3w _).trans (hb4.mono (show w.heap.size ≤ w3.heap.size from hs3)); have hkeep4 := KP.out w4 Al; have kS := own_below (own_drewN hown3 _) hb4 (Nat.le_refl _); have hs4 := Al.size; have hkeep5 := KP.out _ (Al.trans ((Below.refl _ _).alloc hs4 (.cells #[.string d.name, .int .i64 kd] 116 (0, 0)))))) | (refine Kq _ rfl (.tmp 18) (.tmp 30) rfl w.heap.size _ _ _ (kS.alloc _) rfl _ _ d.name kd (heap_alloc_new w4 _) rfl (by omega) (by simp; omega) ?_; intro v5 w5 hown5 hg5; have hb5 : Below w.heap.size w w5 := (Al.trans ((Below.refl _ _).alloc hs4 (.cells #[.string d.name, .int .i64 kd] 116 (0, 0)))).trans (bH (kS.alloc _) hg5 (by simp; omega)); have hkeep6 := KP.out w5 hb5))
          all_goals (
            go_wp2
            go_meet
            exact ⟨HP1.out _ _ hown5, hb5⟩)
        case rest =>
          obtain ⟨hown1, hb1⟩ := hcut
          obtain ⟨W1, hW1⟩ : ∃ W1 : World, W1 = wc := ⟨_, rfl⟩
          rw [← hW1] at hown1 hb1
          rw [← hW1]
          clear hW1 hb hb3 hown3 hb3w hs3 hsr
          have hs1 := hb1.size
          have e0 : W1.cell? ⟨g, o + k * 22, none⟩ = some (.int .i64 d.kind) := HRG.out W1 hb1 0 _ C0.out
          have e3 : W1.cell? ⟨g, o + k * 22 + 3, none⟩ = some (.slice nA d.names.length nc) := HRG.out W1 hb1 3 _ C3.out
          by_cases hk1 : d.kind = 1
          · have HD1 := Lib.hid (show BP d = [(d.name, kd)] ++ d.names.map (fun x => (x, 2)) by rw [HDT.out, if_pos hk1])
            rw [if_pos hk1] at hq3
            have hkb : (d.kind == (1 : Int)) = true := by rw [hk1]; rfl
            have hnl : cur.length + 1 + d.names.length ≤ 100000000 := by rw [List.length_append, List.length_map] at hq3; simp at hq3; omega
            clear hk1 hq3
            go_wp2_with fail
            clear e0 e3
            go_loopw [3, 5] (fun v x wi => ∃ j : Nat, j ≤ d.names.length ∧ x = .int .i64 j ∧ wi.ownsRow w.heap.size 116 2 v (cur.length + 1 + j) (lZ (cur ++ [(d.name, kd)] ++ (d.names.take j).map (fun x => (x, 2)))) ∧ Below w.heap.size w wi) (fun _ x _ => d.names.length - (intOf x).toNat)
            case atStart => exact ⟨0, Nat.zero_le _, rfl, by simpa using hown1, hb1⟩
            case round =>
              obtain ⟨j, hj, rfl, hownj, hbj⟩ := hrel
              have hsj := hbj.size
              have e0 : wr.cell? ⟨g, o + k * 22, none⟩ = some (.int .i64 d.kind) := HRG.out wr hbj 0 _ C0.out
              have e3 : wr.cell? ⟨g, o + k * 22 + 3, none⟩ = some (.slice nA d.names.length nc) := HRG.out wr hbj 3 _ C3.out
              by_cases hltj : j < d.names.length
              · obtain ⟨g2, o2, rfl, hSg2, hcn⟩ := one_cell (HSN.out.keep (aF hbj hS)) hltj
                have hjI : (j : Int) < (d.names.length : Int) := by omega
                have hj0 : (0 : Int) ≤ (j : Int) := by omega
                obtain ⟨x, hx⟩ : ∃ x, x = d.names[j] := ⟨_, rfl⟩
                rw [← hx] at hcn
                have HNX := Lib.hid (show cur ++ [(d.name, kd)] ++ (d.names.take (j + 1)).map (fun x => (x, (2 : Int))) = (cur ++ [(d.name, kd)] ++ (d.names.take j).map (fun x => (x, 2))) ++ [(x, 2)] by rw [List.take_succ_eq_append_getElem hltj, ← hx, List.map_append, ← List.append_assoc]; rfl)
                clear hx
                go_wp2_with (at_builtin; refine Ky wr rfl (.tmp 50) (.tmp 60) rfl w.heap.size _ _ _ hownj rfl x 2 rfl (by omega) hsj ?_; intro v' w' hown' hg' hv')
                go_roundw
                case rel =>
                  refine ⟨j + 1, by omega, by go_num, ?_, hbj.trans (bH hownj hg' hsj)⟩
                  rw [HNX.out, yY]
                  exact hown'
                case measure => simp [intOf]; omega
              · obtain rfl : j = d.names.length := by omega
                have hjI : ¬ (d.names.length : Int) < (d.names.length : Int) := by omega
                rw [List.take_length] at hownj
                have HO := Lib.hid (show wr.ownsRow w.heap.size 116 2 u3 (tab (l.take (k + 1))).length (lZ (tab (l.take (k + 1)))) by
                  rw [HTK.out, HD1.out, ← List.append_assoc]
                  have e : (cur ++ [(d.name, kd)] ++ d.names.map (fun x => (x, (2 : Int)))).length = cur.length + 1 + d.names.length := by simp; omega
                  rw [e]; exact hownj)
                clear hownj
                go_wp2
                go_roundw
                case rel => exact ⟨k + 1, by omega, by go_num, HO.out, hbj⟩
                case measure => simp [intOf]; omega
          · have HO := Lib.hid (show W1.ownsRow w.heap.size 116 2 u3 (tab (l.take (k + 1))).length (lZ (tab (l.take (k + 1)))) by
              rw [HTK.out, HDT.out, if_neg hk1, List.append_nil]
              have e : (cur ++ [(d.name, kd)]).length = cur.length + 1 := by simp
              rw [e]; exact hown1)
            have hkb : (d.kind == (1 : Int)) = false := by rw [beq_eq_false_iff_ne]; exact hk1
            clear hk1 hq3
            go_wp2_with fail
            clear e0 e3
            go_loopw [3, 5] (fun v x wi => v = u3 ∧ x = .int .i64 ((0 : Nat) : Int) ∧ W1 = wi) (fun _ _ _ => 0)
            case atStart => exact ⟨rfl, rfl, rfl⟩
            case round =>
              obtain ⟨rfl, rfl, rfl⟩ := hrel
              have e0 : W1.cell? ⟨g, o + k * 22, none⟩ = some (.int .i64 d.kind) := HRG.out W1 hb1 0 _ C0.out
              have e3 : W1.cell? ⟨g, o + k * 22 + 3, none⟩ = some (.slice nA d.names.length nc) := HRG.out W1 hb1 3 _ C3.out
              by_cases hl0 : 0 < d.names.length
              · have hl1 : (0 : Int) < (d.names.length : Int) := by omega
                go_wp2
                go_roundw
                case rel => exact ⟨k + 1, by omega, by go_num, HO.out, hb1⟩
                case measure => simp [intOf]; omega
              · have hl1 : ¬ (0 : Int) < (d.names.length : Int) := by omega
                go_wp2
                go_roundw
                case rel => exact ⟨k + 1, by omega, by go_num, HO.out, hb1⟩
                case measure => simp [intOf]; omega
    · obtain rfl : k = l.length := by omega
      have hkI : ¬ (l.length : Int) < (l.length : Int) := by omega
      rw [List.take_length] at hown
      go_wp2
      go_ret
      exact ⟨_, rfl, hown, hb⟩
end Go.Proofs.YtbmglebipepdmaaGreatDoor
namespace Go.Proofs.YtbmglebipepdmaaGreatDoor
open Go.RowKit
end Go.Proofs.YtbmglebipepdmaaGreatDoor
namespace Go.Proofs.YtbmglebipepdmaaGreatDoor
open Go.RowKit
/-- Declarations that add takes. -/
structure BOk (l : List Dc) : Prop where
  each : ∀ d ∈ l, (-9223372036854775808 ≤ d.kind ∧ d.kind ≤ 9223372036854775807) ∧ d.name.size ≤ maxLen ∧ ∀ x ∈ d.names, x.size ≤ maxLen
  all : (l.map fun d => d.names.length + 1).sum ≤ 100000000
def nb2 (l : List Dc) : Nat := (l.map fun d => d.names.length + 1).sum
theorem JC (l : List Dc) (d : Dc) : nb2 (l ++ [d]) = nb2 l + 1 + d.names.length := by simp [nb2]; omega
theorem Ho (l : List Dc) : aN l ≤ nb2 l := by
  unfold aN nb2
  induction l with
  | nil => simp
  | cons d r ih => rw [List.map_cons, List.sum_cons, List.map_cons, List.sum_cons]; split <;> omega
theorem JD (k : Int) (l : List Dc) : fu k l ≤ nb2 l := by
  unfold fu nb2
  induction l with
  | nil => simp
  | cons d r ih => rw [List.countP_cons, List.map_cons, List.sum_cons]; split <;> omega
theorem nb2_len (l : List Dc) : l.length ≤ nb2 l := by
  unfold nb2
  induction l with
  | nil => simp
  | cons d r ih => rw [List.map_cons, List.sum_cons, List.length_cons]; omega
def Mt (l : List Dc) (S : Nat → Prop) (w : World) (e : Ending) (w' : World) : Prop :=
  ∃ b kb db wb cb zb n zn, e = .returned (.pointer (some ⟨b, 0, none⟩)) ∧ Sc Tryz.prog 65 w' S b kb db wb cb zb n zn (mV l) (aN l) (fu 4 l) (fu 6 l) (dG l) (eB l) [] [] (fun _ => none) ∧ Below w.heap.size w w'
set_option maxRecDepth 100000 in
set_option maxHeartbeats 4000000 in
theorem Cb (l : List Dc) (A : Option Addr) (c : Nat) (w : World) (S : Nat → Prop) (hl : bG (jE w S) w S 22 A l) (hS : ∀ g, S g → g < w.heap.size) (hB : BOk l) :
    Calls Tryz.prog 53 #[.slice A l.length c] w (Mt l S w) := by
  have HL := Lib.hid hl
  have HB := Lib.hid hB.each
  have HBA := Lib.hid hB.all
  have hll : l.length ≤ 100000000 := Nat.le_trans (nb2_len l) hB.all
  have HEM := Lib.hid (FO w S hS)
  clear hl hB
  go_enter Tryz.func53, Tryz.ntmps53
  go_wp2_with fail
  refine HEM.out.mono ?_
  rintro e w2 ⟨b, kb, db, wb, cb, zb, rfl, hsc, hb2, hlo⟩
  have HSC := Lib.hid hsc
  clear hsc
  go_wp2_with fail
  go_loopw [9] (fun x wr => ∃ k : Nat, k ≤ l.length ∧ x = .int .i64 k ∧ Below w.heap.size w wr ∧ Hid (Sc Tryz.prog 65 wr S b kb db wb cb zb (nb2 (l.take k)) 0 (mV (l.take k)) (aN (l.take k)) (fu 4 (l.take k)) (fu 6 (l.take k)) (dG (l.take k)) (eB (l.take k)) [] [] (fun _ => none))) (fun x _ => l.length - (intOf x).toNat)
  case atStart => exact ⟨0, Nat.zero_le _, rfl, hb2, Lib.hid HSC.out⟩
  case round =>
    obtain ⟨k, hk, rfl, hb, hsc⟩ := hrel
    have hsr := hb.size
    by_cases hlt : k < l.length
    · obtain ⟨g, o, v2, rfl, hSg, hp, hc⟩ := iM (fun _ _ h => qB h) (HL.out.keep (P' := jE wr S) (aF hb hS) (fun _ _ h => h.keep (aF hb hS))) hlt
      obtain ⟨d, hd⟩ : ∃ d, d = l[k] := ⟨_, rfl⟩
      have hmem : d ∈ l := by rw [hd]; exact List.getElem_mem hlt
      have htk := A8 l k hlt
      rw [← hd] at hp htk
      have hq2 := sum_takeA (fun d : Dc => d.names.length + 1) l (k + 1)
      have hba := HBA.out
      rw [htk] at hq2
      have hq3 : nb2 (l.take k ++ [d]) ≤ 100000000 := Nat.le_trans hq2 hba
      rw [JC] at hq3
      obtain ⟨hd1, hd2, hd3⟩ := HB.out d hmem
      have hps := Ho (l.take k)
      have hp4 := JD 4 (l.take k)
      have hp6 := JD 6 (l.take k)
      obtain ⟨cs, nA, nc, hcl, hone, rfl, -, -, -, -, -, -, -⟩ := rC hp
      have hrange : wr.rangeAt g (o + k * 22) cs := fun j u hu => hc j u (by simpa [cellsOf, Value.cells] using hu)
      have BA : (Tryz.prog.info? 41).map (·.size) = some cs.length := by rw [hcl]; exact fP
      have hcs2 : cs.toArray.size = 22 := by simpa using hcl
      have Mv := Lib.hid hone
      have HCS := Lib.hid hcs2
      have HP := Lib.hid hp
      have HTK := Lib.hid htk
      have HD := Lib.hid (show (-9223372036854775808 ≤ d.kind ∧ d.kind ≤ 9223372036854775807) ∧ d.name.size ≤ maxLen ∧ ∀ x ∈ d.names, x.size ≤ maxLen from ⟨hd1, hd2, hd3⟩)
      have hkI : (k : Int) < (l.length : Int) := by omega
      have hk0 : (0 : Int) ≤ (k : Int) := by omega
      have hbA : ∀ o, Below wr.heap.size wr (wr.alloc o) := fun o => (Below.refl _ _).alloc (Nat.le_refl _) o
      obtain ⟨lk, hlk⟩ : ∃ lk, lk = l.take k := ⟨_, rfl⟩
      rw [← hlk] at hsc hq3 hps hp4 hp6 HTK
      clear hlk hp hc hone hcs2 htk hd hmem hq2 hba hd1 hd2 hd3 hcl
      have hsz0 := hsc.out.lt.1
      have hk1 := hsc.out.kinds.lt
      have hk2 : db < wr.heap.size := by obtain ⟨g, hg, -⟩ := hsc.out.decls; exact hg.lt
      go_wp2_with (first | (with_reducible refine wpList_load_mid rfl 41 (.tmp 11) rfl g (o + k * 22) rfl cs _ hrange Tryz.underlying41 rfl BA ?_) | (with_reducible refine gG _ rfl rfl (.tmp 5) (.tmp 12) rfl wr.heap.size cs.toArray rfl rfl _ (heap_alloc_new wr _) rfl HCS.out Mv.out ?_; intro W5 hr5 hg5) | (with_reducible refine fQ _ rfl (.tmp 5) rfl wr.heap.size rfl _ hr5 HCS.out ?_))
      have hb5 : Below wr.heap.size wr W5 := (hbA _).trans (below_grown hg5 (Nat.le_refl _) (by simp))
      have JU : Below w.heap.size w W5 := hb.trans (hb5.mono hsr)
      have HAD := Lib.hid (add_any (hsc.out.below hb5) d _ (HP.out.keep (aW hb5)) HD.out.1 HD.out.2.1 HD.out.2.2 (by omega) (by omega) (by omega) (by omega))
      clear hr5 hg5 hrange
      refine HAD.out.mono ?_
      rintro e w7 ⟨rfl, hsc7, hbt7⟩
      have HS7 := Lib.hid hsc7
      have hbw7 : Below w.heap.size w w7 := JU.trans (hbt7.below (fun g hg => by unfold AddT at hg; omega) (by have := JU.size; omega))
      clear hsc7
      go_wp2
      go_roundw
      case rel =>
        refine ⟨k + 1, by omega, by go_num, hbw7, Lib.hid ?_⟩
        rw [HTK.out, JC, uJ, uW, rY, rY, uF, wX]
        exact HS7.out
      case measure => simp [intOf]; omega
    · obtain rfl : k = l.length := by omega
      have hkI : ¬ (l.length : Int) < (l.length : Int) := by omega
      rw [List.take_length] at hsc
      go_wp2
      go_ret
      exact ⟨b, kb, db, wb, cb, zb, _, _, rfl, hsc.out, hb⟩
/-- What Term returns. -/
def GU (l : List Dc) (t : Tm) : Nat := if (dW t).2 ≠ 0 then (dW t).2 else j5 (tab l) (aN l) t
set_option maxRecDepth 100000 in
set_option maxHeartbeats 2000000 in
theorem term_any2 (l : List Dc) (A : Option Addr) (c : Nat) (t : Tm) (v : Value) (w : World) (S : Nat → Prop) (hl : bG (jE w S) w S 22 A l) (ht : gm w S t v) (hS : ∀ g, S g → g < w.heap.size) (hB : BOk l) (hsz : au t ≤ 1000000) (hpw : Pow w) :
    Calls Tryz.prog 30 #[.slice A l.length c, v] w fun e w' => e = .returned (.int .i64 (GU l t)) ∧ Below w.heap.size w w' := by
  have hbA : ∀ o, Below w.heap.size w (w.alloc o) := fun o => (Below.refl _ _).alloc (Nat.le_refl _) o
  have ht2 := ht
  obtain ⟨op, nm, nd, wA, wn, wc, kA, kn, kc, rfl⟩ := ht2.form
  obtain ⟨fe, hfe⟩ : ∃ fe, fe = (dW t).2 := ⟨_, rfl⟩
  have HF := Lib.hid (fun o => AB t _ (w.alloc o) S (ht.keep (aW (hbA o))) (fun g hg => by have := hS g hg; simp; omega) (by omega) (hpw.below (hbA o)))
  simp only [← hfe] at HF
  have HBE := Lib.hid (fun (W : World) (hb : Below w.heap.size w W) => Cb l A c W S (hl.keep (aF hb hS) (fun _ _ h => h.keep (aF hb hS))) (fun g hg => by have := hS g hg; have := hb.size; omega) hB)
  have HT := Lib.hid (fun (W : World) (hb : Below w.heap.size w W) => ht.keep (aF hb hS))
  obtain ⟨r, hr⟩ : ∃ r, r = GU l t := ⟨_, rfl⟩
  rw [← hr]
  unfold GU at hr
  rw [← hfe] at hr
  have HR := Lib.hid hr
  clear ht ht2 hl hB hpw hfe hr
  go_enter Tryz.func30, Tryz.ntmps30
  go_wp2_with fail
  refine (HF.out _).mono ?_
  rintro e W1 ⟨rfl, hb1⟩
  have hs1 := hb1.size
  rw [show (w.alloc (.cells #[.int .i64 op, .string nm, .int .i64 nd, .slice wA wn wc, .slice kA kn kc] 39)).heap.size = w.heap.size + 1 by simp] at hs1 hb1
  have qI : Below w.heap.size w W1 := (hbA _).trans (hb1.mono (by omega))
  have hr1 : W1.heap[w.heap.size]? = some (.cells #[.int .i64 op, .string nm, .int .i64 nd, .slice wA wn wc, .slice kA kn kc] 39 (0, 0)) := (hb1.block _ (by omega)).trans (heap_alloc_new w _)
  obtain ⟨c0, c1, c2, c3, c4, -⟩ := iH hr1
  have HR1 := Lib.hid hr1
  clear hr1 hb1
  by_cases hz : fe = 0
  · subst hz
    have hr2 := HR.out
    rw [if_neg (by decide)] at hr2
    have HR2 := Lib.hid hr2
    have hlt2 : w.heap.size < W1.heap.size := by omega
    clear hr2
    go_wp2_with fail
    go_region_held3 (fun w' => w'.cell? ⟨w.heap.size, 0, none⟩ = some (.int .i64 op) ∧ w'.cell? ⟨w.heap.size, 1, none⟩ = some (.string nm) ∧ w'.cell? ⟨w.heap.size, 2, none⟩ = some (.int .i64 nd) ∧ w'.cell? ⟨w.heap.size, 3, none⟩ = some (.slice wA wn wc) ∧ w'.cell? ⟨w.heap.size, 4, none⟩ = some (.slice kA kn kc)) (first | go_keep | exact hkeep3 | exact hkeep4)
      (first | (go_at_call 53; (refine (HBE.out _ (below_drewN qI _)).mono ?_; rintro e W3 ⟨b, kb, db, wb, cb, zb, n, zn, rfl, hsc, hb3⟩; have hz3 : W1.heap.size ≤ W3.heap.size := hb3.size; have hbw3 : Below w.heap.size w W3 := (below_drewN qI _).trans (hb3.mono (show w.heap.size ≤ W1.heap.size from Nat.le_of_lt hlt2)); have hr3 := (hb3.block _ (show w.heap.size < W1.heap.size from hlt2)).trans HR1.out; have hkeep3 := BH hr3; have HSC := Lib.hid hsc; clear hsc)) | (go_at_call 57; (refine (rO t _ W3 S (HT.out _ hbw3) (fun g hg => by have := hS g hg; omega) (by omega) (Aw HSC.out.row).1 (Aw HSC.out.row).2.2.1 HSC.out.kinds).mono ?_; rintro e W4 ⟨rfl, hb4⟩; have hr4 := (hb4.block _ (lt_of_block hr3)).trans hr3; have hkeep4 := BH hr4)))
    all_goals (
      go_wp2
      go_ret
      have e9 := HR2.out
      rw [← oO] at e9
      exact ⟨by rw [e9]; rfl, hbw3.trans (hb4.mono hbw3.size)⟩)
  · have hqn : ((fe : Int) != 0) = true := jA hz
    have hr2 := HR.out
    rw [if_pos hz] at hr2
    have HR2 := Lib.hid hr2
    clear hr2 hz
    go_wp2
    go_ret
    exact ⟨by rw [HR2.out]; rfl, qI⟩
end Go.Proofs.YtbmglebipepdmaaGreatDoor
namespace Go.Proofs.YtbmglebipepdmaaGreatDoor
open Go.RowKit
theorem sum_mono {α : Type} {f g : α → Nat} (h : ∀ x, f x ≤ g x) (l : List α) : (l.map f).sum ≤ (l.map g).sum := by
  induction l with
  | nil => exact Nat.le_refl _
  | cons a r ih => have := h a; rw [List.map_cons, List.sum_cons, List.map_cons, List.sum_cons]; omega
theorem bok_of {l : List Dc} (hsz : (l.map d9).sum ≤ 1100000) (hkd : ∀ d ∈ l, -9223372036854775808 ≤ d.kind ∧ d.kind ≤ 9223372036854775807) : BOk l := by
  have hle : ∀ d : Dc, d.names.length + 1 ≤ d9 d := fun d => by
    have h3 := oq d.names
    have e1 : d9 d = d.name.size + gB d.names + (d.faults.map jB).sum + au d.term + d.proto.size + au d.read + au d.write + d.use.size + 1 := rfl
    omega
  refine ⟨fun d hd => ?_, ?_⟩
  · have h1 := in_sum2 d9 hd
    have e1 : d9 d = d.name.size + gB d.names + (d.faults.map jB).sum + au d.term + d.proto.size + au d.read + au d.write + d.use.size + 1 := rfl
    refine ⟨hkd d hd, by unfold maxLen; omega, fun x hx => ?_⟩
    have h2 := in_sum2 (fun s : ByteArray => s.size + 1) hx
    have e2 : gB d.names = (d.names.map fun s => s.size + 1).sum := rfl
    unfold maxLen; omega
  · refine Nat.le_trans (sum_mono hle l) (by omega)
theorem tab_nb (l : List Dc) : (tab l).length ≤ (l.map fun d => d.names.length + 1).sum := by
  unfold tab
  induction l with
  | nil => simp
  | cons d r ih =>
    have h1 : (BP d).length ≤ d.names.length + 1 := by
      unfold BP
      rw [List.length_append]
      have a : (if jl d.kind = 0 then [] else [(d.name, jl d.kind)] : List (ByteArray × Int)).length ≤ 1 := by split <;> simp
      have b : (if d.kind = 1 then d.names.map (fun x => (x, 2)) else [] : List (ByteArray × Int)).length ≤ d.names.length := by split <;> simp
      omega
    rw [List.flatMap_cons, List.length_append, List.map_cons, List.sum_cons]; omega
end Go.Proofs.YtbmglebipepdmaaGreatDoor
namespace Go.Proofs.YtbmglebipepdmaaGreatDoor
open Go.ChangeShapes Go.WideShapes Go.ChangeAt Go.RowKit
section
variable {H : Type} {enc : TypeId × Value → H} {W : World} {sp : Nat → Bool} {held : Bool}
def DcK (W : World) (d : Dc) (v : Value) : Prop := jE W (· < W.heap.size) d v ∧ -9223372036854775808 ≤ d.kind ∧ d.kind ≤ 9223372036854775807
set_option maxRecDepth 100000 in
set_option maxHeartbeats 2000000 in
theorem openDcK (n : Nat) (cs : List Value) (x : DataW H × List MemPlace) (h : DataW.trod enc Tryz.prog W 0 sp held n 41 cs = some x) :
    ∃ (d : Dc) (v : Value), DcK W d v ∧ cs = cellsOf v ∧ d9 d ≤ Rows.uptoBulk x.1 := by
  obtain ⟨d, v, h1, h2, h3⟩ := openDc n cs x h
  refine ⟨d, v, ⟨h1, ?_⟩, h2, h3⟩
  obtain ⟨xs, m, rfl, rfl, hl, hlen, hf⟩ := DataW.trod_struct Tryz.underlying41 h
  obtain ⟨nA, nc, fA, fc, vt, vr, vw, rfl, -, -, -, -, -, -, -⟩ := h1
  have hlen' : xs.length = 10 := hlen
  obtain ⟨y0, ys, rfl⟩ : ∃ y ys, xs = y :: ys := by
    cases xs with
    | nil => cases hlen'
    | cons y ys => exact ⟨y, ys, rfl⟩
  have h0 : DataW.trod enc Tryz.prog W 0 sp held m 3 [.int .i64 d.kind] = some y0 := by
    have := hf 0 _ rfl
    have hc3 : Tryz.prog.cellsOf 3 = 1 := by kernel_rfl
    rw [h2] at this
    simpa [cellsOf, Value.cells, hc3] using this
  obtain ⟨z, e, -, hz⟩ := DataW.trod_int Tryz.underlying3 h0
  obtain rfl : d.kind = z := by simpa using e
  simpa [Lit.wf, IntKind.min, IntKind.max, IntKind.signed, IntKind.bits] using hz
set_option maxRecDepth 100000 in
theorem open_decls2 {b0 : Nat} {v : Value} {d : DataW H} {p : List MemPlace} (hv : Value.okWide Tryz.prog W .any b0 22 v) (h : DataW.Trod enc Tryz.prog W 0 sp held 22 v d p) :
    ∃ (A : Option Addr) (c : Nat) (l : List Dc), v = .slice A l.length c ∧ bG (jE W (· < W.heap.size)) W (· < W.heap.size) 22 A l ∧ l.length ≤ c ∧ (l.map d9).sum + 1 ≤ Rows.uptoBulk d ∧ ∀ x ∈ l, -9223372036854775808 ≤ x.kind ∧ x.kind ≤ 9223372036854775807 := by
  obtain ⟨a0, len, cap, rfl⟩ := okWide_slice Tryz.underlying22 hv
  obtain ⟨n, hn⟩ := h
  obtain ⟨A, c, l, e, h1, h2, h3⟩ := uS (Q := DcK W) (f := d9) Tryz.underlying22 (size := 22) (by kernel_rfl) (by decide) (fun n' cs x _ hx => openDcK n' cs x hx) hn
  simp only [Value.cells, List.cons.injEq, and_true] at e
  refine ⟨A, c, l, e, h1.keep (Kept.refl _ _) (fun _ _ h => h.1), h2, h3, fun x hx => ?_⟩
  obtain ⟨vs, q1, q2, q3⟩ := h1
  obtain ⟨i, hi, rfl⟩ := List.getElem_of_mem hx
  exact (q3 i l[i] (vs[i]'(by omega)) (List.getElem?_eq_getElem hi) (List.getElem?_eq_getElem _)).2
end
end Go.Proofs.YtbmglebipepdmaaGreatDoor
namespace Go.Proofs.YtbmglebipepdmaaGreatDoor
open Go.RowKit
theorem KT (s : ByteArray) (h0 : 0 < s.size) : dZ s.data.toList = (decide (s.size ≤ 24) && eF s[0].toNat && decide (pre bZ s.data.toList = s.size)) := by
  have e : s.data.toList = s[0] :: s.data.toList.drop 1 := cB s 0 h0
  have hl : s.data.toList.length = s.size := by simp
  rw [← hl]
  generalize s.data.toList.drop 1 = r at e
  rw [e]
  rw [Bool.eq_iff_iff]
  simp [dZ]

set_option maxRecDepth 100000 in
set_option maxHeartbeats 4000000 in
theorem isName6 (s : ByteArray) (w : World) : Calls Tryz.prog 104 #[.string s] w fun e w' => e = .returned (.bool (dZ s.data.toList)) ∧ w = w' := by
  by_cases h0 : 0 < s.size
  · have hne := av h0
    have hEq := KT s h0
    by_cases h24 : 24 < s.size
    · have h24I : (24 : Int) < (s.size : Int) := by omega
      have E := Lib.hid (show dZ s.data.toList = false by rw [hEq]; simp; omega)
      clear hEq
      go_enter Tryz.func104, Tryz.ntmps104
      go_wp2
      go_ret
      exact ⟨by rw [E.out]; rfl, rfl⟩
    · have h24I : ¬ (24 : Int) < (s.size : Int) := by omega
      have h0I : (0 : Int) < (s.size : Int) := by omega
      have hl0 := nE s[0].toNat w
      cases hl : eF s[0].toNat
      · rw [hl] at hl0
        have HC := Lib.hid hl0
        have E := Lib.hid (show dZ s.data.toList = false by rw [hEq, hl]; simp)
        clear hEq hl hl0
        go_enter Tryz.func104, Tryz.ntmps104
        go_wp2_with fail
        refine HC.out.mono ?_
        rintro e w' ⟨rfl, rfl⟩
        go_wp2
        go_ret
        exact ⟨by rw [E.out]; rfl, rfl⟩
      · rw [hl] at hl0
        have HC := Lib.hid hl0
        obtain ⟨n, hn⟩ : ∃ n, n = pre bZ s.data.toList := ⟨_, rfl⟩
        have hplen := wZ bZ s.data.toList
        rw [show s.data.toList.length = s.size by simp, ← hn] at hplen
        have E := Lib.hid (show dZ s.data.toList = decide (n = s.size) by rw [hEq, hl, ← hn]; simp; omega)
        have HPN := Lib.hid hn
        have HCA := Lib.hid (fun k (h : k < s.size) (hk : n = k + pre bZ (s.data.toList.drop k)) => (show k < n ↔ bZ s[k].toNat = true by rw [hn] at hk ⊢; exact cont_at s k h hk))
        have HYES := Lib.hid (fun k (h : k < s.size) (hc : bZ s[k].toNat = true) => lX bZ s k h hc)
        clear hEq hl hl0 hn
        go_enter Tryz.func104, Tryz.ntmps104
        go_wp2_with fail
        refine HC.out.mono ?_
        rintro e w' ⟨rfl, rfl⟩
        go_wp2
        go_loop [3] (fun x => ∃ k : Nat, k ≤ n ∧ x = .int .i64 k ∧ Hid (n = k + pre bZ (s.data.toList.drop k))) (fun x => s.size - (intOf x).toNat)
        case atStart => exact ⟨0, Nat.zero_le _, rfl, by show n = 0 + pre bZ (s.data.toList.drop 0); rw [HPN.out]; simp⟩
        case round =>
          obtain ⟨k, hk, rfl, hpre⟩ := hrel
          by_cases hlt : k < s.size
          · have hkI : (k : Int) < (s.size : Int) := by omega
            have hk0 : (0 : Int) ≤ (k : Int) := by omega
            have hlc := nE s[k].toNat w
            have hdc := nV s[k].toNat w
            have hcc := HCA.out k hlt hpre.out
            cases hc : bZ s[k].toNat
            · have hkn : ¬ k < n := fun h => by rw [hcc.1 h] at hc; simp at hc
              have E2 := Lib.hid (show dZ s.data.toList = false by rw [E.out]; simp; omega)
              unfold bZ at hc
              rw [Bool.or_eq_false_iff] at hc
              rw [hc.1] at hlc
              rw [hc.2] at hdc
              have HLC := Lib.hid hlc
              have HDC := Lib.hid hdc
              clear hc hlc hdc hcc
              go_wp2_with fail
              refine HLC.out.mono ?_
              rintro e w' ⟨rfl, rfl⟩
              go_wp2_with fail
              refine HDC.out.mono ?_
              rintro e w' ⟨rfl, rfl⟩
              go_wp2
              go_ret
              exact ⟨by rw [E2.out]; rfl, rfl⟩
            · have hkn := hcc.2 hc
              have HPY := Lib.hid (HYES.out k hlt hc)
              unfold bZ at hc
              cases hll : eF s[k].toNat
              · rw [hll] at hc hlc
                rw [Bool.false_or] at hc
                rw [hc] at hdc
                have HLC := Lib.hid hlc
                have HDC := Lib.hid hdc
                clear hlc hdc hc hll hcc
                go_wp2_with fail
                refine HLC.out.mono ?_
                rintro e w' ⟨rfl, rfl⟩
                go_wp2_with fail
                refine HDC.out.mono ?_
                rintro e w' ⟨rfl, rfl⟩
                go_wp2
                go_round
                case rel =>
                  refine ⟨k + 1, by omega, by go_num, ?_⟩
                  show n = k + 1 + pre bZ (s.data.toList.drop (k + 1))
                  have := HPY.out; have := hpre.out; omega
                case measure => simp [intOf]; omega
              · rw [hll] at hlc
                have HLC := Lib.hid hlc
                clear hlc hdc hc hll hcc
                go_wp2_with fail
                refine HLC.out.mono ?_
                rintro e w' ⟨rfl, rfl⟩
                go_wp2
                go_round
                case rel =>
                  refine ⟨k + 1, by omega, by go_num, ?_⟩
                  show n = k + 1 + pre bZ (s.data.toList.drop (k + 1))
                  have := HPY.out; have := hpre.out; omega
                case measure => simp [intOf]; omega
          · have hkI : ¬ (k : Int) < (s.size : Int) := by omega
            have E2 := Lib.hid (show dZ s.data.toList = true by rw [E.out]; simp; omega)
            go_wp2
            go_ret
            exact ⟨by rw [E2.out]; rfl, rfl⟩
  · obtain rfl := bD (show s.size = 0 by omega)
    go_enter Tryz.func104, Tryz.ntmps104
    go_wp2
    go_ret
    exact ⟨rfl, rfl⟩

set_option maxHeartbeats 1000000 in
theorem fw (s : ByteArray) (w : World) : Calls Tryz.prog 71 #[.string s] w fun e w' => e = .returned (.bool (aP s)) ∧ Below w.heap.size w w' := by
  have hl := isName6 s w
  have hr := yO s w
  unfold aP
  cases h : dZ s.data.toList
  · rw [h] at hl
    have HL := Lib.hid hl
    clear hl hr h
    go_enter Tryz.func71, Tryz.ntmps71
    go_wp2_with fail
    refine HL.out.mono ?_
    rintro e w' ⟨rfl, rfl⟩
    go_wp2
    go_ret
    exact ⟨rfl, Below.refl _ _⟩
  · rw [h] at hl
    have HL := Lib.hid hl
    have HR := Lib.hid hr
    clear hl hr h
    go_enter Tryz.func71, Tryz.ntmps71
    go_wp2_with fail
    refine HL.out.mono ?_
    rintro e w' ⟨rfl, rfl⟩
    go_wp2_with fail
    refine HR.out.mono ?_
    rintro e w' ⟨rfl, hb⟩
    go_wp2
    go_ret
    exact ⟨by rw [Bool.true_and]; rfl, hb⟩

set_option maxHeartbeats 1000000 in
theorem nI (n : Int) (w : World) : Calls Tryz.prog 103 #[.int .i64 n] w fun e w' => e = .returned (.bool (small n)) ∧ w = w' := by
  have key : ∀ r : Bool, (r = true ↔ (0 ≤ n ∧ n ≤ 100000)) → r = small n := by
    intro r h
    rw [Bool.eq_iff_iff, h]
    simp [small]
  have HK := Lib.hid key
  clear key
  go_enter Tryz.func103, Tryz.ntmps103
  go_wp2
  all_goals go_ret
  all_goals refine ⟨congrArg (fun b => Ending.returned (.bool b)) (HK.out _ ?_), rfl⟩
  all_goals simp
  all_goals omega

end Go.Proofs.YtbmglebipepdmaaGreatDoor
namespace Go.Proofs.YtbmglebipepdmaaGreatDoor
open Go.RowKit
theorem hd1 (nm : ByteArray) (nd : Int) (ws : List Int) (ks : List Tm) : bO (.mk 1 nm nd ws ks) = (aP nm && (decide (nd = 0) && decide (ws.length + ks.length = 0))) := rfl
theorem hd6 (nm : ByteArray) (nd : Int) (ws : List Int) (ks : List Tm) : bO (.mk 6 nm nd ws ks) = ((aP nm || nm == (⟨#[115, 101, 114, 118, 101, 114, 115]⟩ : ByteArray)) && (decide (nd = 0) && decide (ws.length + ks.length = 0))) := rfl
theorem hd7 (nm : ByteArray) (nd : Int) (ws : List Int) (ks : List Tm) : bO (.mk 7 nm nd ws ks) = ((aP nm || nm == (⟨#[115, 101, 114, 118, 101, 114, 115]⟩ : ByteArray)) && (decide (nd = 0) && decide (ws.length + ks.length = 0))) := rfl
theorem hd8 (nm : ByteArray) (nd : Int) (ws : List Int) (ks : List Tm) : bO (.mk 8 nm nd ws ks) = ((aP nm || nm == (⟨#[115, 101, 114, 118, 101, 114, 115]⟩ : ByteArray)) && (decide (nd = 0) && decide (ws.length + ks.length = 0))) := rfl
theorem hd2 (nm : ByteArray) (nd : Int) (ws : List Int) (ks : List Tm) : bO (.mk 2 nm nd ws ks) = (decide (nm.size = 0) && small nd && decide (0 < ks.length) && (decide (ws.length = 0) || decide (ws.length = ks.length))) := rfl
theorem hd3 (nm : ByteArray) (nd : Int) (ws : List Int) (ks : List Tm) : bO (.mk 3 nm nd ws ks) = (decide (nm.size = 0) && decide (nd = 0) && decide (ws.length = 0) && decide (2 ≤ ks.length)) := rfl
theorem hd4 (nm : ByteArray) (nd : Int) (ws : List Int) (ks : List Tm) : bO (.mk 4 nm nd ws ks) = (decide (nm.size = 0) && decide (nd = 0) && decide (ws.length = 0) && decide (2 ≤ ks.length)) := rfl
theorem hd5 (nm : ByteArray) (nd : Int) (ws : List Int) (ks : List Tm) : bO (.mk 5 nm nd ws ks) = (decide (nm.size = 0) && decide (nd = 0) && decide (ws.length = 0) && decide (ks.length = 1)) := rfl
theorem hd0 {op : Int} (nm : ByteArray) (nd : Int) (ws : List Int) (ks : List Tm) (h : ¬ (1 ≤ op ∧ op ≤ 8)) : bO (.mk op nm nd ws ks) = false := by
 unfold bO
 have e : (Tm.mk op nm nd ws ks).op = op := rfl
 rw [e, if_neg (by omega), if_neg (by omega), if_neg (by omega), if_neg (by omega), if_neg (by omega)]
/-- Which terms IsTerm takes. -/
def ITOk (t : Tm) : Prop := ∀ (v : Value) (w : World) (S : Nat → Prop), gm w S t v → (∀ g, S g → g < w.heap.size) → au t ≤ 1000000000000 →
 Calls Tryz.prog 73 #[v] w fun e w' => e = .returned (.bool (dX t)) ∧ Below w.heap.size w w'

set_option maxRecDepth 100000 in
set_option maxHeartbeats 16000000 in
theorem Ig (t : Tm) (ih : ∀ k ∈ t.kids, ITOk k) : ITOk t := by
 intro v w S hv hS hsz
 have HSS0 := Lib.hid (fH t)
 cases hv with
 | mk op nm need ws kids wA kA cw kc vs hw hwc hk hkc hl h =>
 have hss : au (.mk op nm need ws kids) = 1 + nm.size + ws.length + aR kids := HSS0.out
 have hkl := kz kids
 have IH := Lib.hid (show ∀ k ∈ kids, ITOk k from ih)
 have HL := Lib.hid (show bG (gm w S) w S 5 kA kids from ⟨vs, hl, hk, h⟩)
 have HWS := Lib.hid hw
 have hkw : kids.length + ws.length < 1000000000000 := by omega
 have HKS := Lib.hid (show ∀ k ∈ kids, au k ≤ 1000000000000 from fun k hk => by have := bX hk; omega)
 have HOK := Lib.hid (show dX (.mk op nm need ws kids) = (bO (.mk op nm need ws kids) && ws.all small && kids.all dX) from wF _)
 clear ih hw hk hl h hss hkl hsz
 obtain ⟨w0, hw0⟩ : ∃ w0 : World, w0 = w.alloc (.cells #[.int .i64 op, .string nm, .int .i64 need, .slice wA ws.length cw, .slice kA kids.length kc] 39) := ⟨_, rfl⟩
 have hb0 : Below w.heap.size w w0 := by rw [hw0]; exact (Below.refl _ _).alloc (Nat.le_refl _) _
 have hz0 : w0.heap.size = w.heap.size + 1 := by rw [hw0]; simp
 have hr0 : w0.heap[w.heap.size]? = some (.cells #[.int .i64 op, .string nm, .int .i64 need, .slice wA ws.length cw, .slice kA kids.length kc] 39 (0, 0)) := by rw [hw0]; exact heap_alloc_new w _
 have uy : w.heap.size + 1 ≤ w0.heap.size := by omega
 have HR0 := Lib.hid hr0
 have HW0 := Lib.hid hw0
 clear hz0 hr0 hw0
 go_enter Tryz.func73, Tryz.ntmps73
 go_wp2
 rw [← HW0.out]
 go_loopw [3] (fun x wr => ∃ k : Nat, k ≤ kids.length ∧ x = .int .i64 k ∧ Below (w.heap.size + 1) w0 wr ∧ Hid (kids.all dX = (kids.drop k).all dX)) (fun x _ => kids.length - (intOf x).toNat)
 case atStart => exact ⟨0, Nat.zero_le _, rfl, Below.refl _ _, rfl⟩
 case round =>
  obtain ⟨k, hk, rfl, hb, hd⟩ := hrel
  have hsr := hb.size
  have hbw : Below w.heap.size w wr := hb0.trans (hb.mono (by omega))
  have hr1 := (hb.block _ (by omega)).trans HR0.out
  obtain ⟨c0, c1, c2, c3, c4, -⟩ := iH hr1
  clear hr1
  by_cases hlt : k < kids.length
  ·have hlr := HL.out.keep (P' := gm wr S) (aF hbw hS) (fun _ _ h => h.keep (aF hbw hS))
   obtain ⟨g, o, op1, nm1, nd1, wA1, wn1, wc1, kA1, kn1, kc1, rfl, hSg, htm, k0, k1, k2, k3, k4, -⟩ := gV hlr hlt
   have hgs : g < wr.heap.size := World.block_lt_of_cell? wr _ k0
   have hkI : (k : Int) < (kids.length : Int) := by omega
   have hk0 : (0 : Int) ≤ (k : Int) := by omega
   have hmem : kids[k] ∈ kids := List.getElem_mem hlt
   have hC := IH.out _ hmem _ wr S htm (fun g hg => by have := hS g hg; have := hbw.size; omega) (HKS.out _ hmem)
   have hdk : (kids.drop k).all dX = (dX kids[k] && (kids.drop (k + 1)).all dX) := by rw [List.drop_eq_getElem_cons hlt, List.all_cons]
   cases hu : dX kids[k]
   ·rw [hu] at hC hdk
    have HC := Lib.hid hC
    have E := Lib.hid (show dX (.mk op nm need ws kids) = false by rw [HOK.out, hd.out, hdk, Bool.false_and, Bool.and_false])
    clear hC hdk hu htm hlr
    go_wp2_with fail
    refine HC.out.mono ?_
    rintro e W2 ⟨rfl, hb2⟩
    go_wp2
    go_ret
    exact ⟨by rw [E.out]; rfl, hbw.trans (hb2.mono hbw.size)⟩
   ·rw [hu] at hC hdk
    have HC := Lib.hid hC
    have E := Lib.hid (show kids.all dX = (kids.drop (k + 1)).all dX by rw [hd.out, hdk, Bool.true_and])
    clear hC hdk hu htm hlr
    go_wp2_with fail
    refine HC.out.mono ?_
    rintro e W2 ⟨rfl, hb2⟩
    go_wp2
    go_roundw
    case rel => exact ⟨k + 1, by omega, by go_num, hb.trans (hb2.mono (by omega)), E.out⟩
    case measure => simp [intOf]; omega
  ·obtain rfl : k = kids.length := by omega
   have hkI : ¬ (kids.length : Int) < (kids.length : Int) := by omega
   have Mq := Lib.hid (show dX (.mk op nm need ws kids) = (bO (.mk op nm need ws kids) && ws.all small) by rw [HOK.out, hd.out, List.drop_length]; simp)
   obtain ⟨w1, hw1⟩ : ∃ w1 : World, w1 = wr := ⟨_, rfl⟩
   rw [← hw1] at hb hsr hbw c0 c1 c2 c3 c4
   rw [← hw1]
   clear hd HOK hw1
   go_wp2
   go_loopw [4] (fun x wr => ∃ k : Nat, k ≤ ws.length ∧ x = .int .i64 k ∧ wr = w1 ∧ Hid (ws.all small = (ws.drop k).all small)) (fun x _ => ws.length - (intOf x).toNat)
   case atStart => exact ⟨0, Nat.zero_le _, rfl, by trivial, by trivial⟩
   case round =>
    obtain ⟨k, hk, rfl, rfl, hd⟩ := hrel
    by_cases hlt : k < ws.length
    ·obtain ⟨g1, o1, rfl, hS1, k1⟩ := one_cell (HWS.out.keep (aF hbw hS)) hlt
     have hg1 : g1 < wr.heap.size := World.block_lt_of_cell? wr _ k1
     have hdk : (ws.drop k).all small = (small ws[k] && (ws.drop (k + 1)).all small) := by rw [List.drop_eq_getElem_cons hlt, List.all_cons]
     generalize ws[k] = u at k1 hdk
     have hn := nI u wr
     have hkI2 : (k : Int) < (ws.length : Int) := by omega
     have hk0 : (0 : Int) ≤ (k : Int) := by omega
     cases hu : small u
     ·rw [hu] at hn hdk
      have HN := Lib.hid hn
      have E := Lib.hid (show dX (.mk op nm need ws kids) = false by rw [Mq.out, hd.out, hdk, Bool.false_and, Bool.and_false])
      clear hn hdk hu
      go_wp2_with fail
      refine HN.out.mono ?_
      rintro e w' ⟨rfl, rfl⟩
      go_wp2
      go_ret
      exact ⟨by rw [E.out]; rfl, hbw⟩
     ·rw [hu] at hn hdk
      have HN := Lib.hid hn
      have E := Lib.hid (show ws.all small = (ws.drop (k + 1)).all small by rw [hd.out, hdk, Bool.true_and])
      clear hn hdk hu
      go_wp2_with fail
      refine HN.out.mono ?_
      rintro e w' ⟨rfl, rfl⟩
      go_wp2
      go_roundw
      case rel => exact ⟨k + 1, by omega, by go_num, by trivial, E.out⟩
      case measure => simp [intOf]; omega
    ·obtain rfl : k = ws.length := by omega
     have hkI2 : ¬ (ws.length : Int) < (ws.length : Int) := by omega
     have EH := Lib.hid (show dX (.mk op nm need ws kids) = bO (.mk op nm need ws kids) by rw [Mq.out, hd.out, List.drop_length]; simp)
     have hbs := hbw.size
     clear hd Mq
     by_cases h1 : op = 1
     ·subst h1
      cases hok : aP nm
      ·have HN := Lib.hid (by have h := fw nm wr; rw [hok] at h; exact h)
       have EL := Lib.hid (show dX (.mk 1 nm need ws kids) = false by rw [EH.out, hd1, hok]; rfl)
       clear hok
       go_wp2_with fail
       refine HN.out.mono ?_
       rintro e W2 ⟨rfl, hb2⟩
       obtain ⟨e0, e1, e2, e3, e4, -⟩ := iH ((hb2.block _ (by omega)).trans ((hb.block _ (by omega)).trans HR0.out))
       clear c0 c1 c2 c3 c4
       go_wp2
       go_ret
       exact ⟨by rw [EL.out]; rfl, hbw.trans (hb2.mono hbs)⟩
      ·have HN := Lib.hid (by have h := fw nm wr; rw [hok] at h; exact h)
       by_cases hnd : need = 0
       ·have dnd : decide (need = 0) = true := decide_eq_true hnd
        have znd : (need == 0) = true := by rw [hnd]; rfl
        by_cases hsm : ws.length + kids.length = 0
        ·have dsm : decide (ws.length + kids.length = 0) = true := decide_eq_true hsm
         have zsm : (((ws.length : Int) + (kids.length : Int)) == 0) = true := by rw [beq_iff_eq]; omega
         have EL := Lib.hid (show dX (.mk 1 nm need ws kids) = true by rw [EH.out, hd1, hok, dnd, dsm]; rfl)
         clear hok dnd dsm hnd hsm
         go_wp2_with fail
         refine HN.out.mono ?_
         rintro e W2 ⟨rfl, hb2⟩
         obtain ⟨e0, e1, e2, e3, e4, -⟩ := iH ((hb2.block _ (by omega)).trans ((hb.block _ (by omega)).trans HR0.out))
         clear c0 c1 c2 c3 c4
         go_wp2
         go_ret
         exact ⟨by rw [EL.out]; rfl, hbw.trans (hb2.mono hbs)⟩
        ·have dsm : decide (ws.length + kids.length = 0) = false := decide_eq_false hsm
         have zsm : (((ws.length : Int) + (kids.length : Int)) == 0) = false := by rw [beq_eq_false_iff_ne]; omega
         have EL := Lib.hid (show dX (.mk 1 nm need ws kids) = false by rw [EH.out, hd1, hok, dnd, dsm]; rfl)
         clear hok dnd dsm hnd hsm
         go_wp2_with fail
         refine HN.out.mono ?_
         rintro e W2 ⟨rfl, hb2⟩
         obtain ⟨e0, e1, e2, e3, e4, -⟩ := iH ((hb2.block _ (by omega)).trans ((hb.block _ (by omega)).trans HR0.out))
         clear c0 c1 c2 c3 c4
         go_wp2
         go_ret
         exact ⟨by rw [EL.out]; rfl, hbw.trans (hb2.mono hbs)⟩
       ·have dnd : decide (need = 0) = false := decide_eq_false hnd
        have znd : (need == 0) = false := by rw [beq_eq_false_iff_ne]; exact hnd
        have EL := Lib.hid (show dX (.mk 1 nm need ws kids) = false by rw [EH.out, hd1, hok, dnd]; rfl)
        clear hok dnd hnd
        go_wp2_with fail
        refine HN.out.mono ?_
        rintro e W2 ⟨rfl, hb2⟩
        obtain ⟨e0, e1, e2, e3, e4, -⟩ := iH ((hb2.block _ (by omega)).trans ((hb.block _ (by omega)).trans HR0.out))
        clear c0 c1 c2 c3 c4
        go_wp2
        go_ret
        exact ⟨by rw [EL.out]; rfl, hbw.trans (hb2.mono hbs)⟩
     have q1 : (op == 1) = false := by rw [beq_eq_false_iff_ne]; exact h1
     by_cases h2 : op = 2
     ·subst h2
      by_cases hnm : nm.size = 0
      ·obtain rfl := bD hnm
       have dnm : decide ((⟨#[]⟩ : ByteArray).size = 0) = true := rfl
       cases hsl : small need
       ·have HM := Lib.hid (by have h := nI need wr; rw [hsl] at h; exact h)
        have EL := Lib.hid (show dX (.mk 2 ⟨#[]⟩ need ws kids) = false by rw [EH.out, hd2, dnm, hsl]; rfl)
        clear dnm hsl hnm
        go_wp2_with fail
        refine HM.out.mono ?_
        rintro e W3 ⟨rfl, rfl⟩
        go_wp2
        go_ret
        exact ⟨by rw [EL.out]; rfl, hbw⟩
       ·have HM := Lib.hid (by have h := nI need wr; rw [hsl] at h; exact h)
        by_cases hn0 : 0 < kids.length
        ·have dn0 : decide (0 < kids.length) = true := decide_eq_true hn0
         have zn0 : (0 : Int) < (kids.length : Int) := by omega
         by_cases hws : ws.length = 0
         ·have dws : decide (ws.length = 0) = true := decide_eq_true hws
          have zws : ((ws.length : Int) == 0) = true := by rw [beq_iff_eq]; omega
          have EL := Lib.hid (show dX (.mk 2 ⟨#[]⟩ need ws kids) = true by rw [EH.out, hd2, dnm, hsl, dn0, dws]; rfl)
          clear dnm hsl dn0 dws hnm hn0 hws
          go_wp2_with fail
          refine HM.out.mono ?_
          rintro e W3 ⟨rfl, rfl⟩
          go_wp2
          go_ret
          exact ⟨by rw [EL.out]; rfl, hbw⟩
         ·have dws : decide (ws.length = 0) = false := decide_eq_false hws
          have zws : ((ws.length : Int) == 0) = false := by rw [beq_eq_false_iff_ne]; omega
          by_cases hwn : ws.length = kids.length
          ·have dwn : decide (ws.length = kids.length) = true := decide_eq_true hwn
           have zwn : ((ws.length : Int) == (kids.length : Int)) = true := by rw [beq_iff_eq]; omega
           have EL := Lib.hid (show dX (.mk 2 ⟨#[]⟩ need ws kids) = true by rw [EH.out, hd2, dnm, hsl, dn0, dws, dwn]; rfl)
           clear dnm hsl dn0 dws dwn hnm hn0 hws hwn
           go_wp2_with fail
           refine HM.out.mono ?_
           rintro e W3 ⟨rfl, rfl⟩
           go_wp2
           go_ret
           exact ⟨by rw [EL.out]; rfl, hbw⟩
          ·have dwn : decide (ws.length = kids.length) = false := decide_eq_false hwn
           have zwn : ((ws.length : Int) == (kids.length : Int)) = false := by rw [beq_eq_false_iff_ne]; omega
           have EL := Lib.hid (show dX (.mk 2 ⟨#[]⟩ need ws kids) = false by rw [EH.out, hd2, dnm, hsl, dn0, dws, dwn]; rfl)
           clear dnm hsl dn0 dws dwn hnm hn0 hws hwn
           go_wp2_with fail
           refine HM.out.mono ?_
           rintro e W3 ⟨rfl, rfl⟩
           go_wp2
           go_ret
           exact ⟨by rw [EL.out]; rfl, hbw⟩
        ·have dn0 : decide (0 < kids.length) = false := decide_eq_false hn0
         have zn0 : ¬ (0 : Int) < (kids.length : Int) := by omega
         have EL := Lib.hid (show dX (.mk 2 ⟨#[]⟩ need ws kids) = false by rw [EH.out, hd2, dnm, hsl, dn0]; rfl)
         clear dnm hsl dn0 hnm hn0
         go_wp2_with fail
         refine HM.out.mono ?_
         rintro e W3 ⟨rfl, rfl⟩
         go_wp2
         go_ret
         exact ⟨by rw [EL.out]; rfl, hbw⟩
      ·have dnm : decide (nm.size = 0) = false := decide_eq_false hnm
       have hne := av (show 0 < nm.size by omega)
       have EL := Lib.hid (show dX (.mk 2 nm need ws kids) = false by rw [EH.out, hd2, dnm]; rfl)
       clear dnm hnm
       go_wp2
       go_ret
       exact ⟨by rw [EL.out]; rfl, hbw⟩
     have q2 : (op == 2) = false := by rw [beq_eq_false_iff_ne]; exact h2
     by_cases h3 : op = 3
     ·subst h3
      by_cases hnm : nm.size = 0
      ·obtain rfl := bD hnm
       have dnm : decide ((⟨#[]⟩ : ByteArray).size = 0) = true := rfl
       by_cases hnd : need = 0
       ·have dnd : decide (need = 0) = true := decide_eq_true hnd
        have znd : (need == 0) = true := by rw [hnd]; rfl
        by_cases hws : ws.length = 0
        ·have dws : decide (ws.length = 0) = true := decide_eq_true hws
         have zws : ((ws.length : Int) == 0) = true := by rw [beq_iff_eq]; omega
         by_cases hn2 : 2 ≤ kids.length
         ·have dn2 : decide (2 ≤ kids.length) = true := decide_eq_true hn2
          have zn2 : (2 : Int) ≤ (kids.length : Int) := by omega
          have EL := Lib.hid (show dX (.mk 3 ⟨#[]⟩ need ws kids) = true by rw [EH.out, hd3, dnm, dnd, dws, dn2]; rfl)
          clear dnm dnd dws dn2 hnm hnd hws hn2
          go_wp2
          go_ret
          exact ⟨by rw [EL.out]; rfl, hbw⟩
         ·have dn2 : decide (2 ≤ kids.length) = false := decide_eq_false hn2
          have zn2 : ¬ (2 : Int) ≤ (kids.length : Int) := by omega
          have EL := Lib.hid (show dX (.mk 3 ⟨#[]⟩ need ws kids) = false by rw [EH.out, hd3, dnm, dnd, dws, dn2]; rfl)
          clear dnm dnd dws dn2 hnm hnd hws hn2
          go_wp2
          go_ret
          exact ⟨by rw [EL.out]; rfl, hbw⟩
        ·have dws : decide (ws.length = 0) = false := decide_eq_false hws
         have zws : ((ws.length : Int) == 0) = false := by rw [beq_eq_false_iff_ne]; omega
         have EL := Lib.hid (show dX (.mk 3 ⟨#[]⟩ need ws kids) = false by rw [EH.out, hd3, dnm, dnd, dws]; rfl)
         clear dnm dnd dws hnm hnd hws
         go_wp2
         go_ret
         exact ⟨by rw [EL.out]; rfl, hbw⟩
       ·have dnd : decide (need = 0) = false := decide_eq_false hnd
        have znd : (need == 0) = false := by rw [beq_eq_false_iff_ne]; exact hnd
        have EL := Lib.hid (show dX (.mk 3 ⟨#[]⟩ need ws kids) = false by rw [EH.out, hd3, dnm, dnd]; rfl)
        clear dnm dnd hnm hnd
        go_wp2
        go_ret
        exact ⟨by rw [EL.out]; rfl, hbw⟩
      ·have dnm : decide (nm.size = 0) = false := decide_eq_false hnm
       have hne := av (show 0 < nm.size by omega)
       have EL := Lib.hid (show dX (.mk 3 nm need ws kids) = false by rw [EH.out, hd3, dnm]; rfl)
       clear dnm hnm
       go_wp2
       go_ret
       exact ⟨by rw [EL.out]; rfl, hbw⟩
     have q3 : (op == 3) = false := by rw [beq_eq_false_iff_ne]; exact h3
     by_cases h4 : op = 4
     ·subst h4
      by_cases hnm : nm.size = 0
      ·obtain rfl := bD hnm
       have dnm : decide ((⟨#[]⟩ : ByteArray).size = 0) = true := rfl
       by_cases hnd : need = 0
       ·have dnd : decide (need = 0) = true := decide_eq_true hnd
        have znd : (need == 0) = true := by rw [hnd]; rfl
        by_cases hws : ws.length = 0
        ·have dws : decide (ws.length = 0) = true := decide_eq_true hws
         have zws : ((ws.length : Int) == 0) = true := by rw [beq_iff_eq]; omega
         by_cases hn2 : 2 ≤ kids.length
         ·have dn2 : decide (2 ≤ kids.length) = true := decide_eq_true hn2
          have zn2 : (2 : Int) ≤ (kids.length : Int) := by omega
          have EL := Lib.hid (show dX (.mk 4 ⟨#[]⟩ need ws kids) = true by rw [EH.out, hd4, dnm, dnd, dws, dn2]; rfl)
          clear dnm dnd dws dn2 hnm hnd hws hn2
          go_wp2
          go_ret
          exact ⟨by rw [EL.out]; rfl, hbw⟩
         ·have dn2 : decide (2 ≤ kids.length) = false := decide_eq_false hn2
          have zn2 : ¬ (2 : Int) ≤ (kids.length : Int) := by omega
          have EL := Lib.hid (show dX (.mk 4 ⟨#[]⟩ need ws kids) = false by rw [EH.out, hd4, dnm, dnd, dws, dn2]; rfl)
          clear dnm dnd dws dn2 hnm hnd hws hn2
          go_wp2
          go_ret
          exact ⟨by rw [EL.out]; rfl, hbw⟩
        ·have dws : decide (ws.length = 0) = false := decide_eq_false hws
         have zws : ((ws.length : Int) == 0) = false := by rw [beq_eq_false_iff_ne]; omega
         have EL := Lib.hid (show dX (.mk 4 ⟨#[]⟩ need ws kids) = false by rw [EH.out, hd4, dnm, dnd, dws]; rfl)
         clear dnm dnd dws hnm hnd hws
         go_wp2
         go_ret
         exact ⟨by rw [EL.out]; rfl, hbw⟩
       ·have dnd : decide (need = 0) = false := decide_eq_false hnd
        have znd : (need == 0) = false := by rw [beq_eq_false_iff_ne]; exact hnd
        have EL := Lib.hid (show dX (.mk 4 ⟨#[]⟩ need ws kids) = false by rw [EH.out, hd4, dnm, dnd]; rfl)
        clear dnm dnd hnm hnd
        go_wp2
        go_ret
        exact ⟨by rw [EL.out]; rfl, hbw⟩
      ·have dnm : decide (nm.size = 0) = false := decide_eq_false hnm
       have hne := av (show 0 < nm.size by omega)
       have EL := Lib.hid (show dX (.mk 4 nm need ws kids) = false by rw [EH.out, hd4, dnm]; rfl)
       clear dnm hnm
       go_wp2
       go_ret
       exact ⟨by rw [EL.out]; rfl, hbw⟩
     have q4 : (op == 4) = false := by rw [beq_eq_false_iff_ne]; exact h4
     by_cases h5 : op = 5
     ·subst h5
      by_cases hnm : nm.size = 0
      ·obtain rfl := bD hnm
       have dnm : decide ((⟨#[]⟩ : ByteArray).size = 0) = true := rfl
       by_cases hnd : need = 0
       ·have dnd : decide (need = 0) = true := decide_eq_true hnd
        have znd : (need == 0) = true := by rw [hnd]; rfl
        by_cases hws : ws.length = 0
        ·have dws : decide (ws.length = 0) = true := decide_eq_true hws
         have zws : ((ws.length : Int) == 0) = true := by rw [beq_iff_eq]; omega
         by_cases hn1 : kids.length = 1
         ·have dn1 : decide (kids.length = 1) = true := decide_eq_true hn1
          have zn1 : ((kids.length : Int) == 1) = true := by rw [beq_iff_eq]; omega
          have EL := Lib.hid (show dX (.mk 5 ⟨#[]⟩ need ws kids) = true by rw [EH.out, hd5, dnm, dnd, dws, dn1]; rfl)
          clear dnm dnd dws dn1 hnm hnd hws hn1
          go_wp2
          go_ret
          exact ⟨by rw [EL.out]; rfl, hbw⟩
         ·have dn1 : decide (kids.length = 1) = false := decide_eq_false hn1
          have zn1 : ((kids.length : Int) == 1) = false := by rw [beq_eq_false_iff_ne]; omega
          have EL := Lib.hid (show dX (.mk 5 ⟨#[]⟩ need ws kids) = false by rw [EH.out, hd5, dnm, dnd, dws, dn1]; rfl)
          clear dnm dnd dws dn1 hnm hnd hws hn1
          go_wp2
          go_ret
          exact ⟨by rw [EL.out]; rfl, hbw⟩
        ·have dws : decide (ws.length = 0) = false := decide_eq_false hws
         have zws : ((ws.length : Int) == 0) = false := by rw [beq_eq_false_iff_ne]; omega
         have EL := Lib.hid (show dX (.mk 5 ⟨#[]⟩ need ws kids) = false by rw [EH.out, hd5, dnm, dnd, dws]; rfl)
         clear dnm dnd dws hnm hnd hws
         go_wp2
         go_ret
         exact ⟨by rw [EL.out]; rfl, hbw⟩
       ·have dnd : decide (need = 0) = false := decide_eq_false hnd
        have znd : (need == 0) = false := by rw [beq_eq_false_iff_ne]; exact hnd
        have EL := Lib.hid (show dX (.mk 5 ⟨#[]⟩ need ws kids) = false by rw [EH.out, hd5, dnm, dnd]; rfl)
        clear dnm dnd hnm hnd
        go_wp2
        go_ret
        exact ⟨by rw [EL.out]; rfl, hbw⟩
      ·have dnm : decide (nm.size = 0) = false := decide_eq_false hnm
       have hne := av (show 0 < nm.size by omega)
       have EL := Lib.hid (show dX (.mk 5 nm need ws kids) = false by rw [EH.out, hd5, dnm]; rfl)
       clear dnm hnm
       go_wp2
       go_ret
       exact ⟨by rw [EL.out]; rfl, hbw⟩
     have q5 : (op == 5) = false := by rw [beq_eq_false_iff_ne]; exact h5
     by_cases h6 : op = 6
     ·subst h6
      cases hok : aP nm
      ·have HN := Lib.hid (by have h := fw nm wr; rw [hok] at h; exact h)
       cases hsv : (nm == (⟨#[115, 101, 114, 118, 101, 114, 115]⟩ : ByteArray))
       ·have hs2 : (nm.toList == ((⟨#[115, 101, 114, 118, 101, 114, 115]⟩ : ByteArray)).toList) = false := by rw [iN]; exact hsv
        have hs6 : ¬ nm = (⟨#[115, 101, 114, 118, 101, 114, 115]⟩ : ByteArray) := fun e9 => by rw [(fB _ _).2 e9] at hsv; exact absurd hsv (by simp)
        have hs3 : ¬ nm.toList = [115, 101, 114, 118, 101, 114, 115] := fun e9 => hs6 (by rw [ByteArray.toList_eq] at e9; rw [← dR nm, e9]; rfl)
        have hs4 : (nm.toList == [115, 101, 114, 118, 101, 114, 115]) = false := by rw [beq_eq_false_iff_ne]; exact hs3
        have EL := Lib.hid (show dX (.mk 6 nm need ws kids) = false by rw [EH.out, hd6, hok, hsv]; rfl)
        clear hok hsv
        go_wp2_with fail
        refine HN.out.mono ?_
        rintro e W2 ⟨rfl, hb2⟩
        obtain ⟨e0, e1, e2, e3, e4, -⟩ := iH ((hb2.block _ (by omega)).trans ((hb.block _ (by omega)).trans HR0.out))
        clear c0 c1 c2 c3 c4
        go_wp2
        go_ret
        exact ⟨by rw [EL.out]; rfl, hbw.trans (hb2.mono hbs)⟩
       ·have hs2 : (nm.toList == ((⟨#[115, 101, 114, 118, 101, 114, 115]⟩ : ByteArray)).toList) = true := by rw [iN]; exact hsv
        have hs3 : nm.toList = [115, 101, 114, 118, 101, 114, 115] := by rw [ByteArray.toList_eq, (fB _ _).1 hsv]
        by_cases hnd : need = 0
        ·have dnd : decide (need = 0) = true := decide_eq_true hnd
         have znd : (need == 0) = true := by rw [hnd]; rfl
         by_cases hsm : ws.length + kids.length = 0
         ·have dsm : decide (ws.length + kids.length = 0) = true := decide_eq_true hsm
          have zsm : (((ws.length : Int) + (kids.length : Int)) == 0) = true := by rw [beq_iff_eq]; omega
          have EL := Lib.hid (show dX (.mk 6 nm need ws kids) = true by rw [EH.out, hd6, hok, hsv, dnd, dsm]; rfl)
          clear hok hsv dnd dsm hnd hsm
          go_wp2_with fail
          refine HN.out.mono ?_
          rintro e W2 ⟨rfl, hb2⟩
          obtain ⟨e0, e1, e2, e3, e4, -⟩ := iH ((hb2.block _ (by omega)).trans ((hb.block _ (by omega)).trans HR0.out))
          clear c0 c1 c2 c3 c4
          go_wp2
          go_ret
          exact ⟨by rw [EL.out]; rfl, hbw.trans (hb2.mono hbs)⟩
         ·have dsm : decide (ws.length + kids.length = 0) = false := decide_eq_false hsm
          have zsm : (((ws.length : Int) + (kids.length : Int)) == 0) = false := by rw [beq_eq_false_iff_ne]; omega
          have EL := Lib.hid (show dX (.mk 6 nm need ws kids) = false by rw [EH.out, hd6, hok, hsv, dnd, dsm]; rfl)
          clear hok hsv dnd dsm hnd hsm
          go_wp2_with fail
          refine HN.out.mono ?_
          rintro e W2 ⟨rfl, hb2⟩
          obtain ⟨e0, e1, e2, e3, e4, -⟩ := iH ((hb2.block _ (by omega)).trans ((hb.block _ (by omega)).trans HR0.out))
          clear c0 c1 c2 c3 c4
          go_wp2
          go_ret
          exact ⟨by rw [EL.out]; rfl, hbw.trans (hb2.mono hbs)⟩
        ·have dnd : decide (need = 0) = false := decide_eq_false hnd
         have znd : (need == 0) = false := by rw [beq_eq_false_iff_ne]; exact hnd
         have EL := Lib.hid (show dX (.mk 6 nm need ws kids) = false by rw [EH.out, hd6, hok, hsv, dnd]; rfl)
         clear hok hsv dnd hnd
         go_wp2_with fail
         refine HN.out.mono ?_
         rintro e W2 ⟨rfl, hb2⟩
         obtain ⟨e0, e1, e2, e3, e4, -⟩ := iH ((hb2.block _ (by omega)).trans ((hb.block _ (by omega)).trans HR0.out))
         clear c0 c1 c2 c3 c4
         go_wp2
         go_ret
         exact ⟨by rw [EL.out]; rfl, hbw.trans (hb2.mono hbs)⟩
      ·have HN := Lib.hid (by have h := fw nm wr; rw [hok] at h; exact h)
       by_cases hnd : need = 0
       ·have dnd : decide (need = 0) = true := decide_eq_true hnd
        have znd : (need == 0) = true := by rw [hnd]; rfl
        by_cases hsm : ws.length + kids.length = 0
        ·have dsm : decide (ws.length + kids.length = 0) = true := decide_eq_true hsm
         have zsm : (((ws.length : Int) + (kids.length : Int)) == 0) = true := by rw [beq_iff_eq]; omega
         have EL := Lib.hid (show dX (.mk 6 nm need ws kids) = true by rw [EH.out, hd6, hok, dnd, dsm]; rfl)
         clear hok dnd dsm hnd hsm
         go_wp2_with fail
         refine HN.out.mono ?_
         rintro e W2 ⟨rfl, hb2⟩
         obtain ⟨e0, e1, e2, e3, e4, -⟩ := iH ((hb2.block _ (by omega)).trans ((hb.block _ (by omega)).trans HR0.out))
         clear c0 c1 c2 c3 c4
         go_wp2
         go_ret
         exact ⟨by rw [EL.out]; rfl, hbw.trans (hb2.mono hbs)⟩
        ·have dsm : decide (ws.length + kids.length = 0) = false := decide_eq_false hsm
         have zsm : (((ws.length : Int) + (kids.length : Int)) == 0) = false := by rw [beq_eq_false_iff_ne]; omega
         have EL := Lib.hid (show dX (.mk 6 nm need ws kids) = false by rw [EH.out, hd6, hok, dnd, dsm]; rfl)
         clear hok dnd dsm hnd hsm
         go_wp2_with fail
         refine HN.out.mono ?_
         rintro e W2 ⟨rfl, hb2⟩
         obtain ⟨e0, e1, e2, e3, e4, -⟩ := iH ((hb2.block _ (by omega)).trans ((hb.block _ (by omega)).trans HR0.out))
         clear c0 c1 c2 c3 c4
         go_wp2
         go_ret
         exact ⟨by rw [EL.out]; rfl, hbw.trans (hb2.mono hbs)⟩
       ·have dnd : decide (need = 0) = false := decide_eq_false hnd
        have znd : (need == 0) = false := by rw [beq_eq_false_iff_ne]; exact hnd
        have EL := Lib.hid (show dX (.mk 6 nm need ws kids) = false by rw [EH.out, hd6, hok, dnd]; rfl)
        clear hok dnd hnd
        go_wp2_with fail
        refine HN.out.mono ?_
        rintro e W2 ⟨rfl, hb2⟩
        obtain ⟨e0, e1, e2, e3, e4, -⟩ := iH ((hb2.block _ (by omega)).trans ((hb.block _ (by omega)).trans HR0.out))
        clear c0 c1 c2 c3 c4
        go_wp2
        go_ret
        exact ⟨by rw [EL.out]; rfl, hbw.trans (hb2.mono hbs)⟩
     have q6 : (op == 6) = false := by rw [beq_eq_false_iff_ne]; exact h6
     by_cases h7 : op = 7
     ·subst h7
      cases hok : aP nm
      ·have HN := Lib.hid (by have h := fw nm wr; rw [hok] at h; exact h)
       cases hsv : (nm == (⟨#[115, 101, 114, 118, 101, 114, 115]⟩ : ByteArray))
       ·have hs2 : (nm.toList == ((⟨#[115, 101, 114, 118, 101, 114, 115]⟩ : ByteArray)).toList) = false := by rw [iN]; exact hsv
        have hs6 : ¬ nm = (⟨#[115, 101, 114, 118, 101, 114, 115]⟩ : ByteArray) := fun e9 => by rw [(fB _ _).2 e9] at hsv; exact absurd hsv (by simp)
        have hs3 : ¬ nm.toList = [115, 101, 114, 118, 101, 114, 115] := fun e9 => hs6 (by rw [ByteArray.toList_eq] at e9; rw [← dR nm, e9]; rfl)
        have hs4 : (nm.toList == [115, 101, 114, 118, 101, 114, 115]) = false := by rw [beq_eq_false_iff_ne]; exact hs3
        have EL := Lib.hid (show dX (.mk 7 nm need ws kids) = false by rw [EH.out, hd7, hok, hsv]; rfl)
        clear hok hsv
        go_wp2_with fail
        refine HN.out.mono ?_
        rintro e W2 ⟨rfl, hb2⟩
        obtain ⟨e0, e1, e2, e3, e4, -⟩ := iH ((hb2.block _ (by omega)).trans ((hb.block _ (by omega)).trans HR0.out))
        clear c0 c1 c2 c3 c4
        go_wp2
        go_ret
        exact ⟨by rw [EL.out]; rfl, hbw.trans (hb2.mono hbs)⟩
       ·have hs2 : (nm.toList == ((⟨#[115, 101, 114, 118, 101, 114, 115]⟩ : ByteArray)).toList) = true := by rw [iN]; exact hsv
        have hs3 : nm.toList = [115, 101, 114, 118, 101, 114, 115] := by rw [ByteArray.toList_eq, (fB _ _).1 hsv]
        by_cases hnd : need = 0
        ·have dnd : decide (need = 0) = true := decide_eq_true hnd
         have znd : (need == 0) = true := by rw [hnd]; rfl
         by_cases hsm : ws.length + kids.length = 0
         ·have dsm : decide (ws.length + kids.length = 0) = true := decide_eq_true hsm
          have zsm : (((ws.length : Int) + (kids.length : Int)) == 0) = true := by rw [beq_iff_eq]; omega
          have EL := Lib.hid (show dX (.mk 7 nm need ws kids) = true by rw [EH.out, hd7, hok, hsv, dnd, dsm]; rfl)
          clear hok hsv dnd dsm hnd hsm
          go_wp2_with fail
          refine HN.out.mono ?_
          rintro e W2 ⟨rfl, hb2⟩
          obtain ⟨e0, e1, e2, e3, e4, -⟩ := iH ((hb2.block _ (by omega)).trans ((hb.block _ (by omega)).trans HR0.out))
          clear c0 c1 c2 c3 c4
          go_wp2
          go_ret
          exact ⟨by rw [EL.out]; rfl, hbw.trans (hb2.mono hbs)⟩
         ·have dsm : decide (ws.length + kids.length = 0) = false := decide_eq_false hsm
          have zsm : (((ws.length : Int) + (kids.length : Int)) == 0) = false := by rw [beq_eq_false_iff_ne]; omega
          have EL := Lib.hid (show dX (.mk 7 nm need ws kids) = false by rw [EH.out, hd7, hok, hsv, dnd, dsm]; rfl)
          clear hok hsv dnd dsm hnd hsm
          go_wp2_with fail
          refine HN.out.mono ?_
          rintro e W2 ⟨rfl, hb2⟩
          obtain ⟨e0, e1, e2, e3, e4, -⟩ := iH ((hb2.block _ (by omega)).trans ((hb.block _ (by omega)).trans HR0.out))
          clear c0 c1 c2 c3 c4
          go_wp2
          go_ret
          exact ⟨by rw [EL.out]; rfl, hbw.trans (hb2.mono hbs)⟩
        ·have dnd : decide (need = 0) = false := decide_eq_false hnd
         have znd : (need == 0) = false := by rw [beq_eq_false_iff_ne]; exact hnd
         have EL := Lib.hid (show dX (.mk 7 nm need ws kids) = false by rw [EH.out, hd7, hok, hsv, dnd]; rfl)
         clear hok hsv dnd hnd
         go_wp2_with fail
         refine HN.out.mono ?_
         rintro e W2 ⟨rfl, hb2⟩
         obtain ⟨e0, e1, e2, e3, e4, -⟩ := iH ((hb2.block _ (by omega)).trans ((hb.block _ (by omega)).trans HR0.out))
         clear c0 c1 c2 c3 c4
         go_wp2
         go_ret
         exact ⟨by rw [EL.out]; rfl, hbw.trans (hb2.mono hbs)⟩
      ·have HN := Lib.hid (by have h := fw nm wr; rw [hok] at h; exact h)
       by_cases hnd : need = 0
       ·have dnd : decide (need = 0) = true := decide_eq_true hnd
        have znd : (need == 0) = true := by rw [hnd]; rfl
        by_cases hsm : ws.length + kids.length = 0
        ·have dsm : decide (ws.length + kids.length = 0) = true := decide_eq_true hsm
         have zsm : (((ws.length : Int) + (kids.length : Int)) == 0) = true := by rw [beq_iff_eq]; omega
         have EL := Lib.hid (show dX (.mk 7 nm need ws kids) = true by rw [EH.out, hd7, hok, dnd, dsm]; rfl)
         clear hok dnd dsm hnd hsm
         go_wp2_with fail
         refine HN.out.mono ?_
         rintro e W2 ⟨rfl, hb2⟩
         obtain ⟨e0, e1, e2, e3, e4, -⟩ := iH ((hb2.block _ (by omega)).trans ((hb.block _ (by omega)).trans HR0.out))
         clear c0 c1 c2 c3 c4
         go_wp2
         go_ret
         exact ⟨by rw [EL.out]; rfl, hbw.trans (hb2.mono hbs)⟩
        ·have dsm : decide (ws.length + kids.length = 0) = false := decide_eq_false hsm
         have zsm : (((ws.length : Int) + (kids.length : Int)) == 0) = false := by rw [beq_eq_false_iff_ne]; omega
         have EL := Lib.hid (show dX (.mk 7 nm need ws kids) = false by rw [EH.out, hd7, hok, dnd, dsm]; rfl)
         clear hok dnd dsm hnd hsm
         go_wp2_with fail
         refine HN.out.mono ?_
         rintro e W2 ⟨rfl, hb2⟩
         obtain ⟨e0, e1, e2, e3, e4, -⟩ := iH ((hb2.block _ (by omega)).trans ((hb.block _ (by omega)).trans HR0.out))
         clear c0 c1 c2 c3 c4
         go_wp2
         go_ret
         exact ⟨by rw [EL.out]; rfl, hbw.trans (hb2.mono hbs)⟩
       ·have dnd : decide (need = 0) = false := decide_eq_false hnd
        have znd : (need == 0) = false := by rw [beq_eq_false_iff_ne]; exact hnd
        have EL := Lib.hid (show dX (.mk 7 nm need ws kids) = false by rw [EH.out, hd7, hok, dnd]; rfl)
        clear hok dnd hnd
        go_wp2_with fail
        refine HN.out.mono ?_
        rintro e W2 ⟨rfl, hb2⟩
        obtain ⟨e0, e1, e2, e3, e4, -⟩ := iH ((hb2.block _ (by omega)).trans ((hb.block _ (by omega)).trans HR0.out))
        clear c0 c1 c2 c3 c4
        go_wp2
        go_ret
        exact ⟨by rw [EL.out]; rfl, hbw.trans (hb2.mono hbs)⟩
     have q7 : (op == 7) = false := by rw [beq_eq_false_iff_ne]; exact h7
     by_cases h8 : op = 8
     ·subst h8
      cases hok : aP nm
      ·have HN := Lib.hid (by have h := fw nm wr; rw [hok] at h; exact h)
       cases hsv : (nm == (⟨#[115, 101, 114, 118, 101, 114, 115]⟩ : ByteArray))
       ·have hs2 : (nm.toList == ((⟨#[115, 101, 114, 118, 101, 114, 115]⟩ : ByteArray)).toList) = false := by rw [iN]; exact hsv
        have hs6 : ¬ nm = (⟨#[115, 101, 114, 118, 101, 114, 115]⟩ : ByteArray) := fun e9 => by rw [(fB _ _).2 e9] at hsv; exact absurd hsv (by simp)
        have hs3 : ¬ nm.toList = [115, 101, 114, 118, 101, 114, 115] := fun e9 => hs6 (by rw [ByteArray.toList_eq] at e9; rw [← dR nm, e9]; rfl)
        have hs4 : (nm.toList == [115, 101, 114, 118, 101, 114, 115]) = false := by rw [beq_eq_false_iff_ne]; exact hs3
        have EL := Lib.hid (show dX (.mk 8 nm need ws kids) = false by rw [EH.out, hd8, hok, hsv]; rfl)
        clear hok hsv
        go_wp2_with fail
        refine HN.out.mono ?_
        rintro e W2 ⟨rfl, hb2⟩
        obtain ⟨e0, e1, e2, e3, e4, -⟩ := iH ((hb2.block _ (by omega)).trans ((hb.block _ (by omega)).trans HR0.out))
        clear c0 c1 c2 c3 c4
        go_wp2
        go_ret
        exact ⟨by rw [EL.out]; rfl, hbw.trans (hb2.mono hbs)⟩
       ·have hs2 : (nm.toList == ((⟨#[115, 101, 114, 118, 101, 114, 115]⟩ : ByteArray)).toList) = true := by rw [iN]; exact hsv
        have hs3 : nm.toList = [115, 101, 114, 118, 101, 114, 115] := by rw [ByteArray.toList_eq, (fB _ _).1 hsv]
        by_cases hnd : need = 0
        ·have dnd : decide (need = 0) = true := decide_eq_true hnd
         have znd : (need == 0) = true := by rw [hnd]; rfl
         by_cases hsm : ws.length + kids.length = 0
         ·have dsm : decide (ws.length + kids.length = 0) = true := decide_eq_true hsm
          have zsm : (((ws.length : Int) + (kids.length : Int)) == 0) = true := by rw [beq_iff_eq]; omega
          have EL := Lib.hid (show dX (.mk 8 nm need ws kids) = true by rw [EH.out, hd8, hok, hsv, dnd, dsm]; rfl)
          clear hok hsv dnd dsm hnd hsm
          go_wp2_with fail
          refine HN.out.mono ?_
          rintro e W2 ⟨rfl, hb2⟩
          obtain ⟨e0, e1, e2, e3, e4, -⟩ := iH ((hb2.block _ (by omega)).trans ((hb.block _ (by omega)).trans HR0.out))
          clear c0 c1 c2 c3 c4
          go_wp2
          go_ret
          exact ⟨by rw [EL.out]; rfl, hbw.trans (hb2.mono hbs)⟩
         ·have dsm : decide (ws.length + kids.length = 0) = false := decide_eq_false hsm
          have zsm : (((ws.length : Int) + (kids.length : Int)) == 0) = false := by rw [beq_eq_false_iff_ne]; omega
          have EL := Lib.hid (show dX (.mk 8 nm need ws kids) = false by rw [EH.out, hd8, hok, hsv, dnd, dsm]; rfl)
          clear hok hsv dnd dsm hnd hsm
          go_wp2_with fail
          refine HN.out.mono ?_
          rintro e W2 ⟨rfl, hb2⟩
          obtain ⟨e0, e1, e2, e3, e4, -⟩ := iH ((hb2.block _ (by omega)).trans ((hb.block _ (by omega)).trans HR0.out))
          clear c0 c1 c2 c3 c4
          go_wp2
          go_ret
          exact ⟨by rw [EL.out]; rfl, hbw.trans (hb2.mono hbs)⟩
        ·have dnd : decide (need = 0) = false := decide_eq_false hnd
         have znd : (need == 0) = false := by rw [beq_eq_false_iff_ne]; exact hnd
         have EL := Lib.hid (show dX (.mk 8 nm need ws kids) = false by rw [EH.out, hd8, hok, hsv, dnd]; rfl)
         clear hok hsv dnd hnd
         go_wp2_with fail
         refine HN.out.mono ?_
         rintro e W2 ⟨rfl, hb2⟩
         obtain ⟨e0, e1, e2, e3, e4, -⟩ := iH ((hb2.block _ (by omega)).trans ((hb.block _ (by omega)).trans HR0.out))
         clear c0 c1 c2 c3 c4
         go_wp2
         go_ret
         exact ⟨by rw [EL.out]; rfl, hbw.trans (hb2.mono hbs)⟩
      ·have HN := Lib.hid (by have h := fw nm wr; rw [hok] at h; exact h)
       by_cases hnd : need = 0
       ·have dnd : decide (need = 0) = true := decide_eq_true hnd
        have znd : (need == 0) = true := by rw [hnd]; rfl
        by_cases hsm : ws.length + kids.length = 0
        ·have dsm : decide (ws.length + kids.length = 0) = true := decide_eq_true hsm
         have zsm : (((ws.length : Int) + (kids.length : Int)) == 0) = true := by rw [beq_iff_eq]; omega
         have EL := Lib.hid (show dX (.mk 8 nm need ws kids) = true by rw [EH.out, hd8, hok, dnd, dsm]; rfl)
         clear hok dnd dsm hnd hsm
         go_wp2_with fail
         refine HN.out.mono ?_
         rintro e W2 ⟨rfl, hb2⟩
         obtain ⟨e0, e1, e2, e3, e4, -⟩ := iH ((hb2.block _ (by omega)).trans ((hb.block _ (by omega)).trans HR0.out))
         clear c0 c1 c2 c3 c4
         go_wp2
         go_ret
         exact ⟨by rw [EL.out]; rfl, hbw.trans (hb2.mono hbs)⟩
        ·have dsm : decide (ws.length + kids.length = 0) = false := decide_eq_false hsm
         have zsm : (((ws.length : Int) + (kids.length : Int)) == 0) = false := by rw [beq_eq_false_iff_ne]; omega
         have EL := Lib.hid (show dX (.mk 8 nm need ws kids) = false by rw [EH.out, hd8, hok, dnd, dsm]; rfl)
         clear hok dnd dsm hnd hsm
         go_wp2_with fail
         refine HN.out.mono ?_
         rintro e W2 ⟨rfl, hb2⟩
         obtain ⟨e0, e1, e2, e3, e4, -⟩ := iH ((hb2.block _ (by omega)).trans ((hb.block _ (by omega)).trans HR0.out))
         clear c0 c1 c2 c3 c4
         go_wp2
         go_ret
         exact ⟨by rw [EL.out]; rfl, hbw.trans (hb2.mono hbs)⟩
       ·have dnd : decide (need = 0) = false := decide_eq_false hnd
        have znd : (need == 0) = false := by rw [beq_eq_false_iff_ne]; exact hnd
        have EL := Lib.hid (show dX (.mk 8 nm need ws kids) = false by rw [EH.out, hd8, hok, dnd]; rfl)
        clear hok dnd hnd
        go_wp2_with fail
        refine HN.out.mono ?_
        rintro e W2 ⟨rfl, hb2⟩
        obtain ⟨e0, e1, e2, e3, e4, -⟩ := iH ((hb2.block _ (by omega)).trans ((hb.block _ (by omega)).trans HR0.out))
        clear c0 c1 c2 c3 c4
        go_wp2
        go_ret
        exact ⟨by rw [EL.out]; rfl, hbw.trans (hb2.mono hbs)⟩
     have q8 : (op == 8) = false := by rw [beq_eq_false_iff_ne]; exact h8
     have HO := Lib.hid (show ¬ (1 ≤ op ∧ op ≤ 8) by omega)
     have EL := Lib.hid (show dX (.mk op nm need ws kids) = false by rw [EH.out, hd0 _ _ _ _ HO.out])
     go_wp2
     go_ret
     exact ⟨by rw [EL.out]; rfl, hbw⟩
theorem lC (t : Tm) : ITOk t := by
 have : ∀ (n : Nat) (t : Tm), au t ≤ n → ITOk t := by
  intro n
  induction n with
  | zero => intro t ht; exact absurd ht (by cases t; rw [au]; omega)
  | succ n ih => intro t ht; exact Ig t (fun k hk => ih k (by have := iC hk; omega))
 exact this _ t (Nat.le_refl _)
end Go.Proofs.YtbmglebipepdmaaGreatDoor
namespace Go.Proofs.YtbmglebipepdmaaGreatDoor
open Go.RowKit
theorem sN (l : List (List UInt8)) (sep : List UInt8) (k : Nat) (h : k < l.length) : Lib.join (l.take (k + 1)) sep = Lib.join (l.take k) sep ++ (if k = 0 then [] else sep) ++ l[k] := by
  match l, h with
  | x :: r, h =>
    cases k with
    | zero => simp [Lib.join_one, Lib.join_nil]
    | succ k =>
      simp only [List.length_cons] at h
      have e := Lib.joinTail_take_succ sep r k r[k] (List.getElem?_eq_getElem (by omega))
      rw [List.take_succ_cons, List.take_succ_cons, Lib.join_cons, Lib.join_cons, e]
      simp
theorem oz (l : List (List UInt8)) (sep : List UInt8) (k : Nat) : (Lib.join (l.take k) sep).length ≤ (Lib.join l sep).length := by
  match l with
  | [] => simp
  | x :: r =>
    cases k with
    | zero => simp [Lib.join_nil]
    | succ k =>
      have := Lib.joinTail_take_le sep r k
      rw [List.take_succ_cons, Lib.join_cons, Lib.join_cons, List.length_append, List.length_append]
      omega
theorem kH (l : List (List UInt8)) (sep : List UInt8) (h : 0 < l.length) : Lib.join (l.take (0 + 1)) sep = Lib.join (l.take 0) sep ++ l[0] := by rw [sN l sep 0 h]; simp
theorem kR (l : List (List UInt8)) (sep : List UInt8) (k : Nat) (h : k < l.length) (hk : 0 < k) : Lib.join (l.take (k + 1)) sep = Lib.join (l.take k) sep ++ sep ++ l[k] := by rw [sN l sep k h, if_neg (by omega)]

/-- The Ops of kids that stand in parentheses. -/
def xg (b : Bool) : List Int := if b then [4] else [3, 4]
/-- Which terms Cs takes. -/
def TTOk (t : Tm) : Prop := ∀ (v : Value) (w : World) (S : Nat → Prop), gm w S t v → (∀ g, S g → g < w.heap.size) → dX t = true → au t ≤ 1000000000 → Pow w →
  Calls Tryz.prog 77 #[v] w fun e w' => e = .returned (.string (bs (aS t))) ∧ Below w.heap.size w w'

theorem Jl (t : Tm) (b : Bool) (x : List UInt8) (h : t.op = 4 ∨ b = false ∧ t.op = 3) : par (xg b) t x = [40] ++ x ++ [41] := by
  unfold par xg
  rcases h with h | ⟨rfl, h⟩
  · rw [h]; cases b <;> rfl
  · rw [h]; rfl
theorem AZ (t : Tm) (b : Bool) (x : List UInt8) (h4 : t.op ≠ 4) (h3 : b = true ∨ t.op ≠ 3) : par (xg b) t x = x := by
  have key : (xg b).contains t.op = false := by
    cases b
    · have h3 : t.op ≠ 3 := by
        rcases h3 with h | h
        · simp at h
        · exact h
      show ([3, 4] : List Int).contains t.op = false
      rw [List.contains_eq_mem, decide_eq_false_iff_not]
      simp; omega
    · show ([4] : List Int).contains t.op = false
      rw [List.contains_eq_mem, decide_eq_false_iff_not]
      simp; omega
  unfold par
  rw [key, if_neg (by simp)]

set_option maxRecDepth 100000 in
set_option maxHeartbeats 8000000 in
theorem KZ (l : List Tm) (b : Bool) (sep : ByteArray) (S : Nat → Prop) (A : Option Addr) (c : Nat) (w : World) (hl : bG (gm w S) w S 5 A l) (hS : ∀ g, S g → g < w.heap.size)
    (hok : ∀ k ∈ l, dX k = true) (hT : ∀ k ∈ l, TTOk k) (hsz : aR l ≤ 1000000000) (hsep : sep.size ≤ 3) (hpw : Pow w) :
    Calls Tryz.prog 107 #[.slice A l.length c, .string sep, .bool b] w fun e w' => e = .returned (.string (bs (Lib.join (l.map fun k => par (xg b) k (aS k)) sep.data.toList))) ∧ Below w.heap.size w w' := by
  have HL := Lib.hid hl
  have HK := Lib.hid hok
  have HIH := Lib.hid hT
  have HP := Lib.hid hpw
  have hll := kz l
  obtain ⟨Q, hQ⟩ : ∃ Q, Q = l.map fun k => par (xg b) k (aS k) := ⟨_, rfl⟩
  have hQl : Q.length = l.length := by rw [hQ, List.length_map]
  have hpl := Ju hok (xg b) sep.data.toList (by simpa using hsep)
  rw [← hQ] at hpl ⊢
  have HLE := Lib.hid (show ∀ k, (Lib.join (Q.take k) sep.data.toList).length ≤ 48000000000 from fun k => by have := oz Q sep.data.toList k; omega)
  have HQ := Lib.hid (show ∀ k (h : k < l.length) (h2 : k < Q.length), Q[k] = par (xg b) l[k] (aS l[k]) from fun k h h2 => by simp [hQ])
  have HQL := Lib.hid hQl
  clear hl hok hT hpw hQ hQl hpl
  go_enter Tryz.func107, Tryz.ntmps107
  go_wp2
  go_loopw [7, 8] (fun o x wr => ∃ k : Nat, k ≤ l.length ∧ x = .int .i64 k ∧ o = .string (bs (Lib.join (Q.take k) sep.data.toList)) ∧ Below w.heap.size w wr) (fun _ x _ => l.length - (intOf x).toNat)
  case atStart => exact ⟨0, Nat.zero_le _, rfl, by simp [Lib.join_nil]; rfl, Below.refl _ _⟩
  case round =>
    obtain ⟨k, hk, rfl, rfl, hb⟩ := hrel
    have hsr := hb.size
    obtain ⟨T, hTd⟩ : ∃ T, T = bs (Lib.join (Q.take k) sep.data.toList) := ⟨_, rfl⟩
    have hTs : T.size ≤ 48000000000 := by rw [hTd, cZ]; exact HLE.out k
    rw [← hTd]
    have HT := Lib.hid hTd
    clear hTd
    by_cases hlt : k < l.length
    · obtain ⟨g, o, op1, nm1, nd1, wA1, wn1, wc1, kA1, kn1, kc1, rfl, hSg, htm, k0, k1, k2, k3, k4, hop⟩ := gV (HL.out.keep (P' := gm wr S) (aF hb hS) (fun _ _ h => h.keep (aF hb hS))) hlt
      have hgs : g < wr.heap.size := World.block_lt_of_cell? wr _ k0
      have hkI : (k : Int) < (l.length : Int) := by omega
      have hk0 : (0 : Int) ≤ (k : Int) := by omega
      have hmem : l[k] ∈ l := List.getElem_mem hlt
      have hkl : k < Q.length := by rw [HQL.out]; exact hlt
      have hts := bX hmem
      have htl := fO (HK.out _ hmem)
      have hC := HIH.out _ hmem _ wr S htm (fun g hg => by have := hS g hg; omega) (HK.out _ hmem) (by omega) (HP.out.below hb)
      have hq := HQ.out k hlt hkl
      have hus : (bs (aS l[k])).size ≤ 48000000000 := by rw [cZ]; omega
      obtain ⟨t, ht⟩ : ∃ t, t = l[k] := ⟨_, rfl⟩
      rw [← ht] at hC hq hop hus
      obtain ⟨U, hU⟩ : ∃ U, U = bs (aS t) := ⟨_, rfl⟩
      rw [← hU] at hC hus
      have HU := Lib.hid hU
      have HC := Lib.hid hC
      have HOP := Lib.hid hop
      clear htm htl hts hC ht hU hop hmem
      by_cases h4 : op1 = 4
      · have q4 : (op1 == 4) = true := by rw [h4]; rfl
        rw [Jl _ _ _ (.inl (HOP.out.symm.trans h4))] at hq
        clear h4
        by_cases hz : 0 < k
        · have hzI : (0 : Int) < (k : Int) := by omega
          have HS : Hid (Lib.join (Q.take (k + 1)) sep.data.toList = Lib.join (Q.take k) sep.data.toList ++ sep.data.toList ++ Q[k]) := kR Q _ k hkl hz
          rw [hq] at HS
          clear hq hz
          go_wp2_with fail
          refine HC.out.mono ?_
          rintro e W2 ⟨rfl, hb2⟩
          go_wp2
          go_roundw
          case rel =>
            refine ⟨k + 1, by omega, by go_num, ?_, hb.trans (hb2.mono (by omega))⟩
            · rw [HS.out, HT.out, HU.out, ← dR sep, show (⟨#[40]⟩ : ByteArray) = bs [40] from rfl, show (⟨#[41]⟩ : ByteArray) = bs [41] from rfl]
              simp only [bW, fK, List.append_assoc]
          case measure => simp [intOf]; omega
        · obtain rfl : k = 0 := by omega
          rw [Nat.zero_mul, Nat.add_zero] at k0 k1 k2 k3 k4
          have HS : Hid (Lib.join (Q.take (0 + 1)) sep.data.toList = Lib.join (Q.take 0) sep.data.toList ++ Q[0]) := kH Q _ hkl
          rw [hq] at HS
          clear hq hz
          go_wp2_with fail
          refine HC.out.mono ?_
          rintro e W2 ⟨rfl, hb2⟩
          go_wp2
          go_roundw
          case rel =>
            refine ⟨0 + 1, by omega, by go_num, ?_, hb.trans (hb2.mono (by omega))⟩
            · rw [HS.out, HT.out, HU.out, show (⟨#[40]⟩ : ByteArray) = bs [40] from rfl, show (⟨#[41]⟩ : ByteArray) = bs [41] from rfl]
              simp only [bW, List.append_assoc]
          case measure => simp [intOf]; omega
      · have q4 : (op1 == 4) = false := by rw [beq_eq_false_iff_ne]; exact h4
        cases b
        · by_cases h3 : op1 = 3
          · have q3 : (op1 == 3) = true := by rw [h3]; rfl
            rw [Jl _ _ _ (.inr ⟨rfl, HOP.out.symm.trans h3⟩)] at hq
            clear h3 h4
            by_cases hz : 0 < k
            · have hzI : (0 : Int) < (k : Int) := by omega
              have HS : Hid (Lib.join (Q.take (k + 1)) sep.data.toList = Lib.join (Q.take k) sep.data.toList ++ sep.data.toList ++ Q[k]) := kR Q _ k hkl hz
              rw [hq] at HS
              clear hq hz
              go_wp2_with fail
              refine HC.out.mono ?_
              rintro e W2 ⟨rfl, hb2⟩
              go_wp2
              go_roundw
              case rel =>
                refine ⟨k + 1, by omega, by go_num, ?_, hb.trans (hb2.mono (by omega))⟩
                · rw [HS.out, HT.out, HU.out, ← dR sep, show (⟨#[40]⟩ : ByteArray) = bs [40] from rfl, show (⟨#[41]⟩ : ByteArray) = bs [41] from rfl]
                  simp only [bW, fK, List.append_assoc]
              case measure => simp [intOf]; omega
            · obtain rfl : k = 0 := by omega
              rw [Nat.zero_mul, Nat.add_zero] at k0 k1 k2 k3 k4
              have HS : Hid (Lib.join (Q.take (0 + 1)) sep.data.toList = Lib.join (Q.take 0) sep.data.toList ++ Q[0]) := kH Q _ hkl
              rw [hq] at HS
              clear hq hz
              go_wp2_with fail
              refine HC.out.mono ?_
              rintro e W2 ⟨rfl, hb2⟩
              go_wp2
              go_roundw
              case rel =>
                refine ⟨0 + 1, by omega, by go_num, ?_, hb.trans (hb2.mono (by omega))⟩
                · rw [HS.out, HT.out, HU.out, show (⟨#[40]⟩ : ByteArray) = bs [40] from rfl, show (⟨#[41]⟩ : ByteArray) = bs [41] from rfl]
                  simp only [bW, List.append_assoc]
              case measure => simp [intOf]; omega
          · have q3 : (op1 == 3) = false := by rw [beq_eq_false_iff_ne]; exact h3
            rw [AZ _ _ _ (by rw [← HOP.out]; exact h4) (.inr (by rw [← HOP.out]; exact h3))] at hq
            clear h3 h4
            by_cases hz : 0 < k
            · have hzI : (0 : Int) < (k : Int) := by omega
              have HS : Hid (Lib.join (Q.take (k + 1)) sep.data.toList = Lib.join (Q.take k) sep.data.toList ++ sep.data.toList ++ Q[k]) := kR Q _ k hkl hz
              rw [hq] at HS
              clear hq hz
              go_wp2_with fail
              refine HC.out.mono ?_
              rintro e W2 ⟨rfl, hb2⟩
              go_wp2
              go_roundw
              case rel =>
                refine ⟨k + 1, by omega, by go_num, ?_, hb.trans (hb2.mono (by omega))⟩
                · rw [HS.out, HT.out, HU.out, ← dR sep]
                  simp only [bW, fK, List.append_assoc]
              case measure => simp [intOf]; omega
            · obtain rfl : k = 0 := by omega
              rw [Nat.zero_mul, Nat.add_zero] at k0 k1 k2 k3 k4
              have HS : Hid (Lib.join (Q.take (0 + 1)) sep.data.toList = Lib.join (Q.take 0) sep.data.toList ++ Q[0]) := kH Q _ hkl
              rw [hq] at HS
              clear hq hz
              go_wp2_with fail
              refine HC.out.mono ?_
              rintro e W2 ⟨rfl, hb2⟩
              go_wp2
              go_roundw
              case rel =>
                refine ⟨0 + 1, by omega, by go_num, ?_, hb.trans (hb2.mono (by omega))⟩
                · rw [HS.out, HT.out, HU.out]
                  simp only [bW]
              case measure => simp [intOf]; omega
        · rw [AZ _ _ _ (by rw [← HOP.out]; exact h4) (.inl rfl)] at hq
          clear h4
          by_cases hz : 0 < k
          · have hzI : (0 : Int) < (k : Int) := by omega
            have HS : Hid (Lib.join (Q.take (k + 1)) sep.data.toList = Lib.join (Q.take k) sep.data.toList ++ sep.data.toList ++ Q[k]) := kR Q _ k hkl hz
            rw [hq] at HS
            clear hq hz
            go_wp2_with fail
            refine HC.out.mono ?_
            rintro e W2 ⟨rfl, hb2⟩
            go_wp2
            go_roundw
            case rel =>
              refine ⟨k + 1, by omega, by go_num, ?_, hb.trans (hb2.mono (by omega))⟩
              · rw [HS.out, HT.out, HU.out, ← dR sep]
                simp only [bW, fK, List.append_assoc]
            case measure => simp [intOf]; omega
          · obtain rfl : k = 0 := by omega
            rw [Nat.zero_mul, Nat.add_zero] at k0 k1 k2 k3 k4
            have HS : Hid (Lib.join (Q.take (0 + 1)) sep.data.toList = Lib.join (Q.take 0) sep.data.toList ++ Q[0]) := kH Q _ hkl
            rw [hq] at HS
            clear hq hz
            go_wp2_with fail
            refine HC.out.mono ?_
            rintro e W2 ⟨rfl, hb2⟩
            go_wp2
            go_roundw
            case rel =>
              refine ⟨0 + 1, by omega, by go_num, ?_, hb.trans (hb2.mono (by omega))⟩
              · rw [HS.out, HT.out, HU.out]
                simp only [bW]
            case measure => simp [intOf]; omega
    · obtain rfl : k = l.length := by omega
      have hkI : ¬ (l.length : Int) < (l.length : Int) := by omega
      have HE := Lib.hid (show T = bs (Lib.join Q sep.data.toList) by rw [HT.out, ← HQL.out, List.take_length])
      go_wp2
      go_ret
      exact ⟨by rw [← HE.out]; rfl, hb⟩


theorem Gx (ws : List Int) (ks : List Tm) (k : Nat) (hk : k < ks.length) (hww : ws.length = 0 ∨ ws.length = ks.length) (h : k < (weighed ws (ks.map aS)).length) :
    (weighed ws (ks.map aS))[k] = if h0 : k < ws.length then aS ks[k] ++ ([42] ++ Lib.itoa ws[k]) else aS ks[k] := by
  have key : (weighed ws (ks.map aS))[k]? = some (if h0 : k < ws.length then aS ks[k] ++ ([42] ++ Lib.itoa ws[k]) else aS ks[k]) := by
    unfold weighed
    by_cases hz : ws.length = 0
    · rw [if_pos hz, dif_neg (by omega)]; simp [hk]
    · have hw : k < ws.length := by rcases hww with e | e <;> omega
      rw [if_neg hz, dif_pos hw, List.getElem?_zipWith]
      simp [hk, hw]
  rw [List.getElem?_eq_getElem h] at key
  exact Option.some.inj key
theorem Gz (ws : List Int) (ks : List Tm) (hww : ws.length = 0 ∨ ws.length = ks.length) : (weighed ws (ks.map aS)).length = ks.length := by
  unfold weighed
  split
  · simp
  · simp; omega

set_option maxRecDepth 100000 in
set_option maxHeartbeats 8000000 in
theorem Au (t : Tm) (ih : ∀ k ∈ t.kids, TTOk k) : TTOk t := by
  intro v w S hv hS hok hsz hpw
  obtain ⟨hhead, hws, hks⟩ := nC hok
  have hss := fH t
  have htl := fO hok
  cases hv with
  | mk op nm need ws kids wA kA cw kc vs hw hwc hk hkc hl h =>
  have hss : au (.mk op nm need ws kids) = 1 + nm.size + ws.length + aR kids := hss
  have hnm : nm.size ≤ 1000000000 := by omega
  have hkz : aR kids ≤ 1000000000 := by omega
  have hkl := kz kids
  have hwl : ws.length ≤ 1000000000 := by omega
  have IH := Lib.hid (show ∀ k ∈ kids, TTOk k from ih)
  have Mw := Lib.hid (show ∀ k ∈ kids, dX k = true from hks)
  have HWok := Lib.hid (show ∀ k ∈ ws, small k = true from hws)
  have HH := Lib.hid hhead
  have HWs := Lib.hid hw
  have HL := Lib.hid (show bG (gm w S) w S 5 kA kids from ⟨vs, hl, hk, h⟩)
  have HP := Lib.hid hpw
  have HTL := Lib.hid (show (aS (.mk op nm need ws kids)).length ≤ 48000000000 by omega)
  have hbA : ∀ o, Below w.heap.size w (w.alloc o) := fun o => (Below.refl _ _).alloc (Nat.le_refl _) o
  clear ih hks hws hhead hw hk hl h hpw htl hss hok hsz
  have hbox : ∀ o, bG (gm (w.alloc o) S) (w.alloc o) S 5 kA kids := fun o => HL.out.keep (aF (hbA o) hS) (fun _ _ h => h.keep (aF (hbA o) hS))
  have hj := fun (b : Bool) (sep : ByteArray) (hsep : sep.size ≤ 3) o => KZ kids b sep S kA kc (w.alloc o) (hbox o) (fun g hg => by have := hS g hg; simp; omega) Mw.out IH.out hkz hsep (HP.out.below (hbA o))
  have HJ := Lib.hid hj
  clear hbox hj
  by_cases h3 : op = 3
  · subst h3
    have E := Lib.hid (text3 nm need ws kids)
    go_enter Tryz.func77, Tryz.ntmps77
    go_wp2_with fail
    refine (HJ.out false ⟨#[32, 38, 32]⟩ (by decide) _).mono ?_
    rintro e w' ⟨rfl, hb2⟩
    go_wp2
    go_ret
    exact ⟨congrArg (fun b => Ending.returned (.string (bs b))) E.out.symm, (hbA _).trans (hb2.mono (by simp))⟩
  have q3 : (op == 3) = false := by rw [beq_eq_false_iff_ne]; exact h3
  by_cases h4 : op = 4
  · subst h4
    have E := Lib.hid (text4 nm need ws kids)
    go_enter Tryz.func77, Tryz.ntmps77
    go_wp2_with fail
    refine (HJ.out true ⟨#[32, 124, 32]⟩ (by decide) _).mono ?_
    rintro e w' ⟨rfl, hb2⟩
    go_wp2
    go_ret
    exact ⟨congrArg (fun b => Ending.returned (.string (bs b))) E.out.symm, (hbA _).trans (hb2.mono (by simp))⟩
  have q4 : (op == 4) = false := by rw [beq_eq_false_iff_ne]; exact h4
  clear HJ
  by_cases h5 : op = 5
  · subst h5
    obtain ⟨k, rfl⟩ : ∃ k, kids = [k] := by
      have h5 := HH.out
      have e : bO (.mk 5 nm need ws kids) = (decide (nm.size = 0) && decide (need = 0) && decide (ws.length = 0) && decide (kids.length = 1)) := rfl
      rw [e] at h5
      simp only [Bool.and_eq_true, decide_eq_true_eq] at h5
      exact List.length_eq_one_iff.1 h5.2
    obtain ⟨g, o, op, nm2, nd, wA2, wn, wc2, kA2, kn, kc2, rfl, hSg, htm, k0, k1, k2, k3, k4, -⟩ := gV (l := [k]) (i := 0) HL.out (by simp)
    rw [Nat.zero_mul, Nat.add_zero] at k0 k1 k2 k3 k4
    have htm : gm w S k _ := htm
    have hgs : g < w.heap.size := hS g hSg
    have hmem : k ∈ [k] := by simp
    have htl := fO (Mw.out k hmem)
    have hts := bX hmem
    have HC := Lib.hid (fun o => IH.out k hmem _ (w.alloc o) S (htm.keep (aW (hbA o))) (fun g hg => by have := hS g hg; simp; omega) (Mw.out k hmem) (by omega) (HP.out.below (hbA o)))
    have E := Lib.hid (text5 nm need ws k)
    obtain ⟨T, hTT⟩ : ∃ T : ByteArray, T = bs (aS k) := ⟨_, rfl⟩
    have hTs : T.size ≤ 48000000000 := by rw [hTT, cZ]; omega
    have HTT := Lib.hid hTT
    clear htm hTT
    go_enter Tryz.func77, Tryz.ntmps77
    go_wp2_with fail
    refine (HC.out _).mono ?_
    rintro e w' ⟨rfl, hb2⟩
    rw [← HTT.out]
    go_wp2
    go_ret
    refine ⟨?_, (hbA _).trans (hb2.mono (by simp))⟩
    rw [E.out]
    exact congrArg (fun b => Ending.returned (.string b)) (xE _ _ _ _ _ _ rfl HTT.out rfl)
  have q5 : (op == 5) = false := by rw [beq_eq_false_iff_ne]; exact h5
  by_cases h6 : op = 6
  · subst h6
    have E := Lib.hid (show (⟨#[109, 97, 106, 111, 114, 105, 116, 121, 40]⟩ : ByteArray) ++ nm ++ (⟨#[41]⟩ : ByteArray) = bs (aS (.mk 6 nm need ws kids)) by
      rw [text6]; exact xE _ _ _ _ _ _ rfl (dR nm).symm rfl)
    go_enter Tryz.func77, Tryz.ntmps77
    go_wp2
    go_ret
    exact ⟨congrArg (fun b => Ending.returned (.string b)) E.out, hbA _⟩
  have q6 : (op == 6) = false := by rw [beq_eq_false_iff_ne]; exact h6
  by_cases h7 : op = 7
  · subst h7
    have E := Lib.hid (show (⟨#[97, 108, 108, 40]⟩ : ByteArray) ++ nm ++ (⟨#[41]⟩ : ByteArray) = bs (aS (.mk 7 nm need ws kids)) by
      rw [text7]; exact xE _ _ _ _ _ _ rfl (dR nm).symm rfl)
    go_enter Tryz.func77, Tryz.ntmps77
    go_wp2
    go_ret
    exact ⟨congrArg (fun b => Ending.returned (.string b)) E.out, hbA _⟩
  have q7 : (op == 7) = false := by rw [beq_eq_false_iff_ne]; exact h7
  by_cases h8 : op = 8
  · subst h8
    have E := Lib.hid (show (⟨#[97, 110, 121, 40]⟩ : ByteArray) ++ nm ++ (⟨#[41]⟩ : ByteArray) = bs (aS (.mk 8 nm need ws kids)) by
      rw [text8]; exact xE _ _ _ _ _ _ rfl (dR nm).symm rfl)
    go_enter Tryz.func77, Tryz.ntmps77
    go_wp2
    go_ret
    exact ⟨congrArg (fun b => Ending.returned (.string b)) E.out, hbA _⟩
  have q8 : (op == 8) = false := by rw [beq_eq_false_iff_ne]; exact h8
  by_cases h1 : op = 1
  · subst h1
    have E := Lib.hid (show nm = bs (aS (.mk 1 nm need ws kids)) by rw [show aS (.mk 1 nm need ws kids) = nm.data.toList by rw [jH]; rfl]; exact (dR nm).symm)
    go_enter Tryz.func77, Tryz.ntmps77
    go_wp2
    go_ret
    exact ⟨congrArg (fun b => Ending.returned (.string b)) E.out, hbA _⟩
  have q1 : (op == 1) = false := by rw [beq_eq_false_iff_ne]; exact h1
  have h2 : op = 2 := by
    have hx := HH.out
    apply Decidable.byContradiction
    intro h2
    unfold bO at hx
    rw [show (Tm.mk op nm need ws kids).op = op from rfl, if_neg h1, if_neg (by omega), if_neg h2, if_neg (by omega), if_neg h5] at hx
    exact absurd hx (by simp)
  subst h2
  obtain ⟨hnd, hk0, hww⟩ : small need = true ∧ 0 < kids.length ∧ (ws.length = 0 ∨ ws.length = kids.length) := by
    have h5 := HH.out
    have e : bO (.mk 2 nm need ws kids) = (decide (nm.size = 0) && small need && decide (0 < kids.length) && (decide (ws.length = 0) || decide (ws.length = kids.length))) := rfl
    rw [e] at h5
    simp only [Bool.and_eq_true, Bool.or_eq_true, decide_eq_true_eq] at h5
    exact ⟨h5.1.1.2, h5.1.2, h5.2⟩
  have htx := text2 nm need ws kids
  have htl := HTL.out
  rw [htx] at htl
  simp only [List.length_append, List.length_cons, List.length_nil] at htl
  obtain ⟨Q, hQ⟩ : ∃ Q, Q = weighed ws (kids.map aS) := ⟨_, rfl⟩
  rw [← hQ] at htx htl
  have HQL := Lib.hid (show Q.length = kids.length by rw [hQ]; exact Gz ws kids hww)
  have HQ := Lib.hid (show ∀ k (h : k < kids.length) (h2 : k < Q.length), Q[k] = if h0 : k < ws.length then aS kids[k] ++ ([42] ++ Lib.itoa ws[k]) else aS kids[k] from fun k h h2 => by subst hQ; exact Gx ws kids k h hww h2)
  have HLE := Lib.hid (show ∀ k, (Lib.itoa need ++ [40] ++ Lib.join (Q.take k) [44, 32]).length ≤ 48000000000 from fun k => by have := oz Q [44, 32] k; simp only [List.length_append, List.length_cons, List.length_nil]; omega)
  have E := Lib.hid htx
  have HND := Lib.hid hnd
  have HWW := Lib.hid hww
  clear hnd hww htx htl hQ h1 h3 h4 h5 h6 h7 h8 q1 q3 q4 q5 q6 q7 q8
  obtain ⟨W0, hW0⟩ : ∃ W0 : World, W0 = w.alloc (.cells #[.int .i64 2, .string nm, .int .i64 need, .slice wA ws.length cw, .slice kA kids.length kc] 39) := ⟨_, rfl⟩
  have hb0 : Below w.heap.size w W0 := by rw [hW0]; exact hbA _
  have hs0 : w.heap.size < W0.heap.size := by rw [hW0]; simp
  have hr0 : W0.heap[w.heap.size]? = some (.cells #[.int .i64 2, .string nm, .int .i64 need, .slice wA ws.length cw, .slice kA kids.length kc] 39 (0, 0)) := by rw [hW0]; exact heap_alloc_new w _
  have HR0 := Lib.hid hr0
  have HW0 := Lib.hid hW0
  have HI := Lib.hid (ng need HND.out W0 (HP.out.below hb0))
  obtain ⟨I, hI⟩ : ∃ I : ByteArray, I = bs (Lib.itoa need) := ⟨_, rfl⟩
  have hIs : I.size ≤ 21 := by rw [hI, cZ]; exact gJ HND.out
  rw [← hI] at HI
  have HIE := Lib.hid hI
  clear hW0 hr0 hI hbA
  go_enter Tryz.func77, Tryz.ntmps77
  go_wp2_with fail
  rw [← HW0.out]
  refine HI.out.mono ?_
  rintro e W1 ⟨rfl, hb1⟩
  have hs1 : w.heap.size < W1.heap.size := Nat.lt_of_lt_of_le hs0 hb1.size
  have qI : Below (w.heap.size + 1) W0 W1 := hb1.mono (by omega)
  go_wp2
  go_loopw [3, 4] (fun o x wr => ∃ k : Nat, k ≤ kids.length ∧ x = .int .i64 k ∧ o = .string (bs (Lib.itoa need ++ [40] ++ Lib.join (Q.take k) [44, 32])) ∧ Below (w.heap.size + 1) W0 wr) (fun _ x _ => kids.length - (intOf x).toNat)
  case atStart => exact ⟨0, Nat.zero_le _, rfl, by rw [HIE.out, List.take_zero, Lib.join_nil, List.append_nil]; exact congrArg Value.string (cat2 _ _ _ _ rfl rfl), qI⟩
  case round =>
    obtain ⟨k, hk, rfl, rfl, hb⟩ := hrel
    have hsr := hb.size
    have hbw : Below w.heap.size w wr := hb0.trans (hb.mono (by omega))
    have hrr := (hb.block _ (by omega)).trans HR0.out
    obtain ⟨c0, c1, c2, c3, c4, -⟩ := iH hrr
    clear hrr
    obtain ⟨X, hX⟩ : ∃ X, X = bs (Lib.itoa need ++ [40] ++ Lib.join (Q.take k) [44, 32]) := ⟨_, rfl⟩
    have hXs : X.size ≤ 48000000000 := by rw [hX, cZ]; exact HLE.out k
    rw [← hX]
    have HX := Lib.hid hX
    clear hX
    by_cases hlt : k < kids.length
    · obtain ⟨g, o, op1, nm1, nd1, wA1, wn1, wc1, kA1, kn1, kc1, rfl, hSg, htm, k0, k1, k2, k3, k4, -⟩ := gV (HL.out.keep (P' := gm wr S) (aF hbw hS) (fun _ _ h => h.keep (aF hbw hS))) hlt
      have hgs : g < wr.heap.size := World.block_lt_of_cell? wr _ k0
      have hkI : (k : Int) < (kids.length : Int) := by omega
      have hk0 : (0 : Int) ≤ (k : Int) := by omega
      have hmem : kids[k] ∈ kids := List.getElem_mem hlt
      have hql : k < Q.length := by rw [HQL.out]; exact hlt
      have hts := bX hmem
      have htl := fO (Mw.out _ hmem)
      have hC := IH.out _ hmem _ wr S htm (fun g hg => by have := hS g hg; omega) (Mw.out _ hmem) (by omega) (HP.out.below hbw)
      have hq := HQ.out k hlt hql
      have hus : (bs (aS kids[k])).size ≤ 48000000000 := by rw [cZ]; omega
      obtain ⟨t, ht⟩ : ∃ t, t = kids[k] := ⟨_, rfl⟩
      rw [← ht] at hC hq hus
      obtain ⟨U, hU⟩ : ∃ U, U = bs (aS t) := ⟨_, rfl⟩
      rw [← hU] at hC hus
      have HU := Lib.hid hU
      have HC := Lib.hid hC
      clear htm htl hts hC ht hU hmem
      by_cases hwz : ws.length = 0
      · have hwI : ¬ (0 : Int) < (ws.length : Int) := by omega
        rw [dif_neg (by omega)] at hq
        clear hwz
        by_cases hz : 0 < k
        · have hzI : (0 : Int) < (k : Int) := by omega
          have HS : Hid (Lib.join (Q.take (k + 1)) [44, 32] = Lib.join (Q.take k) [44, 32] ++ [44, 32] ++ Q[k]) := kR Q _ k hql hz
          rw [hq] at HS
          clear hq hz
          go_wp2_with fail
          refine HC.out.mono ?_
          rintro e W2 ⟨rfl, hb2⟩
          have hs2 := hb2.size
          have hbw2 : Below w.heap.size w W2 := hbw.trans (hb2.mono hbw.size)
          have JS : Below (w.heap.size + 1) W0 W2 := hb.trans (hb2.mono (by omega))
          obtain ⟨d0, d1, d2, d3, d4, -⟩ := iH ((JS.block _ (by omega)).trans HR0.out)
          clear c0 c1 c2 c3 c4 k0 k1 k2 k3 k4
          go_wp2
          go_roundw
          case rel =>
            refine ⟨k + 1, by omega, by go_num, ?_, JS⟩
            · rw [HS.out, HX.out, HU.out, show (⟨#[44, 32]⟩ : ByteArray) = bs [44, 32] from rfl]
              simp only [bW, List.append_assoc]
          case measure => simp [intOf]; omega
        · obtain rfl : k = 0 := by omega
          rw [Nat.zero_mul, Nat.add_zero] at k0 k1 k2 k3 k4
          have HS : Hid (Lib.join (Q.take (0 + 1)) [44, 32] = Lib.join (Q.take 0) [44, 32] ++ Q[0]) := kH Q _ hql
          rw [hq] at HS
          clear hq hz
          go_wp2_with fail
          refine HC.out.mono ?_
          rintro e W2 ⟨rfl, hb2⟩
          have hs2 := hb2.size
          have hbw2 : Below w.heap.size w W2 := hbw.trans (hb2.mono hbw.size)
          have JS : Below (w.heap.size + 1) W0 W2 := hb.trans (hb2.mono (by omega))
          obtain ⟨d0, d1, d2, d3, d4, -⟩ := iH ((JS.block _ (by omega)).trans HR0.out)
          clear c0 c1 c2 c3 c4 k0 k1 k2 k3 k4
          go_wp2
          go_roundw
          case rel =>
            refine ⟨0 + 1, by omega, by go_num, ?_, JS⟩
            · rw [HS.out, HX.out, HU.out]
              simp only [bW, List.append_assoc]
          case measure => simp [intOf]; omega
      · have hwI : (0 : Int) < (ws.length : Int) := by omega
        have hwk : k < ws.length := by rcases HWW.out with h | h <;> omega
        have hwkI : (k : Int) < (ws.length : Int) := by omega
        rw [dif_pos hwk] at hq
        clear hwz
        by_cases hz : 0 < k
        · have hzI : (0 : Int) < (k : Int) := by omega
          have HS : Hid (Lib.join (Q.take (k + 1)) [44, 32] = Lib.join (Q.take k) [44, 32] ++ [44, 32] ++ Q[k]) := kR Q _ k hql hz
          rw [hq] at HS
          clear hq hz
          go_wp2_with fail
          refine HC.out.mono ?_
          rintro e W2 ⟨rfl, hb2⟩
          have hs2 := hb2.size
          have hbw2 : Below w.heap.size w W2 := hbw.trans (hb2.mono hbw.size)
          have JS : Below (w.heap.size + 1) W0 W2 := hb.trans (hb2.mono (by omega))
          obtain ⟨d0, d1, d2, d3, d4, -⟩ := iH ((JS.block _ (by omega)).trans HR0.out)
          clear c0 c1 c2 c3 c4 k0 k1 k2 k3 k4
          obtain ⟨g2, o2, rfl, hS2, kw⟩ := one_cell (HWs.out.keep (aF hbw2 hS)) hwk
          have hg2 : g2 < W2.heap.size := World.block_lt_of_cell? W2 _ kw
          obtain ⟨m, hm⟩ : ∃ m, m = ws[k] := ⟨_, rfl⟩
          have hsm : small m = true := by rw [hm]; exact HWok.out _ (List.getElem_mem hwk)
          rw [← hm] at kw HS
          have HIm := Lib.hid (ng m hsm W2 (HP.out.below hbw2))
          obtain ⟨J, hJ⟩ : ∃ J : ByteArray, J = bs (Lib.itoa m) := ⟨_, rfl⟩
          have hJs : J.size ≤ 21 := by rw [hJ, cZ]; exact gJ hsm
          rw [← hJ] at HIm
          have HJE := Lib.hid hJ
          clear hm hsm hJ
          go_wp2_with fail
          refine HIm.out.mono ?_
          rintro e W3 ⟨rfl, hb3⟩
          go_wp2
          go_roundw
          case rel =>
            refine ⟨k + 1, by omega, by go_num, ?_, JS.trans (hb3.mono (by omega))⟩
            · rw [HS.out, HX.out, HU.out, HJE.out, show (⟨#[42]⟩ : ByteArray) = bs [42] from rfl, show (⟨#[44, 32]⟩ : ByteArray) = bs [44, 32] from rfl]
              simp only [bW, List.append_assoc]
          case measure => simp [intOf]; omega
        · obtain rfl : k = 0 := by omega
          rw [Nat.zero_mul, Nat.add_zero] at k0 k1 k2 k3 k4
          have HS : Hid (Lib.join (Q.take (0 + 1)) [44, 32] = Lib.join (Q.take 0) [44, 32] ++ Q[0]) := kH Q _ hql
          rw [hq] at HS
          clear hq hz
          go_wp2_with fail
          refine HC.out.mono ?_
          rintro e W2 ⟨rfl, hb2⟩
          have hs2 := hb2.size
          have hbw2 : Below w.heap.size w W2 := hbw.trans (hb2.mono hbw.size)
          have JS : Below (w.heap.size + 1) W0 W2 := hb.trans (hb2.mono (by omega))
          obtain ⟨d0, d1, d2, d3, d4, -⟩ := iH ((JS.block _ (by omega)).trans HR0.out)
          clear c0 c1 c2 c3 c4 k0 k1 k2 k3 k4
          obtain ⟨g2, o2, rfl, hS2, kw⟩ := one_cell (HWs.out.keep (aF hbw2 hS)) hwk
          have hg2 : g2 < W2.heap.size := World.block_lt_of_cell? W2 _ kw
          obtain ⟨m, hm⟩ : ∃ m, m = ws[0] := ⟨_, rfl⟩
          have hsm : small m = true := by rw [hm]; exact HWok.out _ (List.getElem_mem hwk)
          rw [← hm] at kw HS
          rw [Nat.add_zero] at kw
          have HIm := Lib.hid (ng m hsm W2 (HP.out.below hbw2))
          obtain ⟨J, hJ⟩ : ∃ J : ByteArray, J = bs (Lib.itoa m) := ⟨_, rfl⟩
          have hJs : J.size ≤ 21 := by rw [hJ, cZ]; exact gJ hsm
          rw [← hJ] at HIm
          have HJE := Lib.hid hJ
          clear hm hsm hJ
          go_wp2_with fail
          refine HIm.out.mono ?_
          rintro e W3 ⟨rfl, hb3⟩
          go_wp2
          go_roundw
          case rel =>
            refine ⟨0 + 1, by omega, by go_num, ?_, JS.trans (hb3.mono (by omega))⟩
            · rw [HS.out, HX.out, HU.out, HJE.out, show (⟨#[42]⟩ : ByteArray) = bs [42] from rfl]
              simp only [bW, List.append_assoc]
          case measure => simp [intOf]; omega
    · obtain rfl : k = kids.length := by omega
      have hkI : ¬ (kids.length : Int) < (kids.length : Int) := by omega
      have HE := Lib.hid (show X ++ (⟨#[41]⟩ : ByteArray) = bs (aS (.mk 2 nm need ws kids)) by rw [HX.out, E.out, ← HQL.out, List.take_length]; exact cat2 _ _ _ _ rfl rfl)
      go_wp2
      go_ret
      exact ⟨by rw [← HE.out]; rfl, hbw⟩
theorem om (t : Tm) : TTOk t := by
  have : ∀ (n : Nat) (t : Tm), au t ≤ n → TTOk t := by
    intro n
    induction n with
    | zero =>
        intro t ht; have : 0 < au t := by (cases t; rw [au]; omega)
        omega
    | succ n ih => intro t ht; exact Au t (fun k hk => ih k (by have := iC hk; omega))
  exact this _ t (Nat.le_refl _)
end Go.Proofs.YtbmglebipepdmaaGreatDoor
namespace Go.Proofs.YtbmglebipepdmaaGreatDoor
open Go.RowKit
set_option maxRecDepth 100000 in
set_option maxHeartbeats 4000000 in
theorem Es (s : ByteArray) (w : World) : Calls Tryz.prog 41 #[.string s] w fun e w' => e = .returned (.tuple #[.string (bs (iO s.data.toList).1), .int .i64 (iO s.data.toList).2]) ∧ Below w.heap.size w w' := by
  have HT := Lib.hid (AU s w)
  have hsz : s.data.toList.length = s.size := by simp
  have hso : iO s.data.toList = if (decide (s.size ≤ 65536) && decide ((lex s.data.toList 1 []).2.2 = 0) && decide ((lex s.data.toList 1 []).1.length ≤ 3000)) = true then (s.data.toList, 0) else ([], 3) := by
    unfold iO nK; rw [hsz]
  generalize hR : iO s.data.toList = R at *
  clear hR
  go_enter Tryz.func41, Tryz.ntmps41
  go_wp2_with fail
  refine HT.out.mono ?_
  rintro e W ⟨hb, hk⟩
  generalize lex s.data.toList 1 [] = T at hk hso
  obtain ⟨L, li, er⟩ := T
  simp only at hk hso
  have no : (decide (s.size ≤ 65536) && decide (er = 0) && decide (L.length ≤ 3000)) = false → R = ([], 3) := fun h => by rw [hso, h]; rfl
  have yes : (decide (s.size ≤ 65536) && decide (er = 0) && decide (L.length ≤ 3000)) = true → R = (s.data.toList, 0) := fun h => by rw [hso, h]; rfl
  clear hso hsz
  by_cases h1 : 65536 < s.size
  · rw [if_pos h1] at hk
    subst hk
    have E := Lib.hid (no (by rw [decide_eq_false (show ¬ s.size ≤ 65536 by omega)]; rfl))
    clear no yes h1
    go_wp2
    go_ret2
    exact ⟨by rw [E.out]; rfl, hb⟩
  · rw [if_neg h1] at hk
    by_cases h2 : er ≠ 0
    · rw [if_pos h2] at hk
      subst hk
      have hz : ((er : Int) != 0) = true := jA h2
      have E := Lib.hid (no (by rw [decide_eq_false h2]; simp))
      clear no yes h1 h2
      go_wp2
      go_ret2
      exact ⟨by rw [E.out]; rfl, hb⟩
    · rw [if_neg h2] at hk
      obtain ⟨A, c, rfl, hc, DX, hlen⟩ := hk
      have h0 : er = 0 := by simpa using h2
      clear DX
      by_cases h3 : 3000 < L.length
      · have h3i : (3000 : Int) < (L.length : Int) := by omega
        have E := Lib.hid (no (by rw [decide_eq_false (show ¬ L.length ≤ 3000 by omega)]; simp))
        clear no yes h1 h2 h0 h3
        go_wp2
        go_ret2
        exact ⟨by rw [E.out]; rfl, hb⟩
      · have h3i : ¬ (3000 : Int) < (L.length : Int) := by omega
        have E := Lib.hid (yes (by rw [decide_eq_true (show s.size ≤ 65536 by omega), decide_eq_true h0, decide_eq_true (show L.length ≤ 3000 by omega)]; rfl))
        clear no yes h1 h2 h0 h3
        go_wp2
        go_ret2
        refine ⟨?_, hb⟩
        rw [E.out]
        show _ = Ending.returned (.tuple #[.string (bs s.data.toList), .int .i64 0])
        rw [dR]; rfl

set_option maxRecDepth 100000 in
set_option maxHeartbeats 4000000 in
theorem formatTerm_ref (t : Tm) (v : Value) (w : World) (S : Nat → Prop) (hv : gm w S t v) (hS : ∀ g, S g → g < w.heap.size) (hsz : au t ≤ 1000000000) (hpw : Pow w) :
    Calls Tryz.prog 58 #[v] w fun e w' => e = .returned (.tuple #[.string (bs (dW t).1), .int .i64 (dW t).2]) ∧ Below w.heap.size w w' := by
  obtain ⟨op, nm, nd, wA, wn, wc, kA, kn, kc, rfl⟩ := hv.form
  obtain ⟨W0, hW0⟩ : ∃ W0 : World, W0 = w.alloc (.cells #[.int .i64 op, .string nm, .int .i64 nd, .slice wA wn wc, .slice kA kn kc] 39) := ⟨_, rfl⟩
  have hb0 : Below w.heap.size w W0 := by rw [hW0]; exact (Below.refl _ _).alloc (Nat.le_refl _) _
  have hs0 : w.heap.size < W0.heap.size := by rw [hW0]; simp
  have hr0 : W0.heap[w.heap.size]? = some (.cells #[.int .i64 op, .string nm, .int .i64 nd, .slice wA wn wc, .slice kA kn kc] 39 (0, 0)) := by rw [hW0]; exact heap_alloc_new w _
  have hv0 := hv.keep (aW hb0)
  have hI := lC t _ W0 S hv0 (fun g hg => by have := hS g hg; omega) (by omega)
  have HR0 := Lib.hid hr0
  have HW0 := Lib.hid hW0
  have HV := Lib.hid hv0
  have HP := Lib.hid (hpw.below hb0)
  clear hv hv0 hr0 hW0 hpw
  cases hok : dX t
  · rw [hok] at hI
    have HI := Lib.hid hI
    have E := Lib.hid (show dW t = ([], 1) by unfold dW; rw [hok]; rfl)
    clear hI hok
    go_enter Tryz.func58, Tryz.ntmps58
    go_upto_region 1 with fail
    rw [← HW0.out]
    obtain ⟨c0, c1, c2, c3, c4, -⟩ := iH HR0.out
    clear HW0
    go_wp2_with fail
    refine HI.out.mono ?_
    rintro e W1 ⟨rfl, hb1⟩
    go_wp2
    go_ret2
    exact ⟨by rw [E.out]; rfl, hb0.trans (hb1.mono (by omega))⟩
  · rw [hok] at hI
    have HI := Lib.hid hI
    have HOK := Lib.hid hok
    have E := Lib.hid (show dW t = iO (aS t) by unfold dW; rw [hok]; rfl)
    clear hI hok
    go_enter Tryz.func58, Tryz.ntmps58
    go_upto_region 1 with fail
    rw [← HW0.out]
    obtain ⟨c0, c1, c2, c3, c4, -⟩ := iH HR0.out
    clear HW0
    go_wp2_with fail
    refine HI.out.mono ?_
    rintro e W1 ⟨rfl, hb1⟩
    have hs1 := hb1.size
    have hr1 := (hb1.block _ hs0).trans HR0.out
    obtain ⟨d0, d1, d2, d3, d4, -⟩ := iH hr1
    have HX := Lib.hid (om t _ W1 S (HV.out.keep (aW hb1)) (fun g hg => by have := hS g hg; omega) HOK.out hsz (HP.out.below hb1))
    clear c0 c1 c2 c3 c4 hr1
    go_wp2_with fail
    refine HX.out.mono ?_
    rintro e W2 ⟨rfl, hb2⟩
    have HZ := Lib.hid (Es (bs (aS t)) W2)
    rw [fK, ← E.out] at HZ
    go_wp2_with fail
    refine HZ.out.mono ?_
    rintro e W3 ⟨rfl, hb3⟩
    go_wp2
    go_ret2
    exact ⟨rfl, hb0.trans (((hb1.trans (hb2.mono hs1)).trans (hb3.mono (Nat.le_trans hs1 hb2.size))).mono (by omega))⟩
end Go.Proofs.YtbmglebipepdmaaGreatDoor
namespace Go.Proofs.YtbmglebipepdmaaGreatDoor
open Go.RowKit
section
variable {t : List (ByteArray × Int)} {A : Option Addr} {w : World} {S : Nat → Prop}
set_option maxHeartbeats 1000000 in
theorem must_ref (hs : aV w S 2 A t.length (lZ t)) (c : Nat) (x : ByteArray) (a b : Int) (hl : t.length ≤ 1000000000) :
    Calls Tryz.prog 124 #[.slice A t.length c, .string x, .int .i64 a, .int .i64 b] w fun e w' => e = .returned (.int .i64 (isE t x [a, b])) ∧ w = w' := by
  have HF := Lib.hid (find_ref hs c x hl)
  obtain ⟨r, hr⟩ : ∃ r, r = isE t x [a, b] := ⟨_, rfl⟩
  rw [← hr]
  unfold isE at hr
  obtain ⟨k, hk⟩ : ∃ k, k = eZ t x := ⟨_, rfl⟩
  rw [← hk] at HF hr
  have HR := Lib.hid hr
  clear hs hr hk
  by_cases h0 : k = 0
  · subst h0
    have E := Lib.hid (show r = 4 by rw [HR.out]; rfl)
    go_enter Tryz.func124, Tryz.ntmps124
    go_wp2_with fail
    refine HF.out.mono ?_
    rintro e w' ⟨rfl, rfl⟩
    go_wp2
    go_ret
    exact ⟨by rw [E.out]; rfl, rfl⟩
  have q0 : (k == (0 : Int)) = false := by rw [beq_eq_false_iff_ne]; exact h0
  by_cases ha : k = a
  · have E := Lib.hid (show r = 0 by rw [HR.out, if_neg h0, if_pos (by rw [ha]; simp)])
    have qa : (k != a) = false := by rw [ha]; simp
    clear ha h0
    go_enter Tryz.func124, Tryz.ntmps124
    go_wp2_with fail
    refine HF.out.mono ?_
    rintro e w' ⟨rfl, rfl⟩
    go_wp2
    go_ret
    exact ⟨by rw [E.out]; rfl, rfl⟩
  have qa : (k != a) = true := by rw [bne_iff_ne]; exact ha
  by_cases hb : k = b
  · have E := Lib.hid (show r = 0 by rw [HR.out, if_neg h0, if_pos (by rw [hb]; simp)])
    have qb : (k != b) = false := by rw [hb]; simp
    clear ha h0 hb
    go_enter Tryz.func124, Tryz.ntmps124
    go_wp2_with fail
    refine HF.out.mono ?_
    rintro e w' ⟨rfl, rfl⟩
    go_wp2
    go_ret
    exact ⟨by rw [E.out]; rfl, rfl⟩
  have qb : (k != b) = true := by rw [bne_iff_ne]; exact hb
  have E := Lib.hid (show r = 11 by rw [HR.out, if_neg h0, if_neg (by simp [ha, hb])])
  clear ha h0 hb
  go_enter Tryz.func124, Tryz.ntmps124
  go_wp2_with fail
  refine HF.out.mono ?_
  rintro e w' ⟨rfl, rfl⟩
  go_wp2
  go_ret
  exact ⟨by rw [E.out]; rfl, rfl⟩
/-- How many names have a kind. -/
def cntK (t : List (ByteArray × Int)) (k : Int) : Nat := t.countP fun p => decide (p.2 = k)
theorem cnt_snoc (t : List (ByteArray × Int)) (k : Int) (j : Nat) (h : j < t.length) : cntK (t.take (j + 1)) k = cntK (t.take j) k + if t[j].2 = k then 1 else 0 := by
  unfold cntK
  rw [List.take_succ_eq_append_getElem h, List.countP_append, List.countP_singleton]
  congr 1
  by_cases h : t[j].2 = k <;> simp [h]
theorem cnt_le (t : List (ByteArray × Int)) (k : Int) : cntK t k ≤ t.length := List.countP_le_length
set_option maxRecDepth 100000 in
set_option maxHeartbeats 1000000 in
theorem count_ref (hs : aV w S 2 A t.length (lZ t)) (c : Nat) (kd : Int) (hl : t.length ≤ 1000000000) :
    Calls Tryz.prog 125 #[.slice A t.length c, .int .i64 kd] w fun e w' => e = .returned (.int .i64 (cntK t kd)) ∧ w = w' := by
  have HS := Lib.hid hs
  clear hs
  go_enter Tryz.func125, Tryz.ntmps125
  go_wp2
  go_loop [5, 6] (fun n i => ∃ k : Nat, k ≤ t.length ∧ i = .int .i64 k ∧ n = .int .i64 (cntK (t.take k) kd)) (fun _ i => t.length - (intOf i).toNat)
  case atStart => exact ⟨0, Nat.zero_le _, rfl, rfl⟩
  case round =>
    obtain ⟨k, hk, rfl, rfl⟩ := hrel
    have hcl := cnt_le (t.take k) kd
    rw [List.length_take] at hcl
    by_cases hlt : k < t.length
    · obtain ⟨g, o, rfl, k0, k1⟩ := Hu HS.out hlt
      have hsn := cnt_snoc t kd k hlt
      obtain ⟨p, hp⟩ : ∃ p, p = t[k] := ⟨_, rfl⟩
      rw [← hp] at k0 k1 hsn
      obtain ⟨p1, p2⟩ := p
      simp only at k0 k1 hsn
      obtain ⟨m, hm⟩ : ∃ m, m = cntK (t.take k) kd := ⟨_, rfl⟩
      rw [← hm] at hsn hcl ⊢
      have hkI : (k : Int) < (t.length : Int) := by omega
      have hk0 : (0 : Int) ≤ (k : Int) := by omega
      clear hp hm
      by_cases hq : p2 = kd
      · have HN := Lib.hid (show cntK (t.take (k + 1)) kd = m + 1 by rw [hsn, if_pos hq])
        have qb : (p2 == kd) = true := by rw [beq_iff_eq]; exact hq
        clear hsn hq
        go_wp2
        go_round
        case rel => exact ⟨k + 1, by omega, by go_num, by rw [HN.out]; go_num⟩
        case measure => simp [intOf]; omega
      · have HN := Lib.hid (show cntK (t.take (k + 1)) kd = m by rw [hsn, if_neg hq]; rfl)
        have qb : (p2 == kd) = false := by rw [beq_eq_false_iff_ne]; exact hq
        clear hsn hq
        go_wp2
        go_round
        case rel => exact ⟨k + 1, by omega, by go_num, by rw [HN.out]⟩
        case measure => simp [intOf]; omega
    · obtain rfl : k = t.length := by omega
      have hkI : ¬ (t.length : Int) < (t.length : Int) := by omega
      rw [List.take_length]
      go_wp2
      go_ret
      exact ⟨rfl, rfl⟩
end
theorem thr_bad {ws : List Int} {x : Int} (h : x ∈ ws) (hx : x < 1 ∨ 1000 < x) (need : Int) (kl : Nat) : thrE need ws kl = 7 := by
  unfold thrE
  have hp : 0 < ws.length := List.length_pos_of_mem h
  rw [if_pos hp, if_pos]
  refine List.any_eq_true.2 ⟨x, h, ?_⟩
  rcases hx with hx | hx
  · rw [decide_eq_true hx]; rfl
  · rw [decide_eq_true hx]; simp
theorem thr_ok {ws : List Int} (h : (ws.any fun w => decide (w < 1) || decide (1000 < w)) = false) (need : Int) (kl : Nat) {st : Int} (hst : st = if 0 < ws.length then 0 else (kl : Int)) : thrE need ws kl = if need < 1 ∨ st + ws.sum < need then 7 else 0 := by
  unfold thrE
  by_cases hp : 0 < ws.length
  · rw [if_pos hp] at hst
    rw [if_pos hp, h, if_neg (by decide), hst, Int.zero_add]
  · rw [if_neg hp] at hst
    obtain rfl : ws = [] := List.eq_nil_of_length_eq_zero (by omega)
    rw [if_neg hp, hst]
    simp
theorem isE_one (t : List (ByteArray × Int)) (x : ByteArray) (a : Int) : isE t x [a, a] = isE t x [a] := by unfold isE; simp
set_option maxRecDepth 100000 in
set_option maxHeartbeats 4000000 in
theorem own_ref {t : List (ByteArray × Int)} {TA : Option Addr} (tc : Nat) {w : World} {S S2 : Nat → Prop} (hT : aV w S2 2 TA t.length (lZ t)) (hTl : t.length ≤ 100000000) (hS2 : ∀ g, S2 g → g < w.heap.size) (hS : ∀ g, S g → g < w.heap.size)
    (op : Int) (nm : ByteArray) (need : Int) (ws : List Int) (wA kA : Option Addr) (cw kc kl : Nat) (hw : aV w S 1 wA ws.length (ws.map (Value.int .i64))) (hkw : kl + ws.length < 1000000000) :
    Calls Tryz.prog 94 #[.slice TA t.length tc, .agg #[.int .i64 op, .string nm, .int .i64 need, .slice wA ws.length cw, .slice kA kl kc]] w fun e w' => e = .returned (.int .i64 (ownE t (cntK t 2) op nm need ws kl)) ∧ Below w.heap.size w w' := by
  have HW := Lib.hid hw
  have HTT := Lib.hid (fun (W : World) (hW : Below w.heap.size w W) => hT.keep (aF hW hS2))
  obtain ⟨oe, hoe⟩ : ∃ oe, oe = ownE t (cntK t 2) op nm need ws kl := ⟨_, rfl⟩
  rw [← hoe]
  have HOE := Lib.hid hoe
  clear hT hw hoe
  obtain ⟨W0, hW0⟩ : ∃ W0 : World, W0 = w.alloc (.cells #[.int .i64 op, .string nm, .int .i64 need, .slice wA ws.length cw, .slice kA kl kc] 39 (0, 0)) := ⟨_, rfl⟩
  have hb0 : Below w.heap.size w W0 := by rw [hW0]; exact (Below.refl _ _).alloc (Nat.le_refl _) _
  have hs0 : w.heap.size < W0.heap.size := by rw [hW0]; simp
  have hr0 : W0.heap[w.heap.size]? = some (.cells #[.int .i64 op, .string nm, .int .i64 need, .slice wA ws.length cw, .slice kA kl kc] 39 (0, 0)) := by rw [hW0]; exact heap_alloc_new w _
  obtain ⟨c0', c1, c2', c3, c4, -⟩ := iH hr0
  have HM := Lib.hid (fun (a b : Int) => must_ref (HTT.out W0 hb0) tc nm a b (by omega))
  have HC := Lib.hid (count_ref (HTT.out W0 hb0) tc 2 (by omega))
  have HW0 := Lib.hid hW0
  clear hW0 hr0
  by_cases h1 : op = 1
  · subst h1
    have E := Lib.hid (show oe = isE t nm [2, 4] from HOE.out.trans rfl)
    go_enter Tryz.func94, Tryz.ntmps94
    go_upto_region 1 with fail
    rw [← HW0.out]
    go_wp2_with fail
    refine (HM.out 2 4).mono ?_
    rintro e w' ⟨rfl, rfl⟩
    go_wp2
    go_ret
    exact ⟨by rw [E.out]; rfl, hb0⟩
  have q1 : (op == 1) = false := by rw [beq_eq_false_iff_ne]; exact h1
  by_cases h2 : op = 2
  · subst h2
    have HOT := Lib.hid (show oe = thrE need ws kl from HOE.out.trans rfl)
    obtain ⟨st, hst⟩ : ∃ st : Int, st = if 0 < ws.length then 0 else (kl : Int) := ⟨_, rfl⟩
    have HST := Lib.hid hst
    have hst1 : 0 ≤ st ∧ st ≤ 1000000000 := by rw [hst]; split <;> omega
    obtain ⟨hst2, hst3⟩ := hst1
    clear hst HOE HM HC
    go_enter Tryz.func94, Tryz.ntmps94
    go_upto_region 1 with fail
    rw [← HW0.out]
    clear HW0
    go_upto_if 23 with fail
    go_cut [5] (fun s5 wx => s5 = .int .i64 st ∧ W0 = wx)
    case first =>
      by_cases hw0 : 0 < ws.length
      · have hw0I : (0 : Int) < (ws.length : Int) := by omega
        have E := Lib.hid (show st = 0 by rw [HST.out, if_pos hw0])
        go_wp2
        go_meet
        exact ⟨by rw [E.out], rfl⟩
      · have hw0I : ¬ (0 : Int) < (ws.length : Int) := by omega
        have E := Lib.hid (show st = (kl : Int) by rw [HST.out, if_neg hw0])
        go_wp2
        go_meet
        exact ⟨by rw [E.out], rfl⟩
    case rest =>
      obtain ⟨rfl, rfl⟩ := hcut
      go_wp2_with fail
      go_loop [5, 6] (fun s x => ∃ k : Nat, k ≤ ws.length ∧ x = .int .i64 k ∧ s = .int .i64 (st + (ws.take k).sum) ∧ Hid (((ws.take k).any fun w => decide (w < 1) || decide (1000 < w)) = false) ∧ 0 ≤ (ws.take k).sum ∧ (ws.take k).sum ≤ 1000 * k) (fun _ x => ws.length - (intOf x).toNat)
      case atStart => exact ⟨0, Nat.zero_le _, rfl, by simp, Lib.hid (by simp), by simp, by simp⟩
      case round =>
        obtain ⟨k, hk, rfl, rfl, hany, hs1, hs2⟩ := hrel
        obtain ⟨sm, hsm⟩ : ∃ sm, sm = (ws.take k).sum := ⟨_, rfl⟩
        rw [← hsm] at hs1 hs2 ⊢
        by_cases hlt : k < ws.length
        · obtain ⟨g, o, rfl, hSg, hc⟩ := HW.out.cells (by omega)
          have hkI : (k : Int) < (ws.length : Int) := by omega
          have hk0 : (0 : Int) ≤ (k : Int) := by omega
          obtain ⟨x, hx⟩ : ∃ x, x = ws[k] := ⟨_, rfl⟩
          have hcx : W0.cell? ⟨g, o + k, none⟩ = some (.int .i64 x) := (hb0.cell (p := ⟨g, o + k, none⟩) (hS g hSg)).trans (hc k _ (by rw [hx]; simp [hlt]))
          have hsn : (ws.take (k + 1)).sum = sm + x := by rw [hsm, hx]; exact sum_snoc ws k hlt
          have hmem : x ∈ ws := by rw [hx]; exact List.getElem_mem hlt
          have htk : ws.take (k + 1) = ws.take k ++ [x] := by rw [hx]; exact List.take_succ_eq_append_getElem hlt
          have HSN := Lib.hid hsn
          have HTK := Lib.hid htk
          clear hc hx hsn htk hsm
          by_cases hx1 : x < 1
          · have E := Lib.hid (show oe = 7 by rw [HOT.out]; exact thr_bad hmem (Or.inl hx1) need kl)
            go_wp2
            go_ret
            exact ⟨by rw [E.out]; rfl, hb0⟩
          · by_cases hx2 : 1000 < x
            · have E := Lib.hid (show oe = 7 by rw [HOT.out]; exact thr_bad hmem (Or.inr hx2) need kl)
              go_wp2
              go_ret
              exact ⟨by rw [E.out]; rfl, hb0⟩
            · have hwr : IntKind.i64.wrap (st + sm + x) = st + sm + x := IntWalk.i64_in _ (by omega)
              go_wp2
              go_round
              case rel =>
                refine ⟨k + 1, by omega, by go_num, by rw [HSN.out, Int.add_assoc], Lib.hid ?_, by rw [HSN.out]; omega, by rw [HSN.out]; omega⟩
                rw [HTK.out, List.any_append, hany.out]
                simp [hx1, hx2]
              case measure => simp [intOf]; omega
        · obtain rfl : k = ws.length := by omega
          have hkI : ¬ (ws.length : Int) < (ws.length : Int) := by omega
          have Im := hany.out
          rw [List.take_length] at Im hsm
          have HTH := Lib.hid (show oe = if need < 1 ∨ st + sm < need then 7 else 0 by rw [HOT.out, hsm]; exact thr_ok Im need kl HST.out)
          obtain ⟨tot, htot⟩ : ∃ tot, tot = st + sm := ⟨_, rfl⟩
          rw [← htot] at HTH ⊢
          clear hsm hany Im htot
          by_cases hn1 : need < 1
          · have E := Lib.hid (show oe = 7 by rw [HTH.out, if_pos (Or.inl hn1)])
            go_wp2
            go_ret
            exact ⟨by rw [E.out]; rfl, hb0⟩
          · by_cases hn2 : tot < need
            · have E := Lib.hid (show oe = 7 by rw [HTH.out, if_pos (Or.inr hn2)])
              go_wp2
              go_ret
              exact ⟨by rw [E.out]; rfl, hb0⟩
            · have E := Lib.hid (show oe = 0 by rw [HTH.out, if_neg (by omega)])
              go_wp2
              go_ret
              exact ⟨by rw [E.out]; rfl, hb0⟩
  have q2 : (op == 2) = false := by rw [beq_eq_false_iff_ne]; exact h2
  by_cases h678 : op = 6 ∨ op = 7 ∨ op = 8
  · have HOG := Lib.hid (show oe = if nm = (⟨#[115, 101, 114, 118, 101, 114, 115]⟩ : ByteArray) then (if cntK t 2 = 0 then 9 else 0) else isE t nm [1] by rw [HOE.out]; unfold ownE; rw [if_neg h1, if_neg h2, if_pos h678])
    clear HOE
    by_cases hsv : nm = (⟨#[115, 101, 114, 118, 101, 114, 115]⟩ : ByteArray)
    · subst hsv
      rw [if_pos rfl] at HOG
      obtain ⟨ns, hnsd⟩ : ∃ ns, ns = cntK t 2 := ⟨_, rfl⟩
      rw [← hnsd] at HOG HC
      clear hnsd
      by_cases hns : ns = 0
      · have E := Lib.hid (show oe = 9 by rw [HOG.out, if_pos hns])
        have hnI : ((ns : Int) == 0) = true := by rw [hns]; rfl
        clear HOG hns
        rcases h678 with rfl | rfl | rfl
        all_goals
          go_enter Tryz.func94, Tryz.ntmps94
          go_upto_region 1 with fail
          rw [← HW0.out]
          go_wp2_with fail
          refine HC.out.mono ?_
          rintro e w' ⟨rfl, rfl⟩
          go_wp2
          go_ret
          exact ⟨by rw [E.out]; rfl, hb0⟩
      · have E := Lib.hid (show oe = 0 by rw [HOG.out, if_neg hns])
        have hnI : ((ns : Int) == 0) = false := by rw [beq_eq_false_iff_ne]; omega
        clear HOG hns
        rcases h678 with rfl | rfl | rfl
        all_goals
          go_enter Tryz.func94, Tryz.ntmps94
          go_upto_region 1 with fail
          rw [← HW0.out]
          go_wp2_with fail
          refine HC.out.mono ?_
          rintro e w' ⟨rfl, rfl⟩
          go_wp2
          go_ret
          exact ⟨by rw [E.out]; rfl, hb0⟩
    · rw [if_neg hsv] at HOG
      have hs4 : (nm.toList == [115, 101, 114, 118, 101, 114, 115]) = false := by
        rw [beq_eq_false_iff_ne]
        exact fun e9 => hsv (by rw [ByteArray.toList_eq] at e9; rw [← dR nm, e9]; rfl)
      have HM1 := HM.out 1 1
      rw [isE_one, ← HOG.out] at HM1
      have HMM := Lib.hid HM1
      clear HM1 hsv HOG
      rcases h678 with rfl | rfl | rfl
      all_goals
        go_enter Tryz.func94, Tryz.ntmps94
        go_upto_region 1 with fail
        rw [← HW0.out]
        go_wp2_with fail
        refine HMM.out.mono ?_
        rintro e w' ⟨rfl, rfl⟩
        go_wp2
        go_ret
        exact ⟨rfl, hb0⟩
  · have q6 : (op == 6) = false := by rw [beq_eq_false_iff_ne]; omega
    have q7 : (op == 7) = false := by rw [beq_eq_false_iff_ne]; omega
    have q8 : (op == 8) = false := by rw [beq_eq_false_iff_ne]; omega
    have E := Lib.hid (show oe = 0 by rw [HOE.out]; unfold ownE; rw [if_neg h1, if_neg h2, if_neg h678])
    clear HOE h678
    go_enter Tryz.func94, Tryz.ntmps94
    go_upto_region 1 with fail
    rw [← HW0.out]
    go_wp2
    go_ret
    exact ⟨by rw [E.out]; rfl, hb0⟩
end Go.Proofs.YtbmglebipepdmaaGreatDoor
namespace Go.Proofs.YtbmglebipepdmaaGreatDoor
open Go.RowKit
/-- Terms whose error the dI term returns. -/
def ROk (t : List (ByteArray × Int)) (x : Tm) : Prop := ∀ (TA : Option Addr) (tc : Nat) (v : Value) (w : World) (S S2 : Nat → Prop), gm w S x v → (∀ g, S g → g < w.heap.size) → au x ≤ 100000000 →
  aV w S2 2 TA t.length (lZ t) → (∀ g, S2 g → g < w.heap.size) →
  Calls Tryz.prog 59 #[.slice TA t.length tc, v] w fun e w' => e = .returned (.int .i64 (j5 t (cntK t 2) x)) ∧ Below w.heap.size w w'
set_option maxRecDepth 100000 in
set_option maxHeartbeats 4000000 in
theorem term_rstep {t : List (ByteArray × Int)} (hTl : t.length ≤ 100000000) (x : Tm) (ih : ∀ k ∈ x.kids, ROk t k) : ROk t x := by
  intro TA tc v w S S2 hv hS hsz hT hS2
  have hkl := lM x
  have hkz : ∀ k ∈ x.kids, au k ≤ 100000000 := fun k hk => by have := iC hk; omega
  cases hv with
  | mk op nm need ws kids wA kA cw kc vs hw hwc hk hkc hl h =>
    have hkl : kids.length + ws.length < au (.mk op nm need ws kids) := hkl
    have IH := Lib.hid (show ∀ k ∈ kids, ROk t k from ih)
    have HKZ := Lib.hid (show ∀ k ∈ kids, au k ≤ 100000000 from hkz)
    have HKI := Lib.hid (show bG (gm w S) w S 5 kA kids from ⟨vs, hl, hk, h⟩)
    have HTT := Lib.hid (fun (W : World) (hW : Below w.heap.size w W) => hT.keep (aF hW hS2))
    have HT := Lib.hid (termE_mk t (cntK t 2) op nm need ws kids)
    obtain ⟨ns, hns⟩ : ∃ ns, ns = cntK t 2 := ⟨_, rfl⟩
    obtain ⟨W0, hW0⟩ : ∃ W0 : World, W0 = w.alloc (.cells #[.int .i64 op, .string nm, .int .i64 need, .slice wA ws.length cw, .slice kA kids.length kc] 39 (0, 0)) := ⟨_, rfl⟩
    have hb0 : Below w.heap.size w W0 := by rw [hW0]; exact (Below.refl _ _).alloc (Nat.le_refl _) _
    have hs0 : w.heap.size < W0.heap.size := by rw [hW0]; simp
    have hr0 : W0.heap[w.heap.size]? = some (.cells #[.int .i64 op, .string nm, .int .i64 need, .slice wA ws.length cw, .slice kA kids.length kc] 39 (0, 0)) := by rw [hW0]; exact heap_alloc_new w _
    have HO := Lib.hid (own_ref tc (HTT.out W0 hb0) hTl (fun g hg => by have := hS2 g hg; omega) (fun g hg => by have := hS g hg; omega) op nm need ws wA kA cw kc kids.length (hw.keep (aF hb0 hS)) (by omega))
    obtain ⟨oe, hoe⟩ : ∃ oe, oe = ownE t (cntK t 2) op nm need ws kids.length := ⟨_, rfl⟩
    rw [← hoe] at HT HO
    rw [← hns] at HT ⊢
    have hkb : kids.length < 1000000000 := by omega
    have HR0 := Lib.hid hr0
    have HW0 := Lib.hid hW0
    have HNS := Lib.hid hns
    obtain ⟨c0, c1, c2, c3, c4, -⟩ := iH hr0
    clear ih hkz hw hk hl h hT hoe hr0 hW0 hns hsz hkl
    go_enter Tryz.func59, Tryz.ntmps59
    go_upto_region 1 with fail
    rw [← HW0.out]
    go_wp2_with fail
    refine HO.out.mono ?_
    rintro e W1 ⟨rfl, hb1⟩
    have qI : Below w.heap.size w W1 := hb0.trans (hb1.mono (by omega))
    clear c0 c1 c2 c3 c4
    have hs1 := qI.size
    by_cases ho0 : oe = 0
    · subst ho0
      have HT2 := HT.out
      rw [if_neg (by decide)] at HT2
      have HTE := Lib.hid HT2
      clear HT2
      go_wp2_with fail
      go_loopw [6] (fun i wr => ∃ k : Nat, k ≤ kids.length ∧ i = .int .i64 k ∧ Below W1.heap.size W1 wr ∧ Hid (mK t ns kids = mK t ns (kids.drop k))) (fun i _ => kids.length - (intOf i).toNat)
      case atStart => exact ⟨0, Nat.zero_le _, rfl, Below.refl _ _, Lib.hid (by simp)⟩
      case round =>
        obtain ⟨k, hk, rfl, hb, hd⟩ := hrel
        have hsr := hb.size
        have hbw : Below w.heap.size w wr := qI.trans (hb.mono hs1)
        have hbz : W0.heap.size ≤ wr.heap.size := Nat.le_trans hb1.size hsr
        obtain ⟨-, -, -, -, c4, -⟩ := iH ((hb.block _ (by have := hb1.size; omega)).trans ((hb1.block _ hs0).trans HR0.out))
        by_cases hlt : k < kids.length
        · obtain ⟨g, o, op2, nm2, nd2, wA2, wn2, wc2, kA2, kn2, kc2, rfl, hSg, ht, k0, k1, k2, k3, k4, -⟩ := gV (HKI.out.keep (P' := gm wr S) (aF hbw hS) (fun _ _ h => h.keep (aF hbw hS))) hlt
          have hkI : (k : Int) < (kids.length : Int) := by omega
          have hk0 : (0 : Int) ≤ (k : Int) := by omega
          have HC := Lib.hid (IH.out kids[k] (List.getElem_mem hlt) TA tc _ wr S S2 ht (fun g hg => by have := hS g hg; have := hbw.size; omega) (HKZ.out _ (List.getElem_mem hlt)) (HTT.out wr hbw) (fun g hg => by have := hS2 g hg; have := hbw.size; omega))
          rw [← HNS.out] at HC
          have HE := Lib.hid (show mK t ns kids = if j5 t ns kids[k] ≠ 0 then j5 t ns kids[k] else mK t ns (kids.drop (k + 1)) by rw [hd.out, List.drop_eq_getElem_cons hlt, GR])
          clear ht hd
          obtain ⟨q, hq⟩ : ∃ q, q = j5 t ns kids[k] := ⟨_, rfl⟩
          rw [← hq] at HC HE
          clear hq
          by_cases hq0 : q = 0
          · subst hq0
            rw [if_neg (by decide)] at HE
            go_wp2_with fail
            refine HC.out.mono ?_
            rintro e w2 ⟨rfl, hb2⟩
            go_wp2
            go_roundw
            case rel => exact ⟨k + 1, by omega, by go_num, hb.trans (hb2.mono hsr), HE⟩
            case measure => simp [intOf]; omega
          · have hqn : ((q : Int) != 0) = true := jA hq0
            rw [if_pos hq0] at HE
            go_wp2_with fail
            refine HC.out.mono ?_
            rintro e w2 ⟨rfl, hb2⟩
            go_wp2
            go_ret
            exact ⟨by rw [HTE.out, HE.out]; rfl, hbw.trans (hb2.mono hbw.size)⟩
        · obtain rfl : k = kids.length := by omega
          have hkI : ¬ (kids.length : Int) < (kids.length : Int) := by omega
          go_wp2
          go_ret
          exact ⟨by rw [HTE.out, hd.out, List.drop_length]; rfl, hbw⟩
    · have hqn : ((oe : Int) != 0) = true := jA ho0
      have HT2 := HT.out
      rw [if_pos ho0] at HT2
      have HTE := Lib.hid HT2
      clear HT2 ho0
      go_wp2
      go_ret
      exact ⟨by rw [HTE.out]; rfl, qI⟩
theorem term_ref24 {t : List (ByteArray × Int)} (hTl : t.length ≤ 100000000) (x : Tm) : ROk t x := by
  have key : ∀ (m : Nat) (x : Tm), au x ≤ m → ROk t x := by
    intro m
    induction m with
    | zero => intro x hx; exact absurd hx (by cases x; rw [au]; omega)
    | succ m ih => exact fun x hx => term_rstep hTl x fun k hk => ih k (by have := iC hk; omega)
  exact key _ x (Nat.le_refl _)
theorem cnt_tab (l : List Dc) : cntK (tab l) 2 = aN l := by
  unfold cntK aN tab
  induction l with
  | nil => rfl
  | cons d r ih =>
    rw [List.flatMap_cons, List.countP_append, ih, List.map_cons, List.sum_cons]
    congr 1
    unfold BP
    rw [List.countP_append]
    have h1 : (if jl d.kind = 0 then [] else [(d.name, jl d.kind)] : List (ByteArray × Int)).countP (fun p => decide (p.2 = 2)) = 0 := by
      split
      · rfl
      · rw [List.countP_singleton]
        have : jl d.kind ≠ 2 := by
          unfold jl
          split; · decide
          split; · decide
          split; · decide
          split; · decide
          split; · decide
          decide
        simp [this]
    rw [h1, Nat.zero_add]
    by_cases h : d.kind = 1
    · rw [if_pos h, if_pos h, List.countP_map, List.countP_eq_length.2 (fun _ _ => by simp)]
    · rw [if_neg h, if_neg h]; rfl
set_option maxRecDepth 100000 in
set_option maxHeartbeats 2000000 in
theorem term_ref2 (l : List Dc) (A : Option Addr) (c : Nat) (t : Tm) (v : Value) (w : World) (S : Nat → Prop) (hl : bG (jE w S) w S 22 A l) (ht : gm w S t v) (hS : ∀ g, S g → g < w.heap.size) (htb : (tab l).length ≤ 100000000) (hll : l.length ≤ 100000000) (hsz : au t ≤ 1000000) (hpw : Pow w) :
    Calls Tryz.prog 31 #[.slice A l.length c, v] w fun e w' => e = .returned (.int .i64 (GU l t)) ∧ Below w.heap.size w w' := by
  have hbA : ∀ o, Below w.heap.size w (w.alloc o) := fun o => (Below.refl _ _).alloc (Nat.le_refl _) o
  have ht2 := ht
  obtain ⟨op, nm, nd, wA, wn, wc, kA, kn, kc, rfl⟩ := ht2.form
  obtain ⟨fe, hfe⟩ : ∃ fe, fe = (dW t).2 := ⟨_, rfl⟩
  have HF := Lib.hid (fun o => formatTerm_ref t _ (w.alloc o) S (ht.keep (aW (hbA o))) (fun g hg => by have := hS g hg; simp; omega) (by omega) (hpw.below (hbA o)))
  simp only [← hfe] at HF
  have HTB := Lib.hid (fun (W : World) (hb : Below w.heap.size w W) => table_ref l A c W S (hl.keep (aF hb hS) (fun _ _ h => h.keep (aF hb hS))) (fun g hg => by have := hS g hg; have := hb.size; omega) htb hll)
  have HT := Lib.hid (fun (W : World) (hb : Below w.heap.size w W) => ht.keep (aF hb hS))
  obtain ⟨r, hr⟩ : ∃ r, r = GU l t := ⟨_, rfl⟩
  rw [← hr]
  unfold GU at hr
  rw [← hfe] at hr
  have HR := Lib.hid hr
  clear ht ht2 hl hpw hfe hr
  go_enter Tryz.func31, Tryz.ntmps31
  go_wp2_with fail
  refine (HF.out _).mono ?_
  rintro e W1 ⟨rfl, hb1⟩
  have hs1 := hb1.size
  rw [show (w.alloc (.cells #[.int .i64 op, .string nm, .int .i64 nd, .slice wA wn wc, .slice kA kn kc] 39)).heap.size = w.heap.size + 1 by simp] at hs1 hb1
  have qI : Below w.heap.size w W1 := (hbA _).trans (hb1.mono (by omega))
  have hr1 : W1.heap[w.heap.size]? = some (.cells #[.int .i64 op, .string nm, .int .i64 nd, .slice wA wn wc, .slice kA kn kc] 39 (0, 0)) := (hb1.block _ (by omega)).trans (heap_alloc_new w _)
  obtain ⟨c0, c1, c2, c3, c4, -⟩ := iH hr1
  have HR1 := Lib.hid hr1
  clear hr1 hb1
  by_cases hz : fe = 0
  · subst hz
    have hr2 := HR.out
    rw [if_neg (by decide)] at hr2
    have HR2 := Lib.hid hr2
    have hlt2 : w.heap.size < W1.heap.size := by omega
    clear hr2
    go_wp2_with fail
    go_region_held3 (fun w' => w'.cell? ⟨w.heap.size, 0, none⟩ = some (.int .i64 op) ∧ w'.cell? ⟨w.heap.size, 1, none⟩ = some (.string nm) ∧ w'.cell? ⟨w.heap.size, 2, none⟩ = some (.int .i64 nd) ∧ w'.cell? ⟨w.heap.size, 3, none⟩ = some (.slice wA wn wc) ∧ w'.cell? ⟨w.heap.size, 4, none⟩ = some (.slice kA kn kc)) (first | go_keep | exact hkeep3 | exact hkeep4)
      (first | (go_at_call 55; (refine (HTB.out _ (below_drewN qI _)).mono ?_; rintro e W3 ⟨v3, rfl, hown3, hb3⟩; obtain ⟨A3, c3', rfl, hc3'⟩ := bV hown3; have hz3 : W1.heap.size ≤ W3.heap.size := hb3.size; have hbw3 : Below w.heap.size w W3 := (below_drewN qI _).trans (hb3.mono (show w.heap.size ≤ W1.heap.size from Nat.le_of_lt hlt2)); have hr3 := (hb3.block _ (show w.heap.size < W1.heap.size from hlt2)).trans HR1.out; have hkeep3 := BH hr3; have HOW := Lib.hid ((aV.own hown3).mono (S' := fun g => g < W3.heap.size) (fun g _ h => h) (by decide)); clear hown3)) | (go_at_call 59; (refine (term_ref24 htb t A3 c3' _ W3 S (fun g => g < W3.heap.size) (HT.out _ hbw3) (fun g hg => by have := hS g hg; omega) (by omega) HOW.out (fun g hg => hg)).mono ?_; rintro e W4 ⟨rfl, hb4⟩; have hr4 := (hb4.block _ (lt_of_block hr3)).trans hr3; have hkeep4 := BH hr4)))
    all_goals (
      go_wp2
      go_ret
      have e9 := HR2.out
      rw [← cnt_tab] at e9
      exact ⟨by rw [e9]; rfl, hbw3.trans (hb4.mono hbw3.size)⟩)
  · have hqn : ((fe : Int) != 0) = true := jA hz
    have hr2 := HR.out
    rw [if_pos hz] at hr2
    have HR2 := Lib.hid hr2
    clear hr2 hz
    go_wp2
    go_ret
    exact ⟨by rw [HR2.out]; rfl, qI⟩
end Go.Proofs.YtbmglebipepdmaaGreatDoor
