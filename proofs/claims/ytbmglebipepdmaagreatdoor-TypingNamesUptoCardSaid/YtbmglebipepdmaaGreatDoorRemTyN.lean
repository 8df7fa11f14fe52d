/- What this closing text needs beyond the base: parts of the texts on typing and on the syntax; the conditions stand at each theorem. -/
import Derived.Lib.Join
import Derived.Laws.Concat
import Derived.Lib.ItoaNum
import Derived.Lib.ItoaLen
import Derived.KernelRfl
import Derived.Test.YtbmglebipepdmaaGreatDoorPkPlain
import Derived.Test.YtbmglebipepdmaaGreatDoorPkRound
import Derived.Test.YtbmglebipepdmaaGreatDoorPkTyp
import Derived.Test.YtbmglebipepdmaaGreatDoorPkMem
import Derived.Test.YtbmglebipepdmaaGreatDoorPkPara
import Derived.Test.YtbmglebipepdmaaGreatDoorPkParb
import Derived.Test.YtbmglebipepdmaaGreatDoorPkLex
import Derived.Test.YtbmglebipepdmaaGreatDoorPkPare
import Derived.Test.YtbmglebipepdmaaGreatDoorPkVala
import Derived.Test.YtbmglebipepdmaaGreatDoorPkValb
import Derived.Test.YtbmglebipepdmaaGreatDoorPkValc
import Derived.Test.YtbmglebipepdmaaGreatDoorPkFmta
import Derived.Test.YtbmglebipepdmaaGreatDoorPkFmtb
import Derived.Test.YtbmglebipepdmaaGreatDoorPkNms
import Derived.Test.YtbmglebipepdmaaGreatDoorPkTya
import Derived.Test.YtbmglebipepdmaaGreatDoorPkTyb
import Derived.Test.YtbmglebipepdmaaGreatDoorPkOpen
import Derived.Test.YtbmglebipepdmaaGreatDoorPkCheck
import Derived.Test.YtbmglebipepdmaaGreatDoorPkRefl
import Derived.Test.YtbmglebipepdmaaGreatDoorPkRefa
import Derived.Test.YtbmglebipepdmaaGreatDoorPkRefb
import Derived.Test.YtbmglebipepdmaaGreatDoorPkRefc
import Derived.Test.YtbmglebipepdmaaGreatDoorPkRefd
import Derived.Test.YtbmglebipepdmaaGreatDoorPkEq
import Derived.Test.YtbmglebipepdmaaGreatDoorPkHead
import Derived.Test.YtbmglebipepdmaaGreatDoorPkUses
import Derived.Test.YtbmglebipepdmaaGreatDoorPkAwt
namespace Go.Proofs.YtbmglebipepdmaaGreatDoor
end Go.Proofs.YtbmglebipepdmaaGreatDoor
namespace Go.Proofs.YtbmglebipepdmaaGreatDoor
end Go.Proofs.YtbmglebipepdmaaGreatDoor
namespace Go.Proofs.YtbmglebipepdmaaGreatDoor
end Go.Proofs.YtbmglebipepdmaaGreatDoor
namespace Go.Proofs.YtbmglebipepdmaaGreatDoor
end Go.Proofs.YtbmglebipepdmaaGreatDoor
namespace Go.Proofs.YtbmglebipepdmaaGreatDoor
end Go.Proofs.YtbmglebipepdmaaGreatDoor
namespace Go.Proofs.YtbmglebipepdmaaGreatDoor
mutual
def dQ : Tm → Nat
  | .mk _ _ _ _ kids => fM kids + 1
def fM : List Tm → Nat
  | [] => 0
  | t :: r => max (dQ t) (fM r)
end
end Go.Proofs.YtbmglebipepdmaaGreatDoor
namespace Go.Proofs.YtbmglebipepdmaaGreatDoor
end Go.Proofs.YtbmglebipepdmaaGreatDoor
namespace Go.Proofs.YtbmglebipepdmaaGreatDoor
end Go.Proofs.YtbmglebipepdmaaGreatDoor
namespace Go.Proofs.YtbmglebipepdmaaGreatDoor
def dN (l : List Dc) : List ByteArray := dY 1 l

end Go.Proofs.YtbmglebipepdmaaGreatDoor
namespace Go.Proofs.YtbmglebipepdmaaGreatDoor
end Go.Proofs.YtbmglebipepdmaaGreatDoor
namespace Go.Proofs.YtbmglebipepdmaaGreatDoor
section
variable {ρ : ByteArray → ByteArray} {Y : ByteArray → Prop} {t t' : List (ByteArray × Int)}
end
end Go.Proofs.YtbmglebipepdmaaGreatDoor
namespace Go.Proofs.YtbmglebipepdmaaGreatDoor
section
variable {x : ByteArray} {m : List Dc}
end
end Go.Proofs.YtbmglebipepdmaaGreatDoor
namespace Go.Proofs.YtbmglebipepdmaaGreatDoor
end Go.Proofs.YtbmglebipepdmaaGreatDoor
namespace Go.Proofs.YtbmglebipepdmaaGreatDoor
theorem few_take (l : List Dc) (k : Nat) (h : k < l.length) : ((l.take (k + 1)).map dF).sum = ((l.take k).map dF).sum + dF l[k] := by
  rw [List.take_succ_eq_append_getElem h, List.map_append, List.sum_append]; simp
theorem Io (l : List Dc) (k : Nat) : ((l.take k).map dF).sum ≤ (l.map dF).sum := by
  have h := List.take_append_drop k l
  have : (l.map dF).sum = ((l.take k).map dF).sum + ((l.drop k).map dF).sum := by
    rw [← List.sum_append, ← List.map_append, h]
  omega
theorem fts_len (l : List Ft) : l.length ≤ (l.map jB).sum := by
  induction l with
  | nil => simp
  | cons f r ih =>
    have c := vO f
    rw [List.map_cons, List.sum_cons, List.length_cons]; omega
theorem few_dc (l : List Dc) : (l.map dF).sum ≤ 10 * (l.map d9).sum := by
  induction l with
  | nil => simp
  | cons d r ih =>
    have n1 := jV d.names
    have n2 := fts_len d.faults
    have e : dF d ≤ 10 * d9 d := by unfold dF d9; omega
    rw [List.map_cons, List.map_cons, List.sum_cons, List.sum_cons]; omega
end Go.Proofs.YtbmglebipepdmaaGreatDoor
namespace Go.Proofs.YtbmglebipepdmaaGreatDoor
open Go.RowKit
theorem Cm (l : List Tm) (k : Nat) (h : k < l.length) : fM (l.take (k + 1)) = max (fM (l.take k)) (dQ l[k]) := by
  have : ∀ (a : List Tm) (t : Tm), fM (a ++ [t]) = max (fM a) (dQ t) := by
    intro a t
    induction a with
    | nil => simp [fM]
    | cons x r ih => simp only [List.cons_append, fM, ih]; omega
  rw [List.take_succ_eq_append_getElem h, this]
theorem Ee (l : List Tm) (k : Nat) (h : k < l.length) : aR (l.take (k + 1)) = aR (l.take k) + au l[k] := by
  have : ∀ (a : List Tm) (t : Tm), aR (a ++ [t]) = aR a + au t := by
    intro a t
    induction a with
    | nil => simp [aR]
    | cons x r ih => simp only [List.cons_append, aR, ih]; omega
  rw [List.take_succ_eq_append_getElem h, this]
theorem Ed (l : List Tm) (k : Nat) : aR (l.take k) ≤ aR l := by
  have : ∀ (a b : List Tm), aR (a ++ b) = aR a + aR b := by
    intro a b
    induction a with
    | nil => simp [aR]
    | cons x r ih => simp only [List.cons_append, aR, ih]; omega
  have h := this (l.take k) (l.drop k)
  rw [List.take_append_drop] at h; omega
mutual
theorem AX : ∀ t : Tm, dQ t ≤ au t
  | .mk op name need ws kids => by
    have h := pR kids
    rw [dQ, au]; omega
theorem pR : ∀ l : List Tm, fM l ≤ aR l
  | [] => by simp [fM]
  | t :: r => by
    have h1 := AX t
    have h2 := pR r
    rw [fM, aR]; omega
end
def SzOk (t : Tm) : Prop := ∀ (v : Value) (w : World) (S : Nat → Prop), gm w S t v → (∀ g, S g → g < w.heap.size) → au t ≤ 1000000000 → Calls Tryz.prog 29 #[v] w fun e w' => e = .returned (.tuple #[.int .i64 (au t), .int .i64 (dQ t)]) ∧ Below w.heap.size w w'

set_option maxRecDepth 100000 in
set_option maxHeartbeats 4000000 in
theorem size_step (t : Tm) (ih : ∀ k ∈ t.kids, SzOk k) : SzOk t := by
  intro v w S hv hS hsz
  have HSS0 := Lib.hid (fH t)
  cases hv with
  | mk op nm need ws kids wA kA cw kc vs hw hwc hk hkc hl h =>
  have hss : au (.mk op nm need ws kids) = 1 + nm.size + ws.length + aR kids := HSS0.out
  have hdd : dQ (.mk op nm need ws kids) = fM kids + 1 := by rw [dQ]
  have hkl := kz kids
  have hbig : 1 + nm.size + ws.length + aR kids ≤ 1000000000 := by omega
  have IH := Lib.hid (show ∀ k ∈ kids, SzOk k from ih)
  have HL := Lib.hid (show bG (gm w S) w S 5 kA kids from ⟨vs, hl, hk, h⟩)
  have hkb : kids.length ≤ 1000000000 := by omega
  have HSS := Lib.hid hss
  have HDD := Lib.hid hdd
  clear ih hw hk hl h hss hdd hsz
  obtain ⟨w0, hw0⟩ : ∃ w0 : World, w0 = w.alloc (.cells #[.int .i64 op, .string nm, .int .i64 need, .slice wA ws.length cw, .slice kA kids.length kc] 39) := ⟨_, rfl⟩
  have hb0 : Below w.heap.size w w0 := by rw [hw0]; exact (Below.refl _ _).alloc (Nat.le_refl _) _
  have hz0 : w0.heap.size = w.heap.size + 1 := by rw [hw0]; simp
  have hr0 : w0.heap[w.heap.size]? = some (.cells #[.int .i64 op, .string nm, .int .i64 need, .slice wA ws.length cw, .slice kA kids.length kc] 39 (0, 0)) := by rw [hw0]; exact heap_alloc_new w _
  have uy : w.heap.size + 1 ≤ w0.heap.size := by omega
  have HR0 := Lib.hid hr0
  have hnI : (nm.size : Int) ≤ 1000000000 := by omega
  have hwI : (ws.length : Int) ≤ 1000000000 := by omega
  have HW0 := Lib.hid hw0
  clear hz0 hr0 hw0
  go_enter Tryz.func29, Tryz.ntmps29
  go_wp2
  rw [← HW0.out]
  go_loopw [4, 5, 6] (fun x y z wr => ∃ k : Nat, k ≤ kids.length ∧ z = .int .i64 k ∧ x = .int .i64 ((1 + nm.size + ws.length + aR (kids.take k) : Nat) : Int) ∧ y = .int .i64 (fM (kids.take k) : Nat) ∧ Below (w.heap.size + 1) w0 wr) (fun _ _ z _ => kids.length - (intOf z).toNat)
  case atStart => exact ⟨0, Nat.zero_le _, rfl, by simp [aR], by simp [fM], Below.refl _ _⟩
  case round =>
    obtain ⟨k, hk, rfl, rfl, rfl, hb⟩ := hrel
    have hsr := hb.size
    have hbw : Below w.heap.size w wr := hb0.trans (hb.mono (by omega))
    have hr1 := (hb.block _ (by omega)).trans HR0.out
    obtain ⟨c0, c1, c2, c3, c4, -⟩ := iH hr1
    clear hr1
    by_cases hlt : k < kids.length
    · have hlr := HL.out.keep (P' := gm wr S) (aF hbw hS) (fun _ _ h => h.keep (aF hbw hS))
      obtain ⟨g, o, op1, nm1, nd1, wA1, wn1, wc1, kA1, kn1, kc1, rfl, hSg, htm, k0, k1, k2, k3, k4, -⟩ := gV hlr hlt
      have hgs : g < wr.heap.size := World.block_lt_of_cell? wr _ k0
      have hkI : (k : Int) < (kids.length : Int) := by omega
      have hk0 : (0 : Int) ≤ (k : Int) := by omega
      have hmem : kids[k] ∈ kids := List.getElem_mem hlt
      have hts := bX hmem
      have hsn := Ee kids k hlt
      have hdn := Cm kids k hlt
      have htk := Ed kids (k + 1)
      have hdl := AX kids[k]
      have hdk := pR (kids.take k)
      have HC := Lib.hid (IH.out _ hmem _ wr S htm (fun g hg => by have := hS g hg; have := hbw.size; omega) (by omega))
      obtain ⟨a, ha⟩ : ∃ a, a = au kids[k] := ⟨_, rfl⟩
      obtain ⟨d, hd⟩ : ∃ d, d = dQ kids[k] := ⟨_, rfl⟩
      rw [← ha, ← hd] at HC
      rw [← ha] at hsn
      rw [← hd] at hdn
      obtain ⟨p, hp⟩ : ∃ p, p = 1 + nm.size + ws.length + aR (kids.take k) := ⟨_, rfl⟩
      obtain ⟨q, hq⟩ : ∃ q, q = fM (kids.take k) := ⟨_, rfl⟩
      have hpa : p + a ≤ 1000000000 := by omega
      have hqb : q ≤ 1000000000 := by omega
      have hdb : d ≤ 1000000000 := by omega
      have HSN := Lib.hid (show 1 + nm.size + ws.length + aR (kids.take (k + 1)) = p + a by omega)
      have HDN := Lib.hid (show fM (kids.take (k + 1)) = max q d by rw [hdn, hq])
      rw [← hp, ← hq]
      clear htm hlr hsn hdn htk hdl hdk ha hd hp hq hts
      by_cases hqd : q ≤ d
      · have m1 : (q : Int) ≤ (d : Int) := by omega
        have m2 : ¬ (d : Int) < (q : Int) := by omega
        have HM := Lib.hid (show max q d = d by omega)
        go_wp2_with fail
        refine HC.out.mono ?_
        rintro e W2 ⟨rfl, hb2⟩
        go_wp2
        go_roundw
        case rel => exact ⟨k + 1, by omega, by go_num, by rw [HSN.out]; go_num, by rw [HDN.out, HM.out]; congr 1; omega, hb.trans (hb2.mono (by omega))⟩
        case measure => simp [intOf]; omega
      · have m1 : ¬ (q : Int) ≤ (d : Int) := by omega
        have m2 : (d : Int) < (q : Int) := by omega
        have HM := Lib.hid (show max q d = q by omega)
        go_wp2_with fail
        refine HC.out.mono ?_
        rintro e W2 ⟨rfl, hb2⟩
        go_wp2
        go_roundw
        case rel => exact ⟨k + 1, by omega, by go_num, by rw [HSN.out]; go_num, by rw [HDN.out, HM.out]; congr 1; omega, hb.trans (hb2.mono (by omega))⟩
        case measure => simp [intOf]; omega
    · obtain rfl : k = kids.length := by omega
      have hkI : ¬ (kids.length : Int) < (kids.length : Int) := by omega
      rw [List.take_length]
      have hdl := pR kids
      obtain ⟨q, hq⟩ : ∃ q, q = fM kids := ⟨_, rfl⟩
      obtain ⟨p, hp⟩ : ∃ p, p = 1 + nm.size + ws.length + aR kids := ⟨_, rfl⟩
      have HSZ := Lib.hid (HSS.out.trans hp.symm)
      have HDZ := Lib.hid (show dQ (.mk op nm need ws kids) = q + 1 by rw [HDD.out, hq])
      have hqb : q ≤ 1000000000 := by omega
      rw [← hp, ← hq]
      clear hq hp hdl
      go_wp2
      go_ret2
      refine ⟨?_, hbw⟩
      rw [HSZ.out, HDZ.out]; rfl
theorem Cv (t : Tm) : SzOk t := by
  have : ∀ (n : Nat) (t : Tm), au t ≤ n → SzOk t := by
    intro n
    induction n with
    | zero =>
        intro t ht; have : 0 < au t := by (cases t; rw [au]; omega)
        omega
    | succ n ih => intro t ht; exact size_step t (fun k hk => ih k (by have := iC hk; omega))
  exact this _ t (Nat.le_refl _)
end Go.Proofs.YtbmglebipepdmaaGreatDoor
namespace Go.Proofs.YtbmglebipepdmaaGreatDoor
open Go.RowKit
set_option maxRecDepth 100000 in
set_option maxHeartbeats 4000000 in
theorem few_ref (l : List Dc) (A : Option Addr) (c : Nat) (w : World) (S : Nat → Prop) (hl : bG (jE w S) w S 22 A l) (hS : ∀ g, S g → g < w.heap.size) (hsz : (l.map d9).sum ≤ 1100000) :
    Calls Tryz.prog 11 #[.slice A l.length c] w fun e w' => e = .returned (.bool (decide ((l.map dF).sum ≤ 10000))) ∧ Below w.heap.size w w' := by
  have HL := Lib.hid hl
  have hll := uh l
  have hlb : l.length ≤ 1100000 := by omega
  have hfd := few_dc l
  have hfb : (l.map dF).sum ≤ 11000000 := by omega
  have HFB := Lib.hid (show ∀ k, ((l.take k).map dF).sum ≤ 11000000 from fun k => by have := Io l k; omega)
  clear hl hsz hll hfd
  go_enter Tryz.func11, Tryz.ntmps11
  go_wp2
  go_loopw [3, 4] (fun n x wr => ∃ k : Nat, k ≤ l.length ∧ x = .int .i64 k ∧ n = .int .i64 (((l.take k).map dF).sum : Nat) ∧ Below w.heap.size w wr) (fun _ x _ => l.length - (intOf x).toNat)
  case atStart => exact ⟨0, Nat.zero_le _, rfl, rfl, Below.refl _ _⟩
  case round =>
    obtain ⟨k, hk, rfl, rfl, hb⟩ := hrel
    have hsr := hb.size
    by_cases hlt : k < l.length
    · obtain ⟨g, o, v, rfl, hSg, hp, hc⟩ := iM (fun _ _ h => qB h) (HL.out.keep (P' := jE wr S) (aF hb hS) (fun _ _ h => h.keep (aF hb hS))) hlt
      have hgs : g < wr.heap.size := by have := hS g hSg; omega
      have hkI : (k : Int) < (l.length : Int) := by omega
      have hk0 : (0 : Int) ≤ (k : Int) := by omega
      have hft := few_take l k hlt
      have hfk := HFB.out (k + 1)
      rw [hft] at hfk
      generalize l[k] = d at hp hft hfk
      obtain ⟨kind, line, name, names, faults, term, proto, read, write, use⟩ := d
      obtain ⟨nA, nc, fA, fc, vt, vr, vw, rfl, h1, h2, h3, h4, h5, h6, h7⟩ := hp
      obtain ⟨o1, m1, d1, wA1, wn1, wc1, kA1, kn1, kc1, rfl⟩ := h5.form
      obtain ⟨o2, m2, d2, wA2, wn2, wc2, kA2, kn2, kc2, rfl⟩ := h6.form
      obtain ⟨o3, m3, d3, wA3, wn3, wc3, kA3, kn3, kc3, rfl⟩ := h7.form
      simp only at h5 h6 h7
      have hfs : dF ⟨kind, line, name, names, faults, term, proto, read, write, use⟩ = au term + au read + au write + name.size + names.length + 10 * faults.length + proto.size + use.size := rfl
      rw [hfs] at hft hfk
      have hc2 : ∀ (j : Nat) (u : Value), ([.int .i64 kind, .int .i64 line, .string name, .slice nA names.length nc, .slice fA faults.length fc, .int .i64 o1, .string m1, .int .i64 d1, .slice wA1 wn1 wc1, .slice kA1 kn1 kc1, .string proto, .int .i64 o2, .string m2, .int .i64 d2, .slice wA2 wn2 wc2, .slice kA2 kn2 kc2, .int .i64 o3, .string m3, .int .i64 d3, .slice wA3 wn3 wc3, .slice kA3 kn3 kc3, .string use] : List Value)[j]? = some u → wr.cell? ⟨g, o + k * 22 + j, none⟩ = some u := fun j u hu => hc j u (by simpa [cellsOf, Value.cells] using hu)
      have hSW : ∀ (W : World), Below wr.heap.size wr W → ∀ g, S g → g < W.heap.size := fun W hW g hg => by have := hS g hg; have := hW.size; omega
      have e1 : au term ≤ 11000000 := by omega
      have e2 : au read ≤ 11000000 := by omega
      have e3 : au write ≤ 11000000 := by omega
      have hs1 := fun (W : World) (hW : Below wr.heap.size wr W) => Cv term _ W S (h5.keep (aW hW)) (hSW W hW) (by omega)
      have hs2 := fun (W : World) (hW : Below wr.heap.size wr W) => Cv read _ W S (h6.keep (aW hW)) (hSW W hW) (by omega)
      have hs3 := fun (W : World) (hW : Below wr.heap.size wr W) => Cv write _ W S (h7.keep (aW hW)) (hSW W hW) (by omega)
      obtain ⟨z1, y1⟩ : ∃ z, z = au term := ⟨_, rfl⟩
      obtain ⟨z2, y2⟩ : ∃ z, z = au read := ⟨_, rfl⟩
      obtain ⟨z3, y3⟩ : ∃ z, z = au write := ⟨_, rfl⟩
      simp only [← y1] at hs1
      simp only [← y2] at hs2
      simp only [← y3] at hs3
      rw [← y1, ← y2, ← y3] at hft hfk
      have HS1 := Lib.hid hs1
      have HS2 := Lib.hid hs2
      have HS3 := Lib.hid hs3
      obtain ⟨p, hp⟩ : ∃ p, p = ((l.take k).map dF).sum := ⟨_, rfl⟩
      rw [← hp] at hft hfk
      rw [← hp]
      have HSN := Lib.hid hft
      have p1 : p ≤ 11000000 := by omega
      have p2 : z1 ≤ 11000000 := by omega
      have p3 : z2 ≤ 11000000 := by omega
      have p4 : z3 ≤ 11000000 := by omega
      have p5 : name.size ≤ 11000000 := by omega
      have p6 : names.length ≤ 11000000 := by omega
      have p7 : faults.length ≤ 11000000 := by omega
      have p8 : proto.size ≤ 11000000 := by omega
      have p9 : use.size ≤ 11000000 := by omega
      clear hft hfk hfs hs1 hs2 hs3 h1 h2 h3 h4 h5 h6 h7 hc y1 y2 y3 hp e1 e2 e3
      have HC := Lib.hid hc2
      have a5 : wr.cell? ⟨g, o + k * 22 + 5, none⟩ = some (.int .i64 o1) := HC.out 5 _ rfl
      have a6 : wr.cell? ⟨g, o + k * 22 + 6, none⟩ = some (.string m1) := HC.out 6 _ rfl
      have a7 : wr.cell? ⟨g, o + k * 22 + 7, none⟩ = some (.int .i64 d1) := HC.out 7 _ rfl
      have a8 : wr.cell? ⟨g, o + k * 22 + 8, none⟩ = some (.slice wA1 wn1 wc1) := HC.out 8 _ rfl
      have a9 : wr.cell? ⟨g, o + k * 22 + 9, none⟩ = some (.slice kA1 kn1 kc1) := HC.out 9 _ rfl
      go_wp2_with fail
      refine (HS1.out wr (Below.refl _ _)).mono ?_
      rintro e W1 ⟨rfl, hb1⟩
      clear a5 a6 a7 a8 a9
      have b11 : W1.cell? ⟨g, o + k * 22 + 11, none⟩ = some (.int .i64 o2) := (hb1.cell (p := ⟨g, o + k * 22 + 11, none⟩) hgs).trans (HC.out 11 _ rfl)
      have b12 : W1.cell? ⟨g, o + k * 22 + 12, none⟩ = some (.string m2) := (hb1.cell (p := ⟨g, o + k * 22 + 12, none⟩) hgs).trans (HC.out 12 _ rfl)
      have b13 : W1.cell? ⟨g, o + k * 22 + 13, none⟩ = some (.int .i64 d2) := (hb1.cell (p := ⟨g, o + k * 22 + 13, none⟩) hgs).trans (HC.out 13 _ rfl)
      have b14 : W1.cell? ⟨g, o + k * 22 + 14, none⟩ = some (.slice wA2 wn2 wc2) := (hb1.cell (p := ⟨g, o + k * 22 + 14, none⟩) hgs).trans (HC.out 14 _ rfl)
      have b15 : W1.cell? ⟨g, o + k * 22 + 15, none⟩ = some (.slice kA2 kn2 kc2) := (hb1.cell (p := ⟨g, o + k * 22 + 15, none⟩) hgs).trans (HC.out 15 _ rfl)
      go_wp2_with fail
      refine (HS2.out W1 hb1).mono ?_
      rintro e W2 ⟨rfl, hb2⟩
      have hx2 : Below wr.heap.size wr W2 := hb1.trans (hb2.mono hb1.size)
      clear b11 b12 b13 b14 b15
      have e16 : W2.cell? ⟨g, o + k * 22 + 16, none⟩ = some (.int .i64 o3) := (hx2.cell (p := ⟨g, o + k * 22 + 16, none⟩) hgs).trans (HC.out 16 _ rfl)
      have e17 : W2.cell? ⟨g, o + k * 22 + 17, none⟩ = some (.string m3) := (hx2.cell (p := ⟨g, o + k * 22 + 17, none⟩) hgs).trans (HC.out 17 _ rfl)
      have e18 : W2.cell? ⟨g, o + k * 22 + 18, none⟩ = some (.int .i64 d3) := (hx2.cell (p := ⟨g, o + k * 22 + 18, none⟩) hgs).trans (HC.out 18 _ rfl)
      have e19 : W2.cell? ⟨g, o + k * 22 + 19, none⟩ = some (.slice wA3 wn3 wc3) := (hx2.cell (p := ⟨g, o + k * 22 + 19, none⟩) hgs).trans (HC.out 19 _ rfl)
      have e20 : W2.cell? ⟨g, o + k * 22 + 20, none⟩ = some (.slice kA3 kn3 kc3) := (hx2.cell (p := ⟨g, o + k * 22 + 20, none⟩) hgs).trans (HC.out 20 _ rfl)
      go_wp2_with fail
      refine (HS3.out W2 hx2).mono ?_
      rintro e W3 ⟨rfl, hb3⟩
      have hx3 : Below wr.heap.size wr W3 := hx2.trans (hb3.mono hx2.size)
      have hgs3 : g < W3.heap.size := Nat.lt_of_lt_of_le hgs hx3.size
      clear e16 e17 e18 e19 e20
      have f2 : W3.cell? ⟨g, o + k * 22 + 2, none⟩ = some (.string name) := (hx3.cell (p := ⟨g, o + k * 22 + 2, none⟩) hgs).trans (HC.out 2 _ rfl)
      have f3 : W3.cell? ⟨g, o + k * 22 + 3, none⟩ = some (.slice nA names.length nc) := (hx3.cell (p := ⟨g, o + k * 22 + 3, none⟩) hgs).trans (HC.out 3 _ rfl)
      have f4 : W3.cell? ⟨g, o + k * 22 + 4, none⟩ = some (.slice fA faults.length fc) := (hx3.cell (p := ⟨g, o + k * 22 + 4, none⟩) hgs).trans (HC.out 4 _ rfl)
      have f10 : W3.cell? ⟨g, o + k * 22 + 10, none⟩ = some (.string proto) := (hx3.cell (p := ⟨g, o + k * 22 + 10, none⟩) hgs).trans (HC.out 10 _ rfl)
      have f21 : W3.cell? ⟨g, o + k * 22 + 21, none⟩ = some (.string use) := (hx3.cell (p := ⟨g, o + k * 22 + 21, none⟩) hgs).trans (HC.out 21 _ rfl)
      go_upto_region 8 with fail
      go_quiet (fail)
      go_wp2
      go_roundw
      case rel =>
        refine ⟨k + 1, by omega, by go_num, ?_, below_drewN (hb.trans (hx3.mono hsr)) _⟩
        rw [HSN.out]
        go_num
      case measure => simp [intOf]; omega
    · obtain rfl : k = l.length := by omega
      have hkI : ¬ (l.length : Int) < (l.length : Int) := by omega
      rw [List.take_length]
      obtain ⟨n, hn⟩ : ∃ n, n = (l.map dF).sum := ⟨_, rfl⟩
      rw [← hn]
      have HN := Lib.hid hn
      rw [← hn] at hfb
      clear hn
      go_wp2
      go_ret
      refine ⟨?_, hb⟩
      show Ending.returned (.bool (decide ((n : Int) ≤ 10000))) = _
      rw [show decide ((n : Int) ≤ 10000) = decide (n ≤ 10000) by rw [Bool.eq_iff_iff, decide_eq_true_iff, decide_eq_true_iff]; omega, HN.out]
end Go.Proofs.YtbmglebipepdmaaGreatDoor
namespace Go.Proofs.YtbmglebipepdmaaGreatDoor
open Go.RowKit
end Go.Proofs.YtbmglebipepdmaaGreatDoor
namespace Go.Proofs.YtbmglebipepdmaaGreatDoor
open Go.RowKit
theorem sum_takeA {α : Type} (f : α → Nat) (l : List α) (k : Nat) : ((l.take k).map f).sum ≤ (l.map f).sum := by
  conv => rhs; rw [← List.take_append_drop k l, List.map_append, List.sum_append]
  omega
theorem pu {α β : Type} (f : α → List β) (l : List α) (k : Nat) : ((l.take k).flatMap f).length ≤ (l.flatMap f).length := by
  conv => rhs; rw [← List.take_append_drop k l, List.flatMap_append, List.length_append]
  omega
end Go.Proofs.YtbmglebipepdmaaGreatDoor
namespace Go.Proofs.YtbmglebipepdmaaGreatDoor
open Go.RowKit
def lZ (t : List (ByteArray × Int)) : List Value := t.flatMap fun p => [.string p.1, .int .i64 p.2]
theorem yY (t : List (ByteArray × Int)) (p : ByteArray × Int) : lZ (t ++ [p]) = lZ t ++ [.string p.1, .int .i64 p.2] := by simp [lZ]
theorem KG : ∀ (t : List (ByteArray × Int)) (k : Nat) (h : k < t.length), (lZ t)[k * 2]? = some (.string t[k].1) ∧ (lZ t)[k * 2 + 1]? = some (.int .i64 t[k].2) := by
  intro t
  induction t with
  | nil => intro k h; simp at h
  | cons p r ih =>
    intro k h
    cases k with
    | zero => exact ⟨rfl, rfl⟩
    | succ k =>
      have := ih k (by simpa using h)
      have e : lZ (p :: r) = .string p.1 :: .int .i64 p.2 :: lZ r := rfl
      rw [e, show (k + 1) * 2 = k * 2 + 1 + 1 by omega]
      simpa using this
theorem Bw : (Tryz.prog.info? 116).map (fun i => (i.zero, i.size, i.bytes)) = some (some (.agg #[.string ByteArray.empty, .int .i64 0]), 2, 24) := by kernel_rfl
theorem Ky (w : World) {ops : Array Oper} {rest : List Oper} {o : Oper} {a : Act} {Q : Exit → Act → World → Prop} (hgd : o.guard = none) (s x : Operand)
    (ho : o.op = .call { callee := .builtin .append, args := #[s, x], argTypes := #[85, 85] })
    (base : Nat) (v : Value) (n : Nat) (xs : List Value) (hown : w.ownsRow base 116 2 v n xs) (hs : a.eval s = v)
    (u : ByteArray) (k : Int) (hx : a.eval x = .slice (some ⟨w.heap.size, 0, none⟩) 1 1)
    (hlim : n ≤ 1000000000) (hbase : base ≤ w.heap.size)
    (h : ∀ v' w', w'.ownsRow base 116 2 v' (n + 1) (xs ++ [.string u, .int .i64 k]) → w.grownBy w' v.ownBlock → (v'.ownBlock = v.ownBlock ∨ v'.ownBlock = some (w.heap.size + 1)) → wpList Tryz.prog ops Q rest (a.put o.dst v') w') :
    wpList Tryz.prog ops Q (o :: rest) a (w.alloc (.cells #[.string u, .int .i64 k] 116)) := by
  obtain ⟨i0, hi, hz0, hz1, hz2⟩ := info_parts Bw
  exact iT w hgd s x _ ho base 116 i0 _ 2 24 Tryz.underlying85 hi hz0 hz1 hz2 rfl (by decide) v n xs hown hs [.string u, .int .i64 k] hx rfl (by simp [Value.oneCell']) (by omega) (by omega) hbase h
theorem Kq (w : World) {ops : Array Oper} {o : Oper} {a : Act} {K : Act → World → Prop} {Q : Exit → Act → World → Prop} {E : Prop} (hgd : o.guard = none) (s x : Operand)
    (ho : o.op = .call { callee := .builtin .append, args := #[s, x], argTypes := #[85, 85] })
    (base : Nat) (v : Value) (n : Nat) (xs : List Value) (hown : w.ownsRow base 116 2 v n xs) (hs : a.eval s = v)
    (g cc : Nat) (u : ByteArray) (k : Int)
    (hblk : w.heap[g]? = some (.cells #[.string u, .int .i64 k] 116 (0, 0))) (hx : a.eval x = .slice (some ⟨g, 0, none⟩) 1 cc)
    (hlim : n ≤ 1000000000) (hbase : base ≤ w.heap.size)
    (h : ∀ v' w', w'.ownsRow base 116 2 v' (n + 1) (xs ++ [.string u, .int .i64 k]) → w.grownBy w' v.ownBlock → K (a.put o.dst v') w') :
    if Region.wanted o (yielded ops a.tmps) = true then Oper.wp Tryz.prog o a w K Q else E := by
  obtain ⟨i0, hi, hz0, hz1, hz2⟩ := info_parts Bw
  have hcell : ∀ j u', [Value.string u, .int .i64 k][j]? = some u' → w.cell? ((⟨g, 0, none⟩ : Addr).add j) = some u' := by
    intro j u' hu
    have hadd : (⟨g, 0, none⟩ : Addr).add j = ⟨g, j, none⟩ := by unfold Addr.add; split <;> simp_all
    rw [hadd, cell_of_row _ g j _ _ (0, 0) hblk]
    simpa using hu
  refine step_append_lies w hgd s x _ ho base 116 i0 _ 2 24 Tryz.underlying85 hi hz0 hz1 hz2 rfl (by decide) v n xs hs hown ⟨g, 0, none⟩ 1 cc _ hx rfl hcell (by simp [Value.oneCell']) (by omega) (by unfold maxLen; omega) (by omega) hbase w.heap.size rfl ?_
  intro g' cap w' h2 h3 h4 _
  exact h _ w' h2 h3

set_option maxRecDepth 100000 in
set_option maxHeartbeats 1000000 in
theorem kind_ref (d : Dc) (v : Value) (w : World) (S : Nat → Prop) (hd : jE w S d v) :
    Calls Tryz.prog 51 #[v] w fun e w' => e = .returned (.int .i64 (jl d.kind)) ∧ Below w.heap.size w w' := by
  obtain ⟨cs, nA, nc, hcl, hone, rfl, c0, -⟩ := rC hd
  have e0 : (w.alloc (.cells cs.toArray 41)).cell? ⟨w.heap.size, 0, none⟩ = some (.int .i64 d.kind) := rE (heap_alloc_new w _) c0
  have hfin := (Below.refl w.heap.size w).alloc (Nat.le_refl _) (.cells cs.toArray 41)
  obtain ⟨k, hk⟩ : ∃ k, k = d.kind := ⟨_, rfl⟩
  rw [← hk] at e0 ⊢
  clear hd c0 hcl hone hk
  by_cases h1 : k = 1
  · subst h1
    go_enter Tryz.func51, Tryz.ntmps51
    go_wp2
    go_ret
    exact ⟨rfl, hfin⟩
  by_cases h2 : k = 2
  · subst h2
    go_enter Tryz.func51, Tryz.ntmps51
    go_wp2
    go_ret
    exact ⟨rfl, hfin⟩
  by_cases h3 : k = 3
  · subst h3
    go_enter Tryz.func51, Tryz.ntmps51
    go_wp2
    go_ret
    exact ⟨rfl, hfin⟩
  by_cases h4 : k = 4
  · subst h4
    go_enter Tryz.func51, Tryz.ntmps51
    go_wp2
    go_ret
    exact ⟨rfl, hfin⟩
  by_cases h6 : k = 6
  · subst h6
    go_enter Tryz.func51, Tryz.ntmps51
    go_wp2
    go_ret
    exact ⟨rfl, hfin⟩
  have q1 : (k == (1 : Int)) = false := by rw [beq_eq_false_iff_ne]; exact h1
  have q2 : (k == (2 : Int)) = false := by rw [beq_eq_false_iff_ne]; exact h2
  have q3 : (k == (3 : Int)) = false := by rw [beq_eq_false_iff_ne]; exact h3
  have q4 : (k == (4 : Int)) = false := by rw [beq_eq_false_iff_ne]; exact h4
  have q6 : (k == (6 : Int)) = false := by rw [beq_eq_false_iff_ne]; exact h6
  have HK := Lib.hid (show jl k = 0 by unfold jl; rw [if_neg h1, if_neg h2, if_neg h3, if_neg h4, if_neg h6])
  clear h1 h2 h3 h4 h6
  go_enter Tryz.func51, Tryz.ntmps51
  go_wp2
  go_ret
  exact ⟨by rw [HK.out]; rfl, hfin⟩

section
variable {t : List (ByteArray × Int)} {A : Option Addr} {w : World} {S : Nat → Prop}
theorem Hu (h : aV w S 2 A t.length (lZ t)) {k : Nat} (hk : k < t.length) : ∃ g o, A = some ⟨g, o, none⟩ ∧ w.cell? ⟨g, o + k * 2, none⟩ = some (.string t[k].1) ∧ w.cell? ⟨g, o + k * 2 + 1, none⟩ = some (.int .i64 t[k].2) := by
  obtain ⟨g, o, e, -, hc⟩ := h.cells (by omega)
  obtain ⟨h1, h2⟩ := KG t k hk
  exact ⟨g, o, e, hc _ _ h1, by rw [Nat.add_assoc]; exact hc _ _ h2⟩
theorem ba_tl (a b : ByteArray) : (a == b) = (a.toList == b.toList) := by
  rw [Bool.eq_iff_iff, gY, beq_iff_eq, ByteArray.toList_eq, ByteArray.toList_eq]
  exact ⟨fun h => by rw [h], fun h => ByteArray.ext (Array.toList_inj.1 h)⟩
theorem Lj (t : List (ByteArray × Int)) (k : Nat) (h : k < t.length) (x : ByteArray) : eZ (t.drop k) x = if t[k].1 == x then t[k].2 else eZ (t.drop (k + 1)) x := by
  rw [List.drop_eq_getElem_cons h, eZ]
set_option maxRecDepth 100000 in
set_option maxHeartbeats 1000000 in
theorem find_ref (hs : aV w S 2 A t.length (lZ t)) (c : Nat) (x : ByteArray) (hl : t.length ≤ 1000000000) :
    Calls Tryz.prog 54 #[.slice A t.length c, .string x] w fun e w' => e = .returned (.int .i64 (eZ t x)) ∧ w = w' := by
  have HS := Lib.hid hs
  obtain ⟨r, hr⟩ : ∃ r, r = eZ t x := ⟨_, rfl⟩
  have HR0 := Lib.hid (show r = eZ (t.drop 0) x by rw [List.drop_zero]; exact hr)
  rw [← hr]
  clear hs hr
  go_enter Tryz.func54, Tryz.ntmps54
  go_wp2
  go_loop [5] (fun i => ∃ k : Nat, k ≤ t.length ∧ i = .int .i64 k ∧ Hid (r = eZ (t.drop k) x)) (fun i => t.length - (intOf i).toNat)
  case atStart => exact ⟨0, Nat.zero_le _, rfl, HR0⟩
  case round =>
    obtain ⟨k, hk, rfl, hr⟩ := hrel
    by_cases hlt : k < t.length
    · obtain ⟨g, o, rfl, k0, k1⟩ := Hu HS.out hlt
      have hd := Lj t k hlt x
      obtain ⟨p, hp⟩ : ∃ p, p = t[k] := ⟨_, rfl⟩
      rw [← hp] at k0 k1 hd
      obtain ⟨p1, p2⟩ := p
      simp only at k0 k1 hd
      have hkI : (k : Int) < (t.length : Int) := by omega
      have hk0 : (0 : Int) ≤ (k : Int) := by omega
      clear hp
      rw [ba_tl] at hd
      cases hq : (p1.toList == x.toList)
      · have HR := Lib.hid (show r = eZ (t.drop (k + 1)) x by have := hr.out; rw [hd, hq] at this; exact this)
        clear hd hr
        go_wp2
        go_round
        case rel => exact ⟨k + 1, by omega, by go_num, HR⟩
        case measure => simp [intOf]; omega
      · have HR := Lib.hid (show r = p2 by have := hr.out; rw [hd, hq] at this; exact this)
        clear hd hr
        go_wp2
        go_ret
        exact ⟨by rw [HR.out]; rfl, rfl⟩
    · obtain rfl : k = t.length := by omega
      have hkI : ¬ (t.length : Int) < (t.length : Int) := by omega
      have HR := Lib.hid (show r = 0 by have := hr.out; rw [List.drop_length] at this; exact this)
      clear hr
      go_wp2
      go_ret
      exact ⟨by rw [HR.out]; rfl, rfl⟩
end
end Go.Proofs.YtbmglebipepdmaaGreatDoor
namespace Go.Proofs.YtbmglebipepdmaaGreatDoor
open Go.RowKit
/-- What Table returns. -/
def TabPost (l : List Dc) (w : World) (e : Ending) (w' : World) : Prop := ∃ v, e = .returned v ∧ w'.ownsRow w.heap.size 116 2 v (tab l).length (lZ (tab l)) ∧ Below w.heap.size w w'
theorem Jo (l : List Dc) (d : Dc) : tab (l ++ [d]) = tab l ++ BP d := by unfold tab; rw [List.flatMap_append]; simp
attribute [local go_sem ↓] wL in
set_option maxRecDepth 100000 in
set_option maxHeartbeats 8000000 in
theorem table_ref (l : List Dc) (A : Option Addr) (c : Nat) (w : World) (S : Nat → Prop) (hl : bG (jE w S) w S 22 A l) (hS : ∀ g, S g → g < w.heap.size) (hsz : (tab l).length ≤ 100000000) (hll : l.length ≤ 100000000) :
    Calls Tryz.prog 55 #[.slice A l.length c] w (TabPost l w) := by
  have HL := Lib.hid hl
  clear hl
  go_enter Tryz.func55, Tryz.ntmps55
  go_wp2
  go_loopw [3, 4] (fun v x wr => ∃ k : Nat, k ≤ l.length ∧ x = .int .i64 k ∧ wr.ownsRow w.heap.size 116 2 v (tab (l.take k)).length (lZ (tab (l.take k))) ∧ Below w.heap.size w wr) (fun _ x _ => l.length - (intOf x).toNat)
  case atStart => exact ⟨0, Nat.zero_le _, rfl, World.ownsRow_nil _ _ _ _, Below.refl _ _⟩
  case round =>
    obtain ⟨k, hk, rfl, hown, hb⟩ := hrel
    have hsr := hb.size
    by_cases hlt : k < l.length
    · obtain ⟨g, o, v2, rfl, hSg, hp, hc⟩ := iM (fun _ _ h => qB h) HL.out hlt
      have hgs : g < w.heap.size := hS g hSg
      obtain ⟨d, hd⟩ : ∃ d, d = l[k] := ⟨_, rfl⟩
      have htk := A8 l k hlt
      rw [← hd] at hp htk
      have hq2 := pu BP l (k + 1)
      have hq3 : (tab (l.take (k + 1))).length ≤ 100000000 := Nat.le_trans hq2 hsz
      rw [htk, Jo, List.length_append] at hq3
      have hp2 := hp
      obtain ⟨cs, nA, nc, hcl, hone, rfl, c0, -, c2, c3, -, hsn, hnc⟩ := rC hp2
      have hrange : w.rangeAt g (o + k * 22) cs := fun j u hu => hc j u (by simpa [cellsOf, Value.cells] using hu)
      have hrr : wr.rangeAt g (o + k * 22) cs := xR hrange hb hgs
      have BA : (Tryz.prog.info? 41).map (·.size) = some cs.length := by rw [hcl]; exact fP
      have HRG := Lib.hid (show ∀ W, Below w.heap.size w W → W.rangeAt g (o + k * 22) cs from fun W hW => xR hrange hW hgs)
      have HKD := Lib.hid (fun (W : World) (hW : Below w.heap.size w W) => kind_ref d _ W S (hp.keep (aF hW hS)))
      have HCL := Lib.hid hcl
      have hkI : (k : Int) < (l.length : Int) := by omega
      have hk0 : (0 : Int) ≤ (k : Int) := by omega
      obtain ⟨cur, hcur⟩ : ∃ cur, cur = tab (l.take k) := ⟨_, rfl⟩
      have HTK := Lib.hid (show tab (l.take (k + 1)) = cur ++ BP d by rw [htk, Jo, hcur])
      rw [← hcur] at hown hq3
      have C0 := Lib.hid c0
      have C2 := Lib.hid c2
      have C3 := Lib.hid c3
      have HSN := Lib.hid hsn
      clear hcur hp htk hd hc hcl c0 c2 c3 hone hsn hq2
      by_cases hz : jl d.kind = 0
      · have HN := Lib.hid (show BP d = [] by unfold BP; rw [if_pos hz, if_neg (fun h => by rw [h] at hz; exact absurd hz (by decide))]; rfl)
        obtain ⟨kd, hkd⟩ : ∃ kd, kd = jl d.kind := ⟨_, rfl⟩
        rw [← hkd] at HKD hz
        subst hz
        clear hkd
        go_wp2_with (first | (with_reducible refine wpList_load_mid rfl 41 (.tmp 14) rfl g (o + k * 22) rfl cs _ hrr Tryz.underlying41 rfl BA ?_) | (go_at_call 51; refine (HKD.out wr hb).mono ?_; rintro e w3 ⟨rfl, hb3⟩))
        go_roundw
        case rel =>
          refine ⟨k + 1, by omega, by go_num, ?_, hb.trans (hb3.mono hsr)⟩
          rw [HTK.out, HN.out, List.append_nil]
          exact own_below hown hb3 (Nat.le_refl _)
        case measure => simp [intOf]; omega
      · have hzb : (jl d.kind == (0 : Int)) = false := by rw [beq_eq_false_iff_ne]; exact hz
        obtain ⟨kd, hkd⟩ : ∃ kd, kd = jl d.kind := ⟨_, rfl⟩
        have HDT := Lib.hid (show BP d = [(d.name, kd)] ++ (if d.kind = 1 then d.names.map (fun x => (x, 2)) else []) by rw [hkd]; unfold BP; rw [if_neg hz])
        rw [HDT.out] at hq3
        rw [← hkd] at HKD hzb
        clear hkd hz
        have hql : cur.length + 1 ≤ 100000000 := by rw [List.length_append] at hq3; simp at hq3; omega
        go_upto_region 6 with (first | (with_reducible refine wpList_load_mid rfl 41 (.tmp 14) rfl g (o + k * 22) rfl cs _ hrr Tryz.underlying41 rfl BA ?_) | (go_at_call 51; refine (HKD.out wr hb).mono ?_; rintro e w3 ⟨rfl, hb3⟩))
        have hb3w : Below w.heap.size w w3 := hb.trans (hb3.mono hsr)
        have hown3 := own_below hown hb3 (Nat.le_refl _)
        have hs3 := hb3w.size
        clear hown hrr
        go_cut [3] (fun s3 wx => wx.ownsRow w.heap.size 116 2 s3 (cur.length + 1) (lZ (cur ++ [(d.name, kd)])) ∧ Below w.heap.size w wx)
        case first =>
          have ra := fun (W : World) (h : W.rangeAt g (o + k * 22) cs) => uL W g (o + k * 22) _ h HCL.out
          have KP := Lib.hid (fun (W : World) (hW : Below w.heap.size w W) => show W.rangeAt g (o + k * 22) cs ∧ W.cell? ⟨g, o + k * 22 + 2, none⟩ = some (.string d.name) from ⟨HRG.out W hW, HRG.out W hW 2 _ C2.out⟩)
          have hr3 : w3.rangeAt g (o + k * 22) cs := HRG.out w3 hb3w
          have e2 : w3.cell? ⟨g, o + k * 22 + 2, none⟩ = some (.string d.name) := hr3 2 _ C2.out
          have HP1 := Lib.hid (fun (W : World) (v : Value) (h : W.ownsRow w.heap.size 116 2 v (cur.length + 1) (lZ cur ++ [.string d.name, .int .i64 kd])) => show W.ownsRow w.heap.size 116 2 v (cur.length + 1) (lZ (cur ++ [(d.name, kd)])) by rw [yY]; exact h)
          clear hrange hp2 hb hb3 BA hzb
          go_region_held3 (fun w' => w'.rangeAt g (o + k * 22) cs ∧ w'.cell? ⟨g, o + k * 22 + 2, none⟩ = some (.string d.name)) (first | exact ⟨hr3, e2⟩ | exact hkeep4 | exact hkeep5 | exact hkeep6 | go_keep)
            (first | (go_at_call 51; (refine (HKD.out _ (below_drewN hb3w _)).mono ?_; rintro e w4 ⟨rfl, hb4⟩; have Al : Below w.heap.size w w4 := (below_drewN hb3w _).trans (hb4.mono (show w.heap.size ≤ w3.heap.size from hs3)); have hkeep4 := KP.out w4 Al; have kS := own_below (own_drewN hown3 _) hb4 (Nat.le_refl _); have hs4 := Al.size; have hkeep5 := KP.out _ (Al.trans ((Below.refl _ _).alloc hs4 (.cells #[.string d.name, .int .i64 kd] 116 (0, 0)))))) | (refine Kq _ rfl (.tmp 18) (.tmp 30) rfl w.heap.size _ _ _ (kS.alloc _) rfl _ _ d.name kd (heap_alloc_new w4 _) rfl (by omega) (by simp; omega) ?_; intro v5 w5 hown5 hg5; have hb5 : Below w.heap.size w w5 := (Al.trans ((Below.refl _ _).alloc hs4 (.cells #[.string d.name, .int .i64 kd] 116 (0, 0)))).trans (bH (kS.alloc _) hg5 (by simp; omega)); have hkeep6 := KP.out w5 hb5))
          all_goals (
            go_wp2
            go_meet
            exact ⟨HP1.out _ _ hown5, hb5⟩)
        case rest =>
          obtain ⟨hown1, hb1⟩ := hcut
          obtain ⟨W1, hW1⟩ : ∃ W1 : World, W1 = wc := ⟨_, rfl⟩
          rw [← hW1] at hown1 hb1
          rw [← hW1]
          clear hW1 hb hb3 hown3 hb3w hs3 hsr
          have hs1 := hb1.size
          have e0 : W1.cell? ⟨g, o + k * 22, none⟩ = some (.int .i64 d.kind) := HRG.out W1 hb1 0 _ C0.out
          have e3 : W1.cell? ⟨g, o + k * 22 + 3, none⟩ = some (.slice nA d.names.length nc) := HRG.out W1 hb1 3 _ C3.out
          by_cases hk1 : d.kind = 1
          · have HD1 := Lib.hid (show BP d = [(d.name, kd)] ++ d.names.map (fun x => (x, 2)) by rw [HDT.out, if_pos hk1])
            rw [if_pos hk1] at hq3
            have hkb : (d.kind == (1 : Int)) = true := by rw [hk1]; rfl
            have hnl : cur.length + 1 + d.names.length ≤ 100000000 := by rw [List.length_append, List.length_map] at hq3; simp at hq3; omega
            clear hk1 hq3
            go_wp2_with fail
            clear e0 e3
            go_loopw [3, 5] (fun v x wi => ∃ j : Nat, j ≤ d.names.length ∧ x = .int .i64 j ∧ wi.ownsRow w.heap.size 116 2 v (cur.length + 1 + j) (lZ (cur ++ [(d.name, kd)] ++ (d.names.take j).map (fun x => (x, 2)))) ∧ Below w.heap.size w wi) (fun _ x _ => d.names.length - (intOf x).toNat)
            case atStart => exact ⟨0, Nat.zero_le _, rfl, by simpa using hown1, hb1⟩
            case round =>
              obtain ⟨j, hj, rfl, hownj, hbj⟩ := hrel
              have hsj := hbj.size
              have e0 : wr.cell? ⟨g, o + k * 22, none⟩ = some (.int .i64 d.kind) := HRG.out wr hbj 0 _ C0.out
              have e3 : wr.cell? ⟨g, o + k * 22 + 3, none⟩ = some (.slice nA d.names.length nc) := HRG.out wr hbj 3 _ C3.out
              by_cases hltj : j < d.names.length
              · obtain ⟨g2, o2, rfl, hSg2, hcn⟩ := one_cell (HSN.out.keep (aF hbj hS)) hltj
                have hjI : (j : Int) < (d.names.length : Int) := by omega
                have hj0 : (0 : Int) ≤ (j : Int) := by omega
                obtain ⟨x, hx⟩ : ∃ x, x = d.names[j] := ⟨_, rfl⟩
                rw [← hx] at hcn
                have HNX := Lib.hid (show cur ++ [(d.name, kd)] ++ (d.names.take (j + 1)).map (fun x => (x, (2 : Int))) = (cur ++ [(d.name, kd)] ++ (d.names.take j).map (fun x => (x, 2))) ++ [(x, 2)] by rw [List.take_succ_eq_append_getElem hltj, ← hx, List.map_append, ← List.append_assoc]; rfl)
                clear hx
                go_wp2_with (at_builtin; refine Ky wr rfl (.tmp 50) (.tmp 60) rfl w.heap.size _ _ _ hownj rfl x 2 rfl (by omega) hsj ?_; intro v' w' hown' hg' hv')
                go_roundw
                case rel =>
                  refine ⟨j + 1, by omega, by go_num, ?_, hbj.trans (bH hownj hg' hsj)⟩
                  rw [HNX.out, yY]
                  exact hown'
                case measure => simp [intOf]; omega
              · obtain rfl : j = d.names.length := by omega
                have hjI : ¬ (d.names.length : Int) < (d.names.length : Int) := by omega
                rw [List.take_length] at hownj
                have HO := Lib.hid (show wr.ownsRow w.heap.size 116 2 u3 (tab (l.take (k + 1))).length (lZ (tab (l.take (k + 1)))) by
                  rw [HTK.out, HD1.out, ← List.append_assoc]
                  have e : (cur ++ [(d.name, kd)] ++ d.names.map (fun x => (x, (2 : Int)))).length = cur.length + 1 + d.names.length := by simp; omega
                  rw [e]; exact hownj)
                clear hownj
                go_wp2
                go_roundw
                case rel => exact ⟨k + 1, by omega, by go_num, HO.out, hbj⟩
                case measure => simp [intOf]; omega
          · have HO := Lib.hid (show W1.ownsRow w.heap.size 116 2 u3 (tab (l.take (k + 1))).length (lZ (tab (l.take (k + 1)))) by
              rw [HTK.out, HDT.out, if_neg hk1, List.append_nil]
              have e : (cur ++ [(d.name, kd)]).length = cur.length + 1 := by simp
              rw [e]; exact hown1)
            have hkb : (d.kind == (1 : Int)) = false := by rw [beq_eq_false_iff_ne]; exact hk1
            clear hk1 hq3
            go_wp2_with fail
            clear e0 e3
            go_loopw [3, 5] (fun v x wi => v = u3 ∧ x = .int .i64 ((0 : Nat) : Int) ∧ W1 = wi) (fun _ _ _ => 0)
            case atStart => exact ⟨rfl, rfl, rfl⟩
            case round =>
              obtain ⟨rfl, rfl, rfl⟩ := hrel
              have e0 : W1.cell? ⟨g, o + k * 22, none⟩ = some (.int .i64 d.kind) := HRG.out W1 hb1 0 _ C0.out
              have e3 : W1.cell? ⟨g, o + k * 22 + 3, none⟩ = some (.slice nA d.names.length nc) := HRG.out W1 hb1 3 _ C3.out
              by_cases hl0 : 0 < d.names.length
              · have hl1 : (0 : Int) < (d.names.length : Int) := by omega
                go_wp2
                go_roundw
                case rel => exact ⟨k + 1, by omega, by go_num, HO.out, hb1⟩
                case measure => simp [intOf]; omega
              · have hl1 : ¬ (0 : Int) < (d.names.length : Int) := by omega
                go_wp2
                go_roundw
                case rel => exact ⟨k + 1, by omega, by go_num, HO.out, hb1⟩
                case measure => simp [intOf]; omega
    · obtain rfl : k = l.length := by omega
      have hkI : ¬ (l.length : Int) < (l.length : Int) := by omega
      rw [List.take_length] at hown
      go_wp2
      go_ret
      exact ⟨_, rfl, hown, hb⟩
end Go.Proofs.YtbmglebipepdmaaGreatDoor
namespace Go.Proofs.YtbmglebipepdmaaGreatDoor
open Go.RowKit
def SvrPost (l : List Dc) (w : World) (e : Ending) (w' : World) : Prop := ∃ v, e = .returned v ∧ w'.ownsRow w.heap.size 9 1 v (dN l).length (aO (dN l)) ∧ Below w.heap.size w w'
theorem yK {l : List Dc} {k : Nat} (h : k < l.length) {d : Dc} (hd : d = l[k]) (hk : d.kind = 1) : dN (l.take (k + 1)) = dN (l.take k) ++ d.names := by
  rw [A8 l k h, ← hd]; unfold dN dY; rw [List.flatMap_append]; simp [hk]
theorem Bd {l : List Dc} {k : Nat} (h : k < l.length) {d : Dc} (hd : d = l[k]) (hk : d.kind ≠ 1) : dN (l.take (k + 1)) = dN (l.take k) := by
  rw [A8 l k h, ← hd]; unfold dN dY; rw [List.flatMap_append]; simp [hk]

set_option maxRecDepth 100000 in
set_option maxHeartbeats 4000000 in
theorem servers_any (l : List Dc) (A : Option Addr) (c : Nat) (w : World) (S : Nat → Prop) (hl : bG (jE w S) w S 22 A l) (hS : ∀ g, S g → g < w.heap.size) (hsz : (dN l).length ≤ 100000000) (hll : l.length ≤ 100000000) :
    Calls Tryz.prog 25 #[.slice A l.length c] w (SvrPost l w) := by
  have HL := Lib.hid hl
  clear hl
  go_enter Tryz.func25, Tryz.ntmps25
  go_wp2
  go_loopw [3, 8] (fun v x wr => ∃ k : Nat, k ≤ l.length ∧ x = .int .i64 k ∧ wr.ownsRow w.heap.size 9 1 v (dN (l.take k)).length (aO (dN (l.take k))) ∧ Below w.heap.size w wr) (fun _ x _ => l.length - (intOf x).toNat)
  case atStart => exact ⟨0, Nat.zero_le _, rfl, World.ownsRow_nil _ _ _ _, Below.refl _ _⟩
  case round =>
    obtain ⟨k, hk, rfl, hown, hb⟩ := hrel
    have hsr := hb.size
    by_cases hlt : k < l.length
    · obtain ⟨g, o, v2, rfl, hSg, hp, hc⟩ := iM (fun _ _ h => qB h) (HL.out.keep (P' := jE wr S) (aF hb hS) (fun _ _ h => h.keep (aF hb hS))) hlt
      have hgs : g < wr.heap.size := by have := hS g hSg; omega
      obtain ⟨d, hd⟩ : ∃ d, d = l[k] := ⟨_, rfl⟩
      rw [← hd] at hp
      have hq : (dN (l.take k)).length ≤ 100000000 := by have := pu (fun d : Dc => if d.kind = 1 then d.names else []) l k; unfold dN dY at hsz ⊢; omega
      have hq2 : (dN (l.take (k + 1))).length ≤ 100000000 := by have := pu (fun d : Dc => if d.kind = 1 then d.names else []) l (k + 1); unfold dN dY at hsz ⊢; omega
      obtain ⟨cs, nA, nc, hcl, hone, rfl, c0, -, -, c3, -, hsn, hnc⟩ := rC hp
      have hrange : wr.rangeAt g (o + k * 22) cs := fun j u hu => hc j u (by simpa [cellsOf, Value.cells] using hu)
      have BA : (Tryz.prog.info? 41).map (·.size) = some cs.length := by rw [hcl]; exact fP
      have hcs2 : cs.toArray.size = 22 := by simpa using hcl
      have Mv := Lib.hid hone
      have HCS := Lib.hid hcs2
      have C0 := Lib.hid c0
      have C3 := Lib.hid c3
      have HSN := Lib.hid hsn
      have hkI : (k : Int) < (l.length : Int) := by omega
      have hk0 : (0 : Int) ≤ (k : Int) := by omega
      have hbA : ∀ o, Below wr.heap.size wr (wr.alloc o) := fun o => (Below.refl _ _).alloc (Nat.le_refl _) o
      by_cases hk1 : d.kind = 1
      · have hsv := yK hlt hd hk1
        rw [hsv, List.length_append] at hq2
        have hkb : (d.kind == (1 : Int)) = true := by rw [hk1]; rfl
        have HSV := Lib.hid hsv
        have HDK := Lib.hid hk1
        obtain ⟨cur, hcur⟩ : ∃ cur, cur = dN (l.take k) := ⟨_, rfl⟩
        rw [← hcur] at hown hq hq2 HSV
        clear hcur hp hc hone hcs2 c0 c3 hsn hsv hk1 hd
        go_wp2_with (first | (with_reducible refine wpList_load_mid rfl 41 (.tmp 10) rfl g (o + k * 22) rfl cs _ hrange Tryz.underlying41 rfl BA ?_) | (with_reducible refine gG _ rfl rfl (.tmp 5) (.tmp 11) rfl wr.heap.size cs.toArray rfl rfl _ (heap_alloc_new wr _) rfl HCS.out Mv.out ?_; intro W5 hr5 hg5; have e0 := rE hr5 C0.out; have e3 := rE hr5 C3.out; have hb5 : Below wr.heap.size wr W5 := (hbA _).trans (below_grown hg5 (Nat.le_refl _) (by simp)); have hs5 : w.heap.size ≤ W5.heap.size := Nat.le_trans hsr hb5.size; clear hr5 hg5) | (at_builtin; refine pK W5 rfl (.tmp 15) (.tmp 17) rfl w.heap.size _ _ _ (own_below hown hb5 (Nat.le_refl _)) rfl S nA _ nc d.names rfl rfl (HSN.out.keep (aW hb5)) (by omega) (by omega) hs5 ?_; intro v3 w3 hown3 hg3 hv3))
        go_roundw
        case rel =>
          refine ⟨k + 1, by omega, by go_num, ?_, (hb.trans (hb5.mono hsr)).trans (bH (own_below hown hb5 (Nat.le_refl _)) hg3 hs5)⟩
          rw [HSV.out, List.length_append, nH]
          exact hown3
        case measure => simp [intOf]; omega
      · have hsv := Bd hlt hd hk1
        have hkb : (d.kind == (1 : Int)) = false := by rw [beq_eq_false_iff_ne]; exact hk1
        have HSV := Lib.hid hsv
        clear hp hc hone hcs2 c0 c3 hsn hsv hk1 hd
        go_wp2_with (first | (with_reducible refine wpList_load_mid rfl 41 (.tmp 10) rfl g (o + k * 22) rfl cs _ hrange Tryz.underlying41 rfl BA ?_) | (with_reducible refine gG _ rfl rfl (.tmp 5) (.tmp 11) rfl wr.heap.size cs.toArray rfl rfl _ (heap_alloc_new wr _) rfl HCS.out Mv.out ?_; intro W5 hr5 hg5; have e0 := rE hr5 C0.out; have hb5 : Below wr.heap.size wr W5 := (hbA _).trans (below_grown hg5 (Nat.le_refl _) (by simp)); clear hr5 hg5))
        go_roundw
        case rel =>
          refine ⟨k + 1, by omega, by go_num, ?_, hb.trans (hb5.mono hsr)⟩
          rw [HSV.out]
          exact own_below hown hb5 (Nat.le_refl _)
        case measure => simp [intOf]; omega
    · obtain rfl : k = l.length := by omega
      have hkI : ¬ (l.length : Int) < (l.length : Int) := by omega
      rw [List.take_length] at hown
      go_wp2
      go_ret
      exact ⟨_, rfl, hown, hb⟩
set_option maxRecDepth 100000 in
set_option maxHeartbeats 4000000 in
theorem servers_ref (l : List Dc) (A : Option Addr) (c : Nat) (w : World) (S : Nat → Prop) (hl : bG (jE w S) w S 22 A l) (hS : ∀ g, S g → g < w.heap.size) (hsz : (dN l).length ≤ 100000000) (hll : l.length ≤ 100000000) :
    Calls Tryz.prog 26 #[.slice A l.length c] w (SvrPost l w) := by
  have HL := Lib.hid hl
  clear hl
  go_enter Tryz.func26, Tryz.ntmps26
  go_wp2
  go_loopw [3, 4] (fun v x wr => ∃ k : Nat, k ≤ l.length ∧ x = .int .i64 k ∧ wr.ownsRow w.heap.size 9 1 v (dN (l.take k)).length (aO (dN (l.take k))) ∧ Below w.heap.size w wr) (fun _ x _ => l.length - (intOf x).toNat)
  case atStart => exact ⟨0, Nat.zero_le _, rfl, World.ownsRow_nil _ _ _ _, Below.refl _ _⟩
  case round =>
    obtain ⟨k, hk, rfl, hown, hb⟩ := hrel
    have hsr := hb.size
    by_cases hlt : k < l.length
    · obtain ⟨g, o, v2, rfl, hSg, hp, hc⟩ := iM (fun _ _ h => qB h) (HL.out.keep (P' := jE wr S) (aF hb hS) (fun _ _ h => h.keep (aF hb hS))) hlt
      have hgs : g < wr.heap.size := by have := hS g hSg; omega
      obtain ⟨d, hd⟩ : ∃ d, d = l[k] := ⟨_, rfl⟩
      rw [← hd] at hp
      have hq : (dN (l.take k)).length ≤ 100000000 := by have := pu (fun d : Dc => if d.kind = 1 then d.names else []) l k; unfold dN dY at hsz ⊢; omega
      have hq2 : (dN (l.take (k + 1))).length ≤ 100000000 := by have := pu (fun d : Dc => if d.kind = 1 then d.names else []) l (k + 1); unfold dN dY at hsz ⊢; omega
      obtain ⟨cs, nA, nc, hcl, hone, rfl, c0, -, -, c3, -, hsn, hnc⟩ := rC hp
      have e0 : wr.cell? ⟨g, o + k * 22, none⟩ = some (.int .i64 d.kind) := hc 0 _ (by simpa [cellsOf, Value.cells] using c0)
      have e3 : wr.cell? ⟨g, o + k * 22 + 3, none⟩ = some (.slice nA d.names.length nc) := hc 3 _ (by simpa [cellsOf, Value.cells] using c3)
      have HSN := Lib.hid hsn
      have hkI : (k : Int) < (l.length : Int) := by omega
      have hk0 : (0 : Int) ≤ (k : Int) := by omega
      by_cases hk1 : d.kind = 1
      · have hsv := yK hlt hd hk1
        rw [hsv, List.length_append] at hq2
        have hkb : (d.kind == (1 : Int)) = true := by rw [hk1]; rfl
        have HSV := Lib.hid hsv
        obtain ⟨cur, hcur⟩ : ∃ cur, cur = dN (l.take k) := ⟨_, rfl⟩
        rw [← hcur] at hown hq hq2 HSV
        clear hcur hp hc hone c0 c3 hsn hsv hk1 hd
        go_wp2_with (at_builtin; refine pK wr rfl (.tmp 17) (.tmp 22) rfl w.heap.size _ _ _ hown rfl S nA _ nc d.names rfl rfl HSN.out (by omega) (by omega) hsr ?_; intro v3 w3 hown3 hg3 hv3)
        go_roundw
        case rel =>
          refine ⟨k + 1, by omega, by go_num, ?_, hb.trans (bH hown hg3 hsr)⟩
          rw [HSV.out, List.length_append, nH]
          exact hown3
        case measure => simp [intOf]; omega
      · have hsv := Bd hlt hd hk1
        have hkb : (d.kind == (1 : Int)) = false := by rw [beq_eq_false_iff_ne]; exact hk1
        have HSV := Lib.hid hsv
        clear hp hc hone c0 c3 hsn hsv hk1 hd
        go_wp2
        go_roundw
        case rel =>
          refine ⟨k + 1, by omega, by go_num, ?_, hb⟩
          rw [HSV.out]
          exact hown
        case measure => simp [intOf]; omega
    · obtain rfl : k = l.length := by omega
      have hkI : ¬ (l.length : Int) < (l.length : Int) := by omega
      rw [List.take_length] at hown
      go_wp2
      go_ret
      exact ⟨_, rfl, hown, hb⟩
end Go.Proofs.YtbmglebipepdmaaGreatDoor
namespace Go.Proofs.YtbmglebipepdmaaGreatDoor
open Go.RowKit
/-- Declarations that add takes. -/
structure BOk (l : List Dc) : Prop where
  each : ∀ d ∈ l, (-9223372036854775808 ≤ d.kind ∧ d.kind ≤ 9223372036854775807) ∧ d.name.size ≤ maxLen ∧ ∀ x ∈ d.names, x.size ≤ maxLen
  all : (l.map fun d => d.names.length + 1).sum ≤ 100000000
def nb2 (l : List Dc) : Nat := (l.map fun d => d.names.length + 1).sum
theorem JC (l : List Dc) (d : Dc) : nb2 (l ++ [d]) = nb2 l + 1 + d.names.length := by simp [nb2]; omega
theorem Ho (l : List Dc) : aN l ≤ nb2 l := by
  unfold aN nb2
  induction l with
  | nil => simp
  | cons d r ih => rw [List.map_cons, List.sum_cons, List.map_cons, List.sum_cons]; split <;> omega
theorem JD (k : Int) (l : List Dc) : fu k l ≤ nb2 l := by
  unfold fu nb2
  induction l with
  | nil => simp
  | cons d r ih => rw [List.countP_cons, List.map_cons, List.sum_cons]; split <;> omega
theorem nb2_len (l : List Dc) : l.length ≤ nb2 l := by
  unfold nb2
  induction l with
  | nil => simp
  | cons d r ih => rw [List.map_cons, List.sum_cons, List.length_cons]; omega
def Mt (l : List Dc) (S : Nat → Prop) (w : World) (e : Ending) (w' : World) : Prop :=
  ∃ b kb db wb cb zb n zn, e = .returned (.pointer (some ⟨b, 0, none⟩)) ∧ Sc Tryz.prog 65 w' S b kb db wb cb zb n zn (mV l) (aN l) (fu 4 l) (fu 6 l) (dG l) (eB l) [] [] (fun _ => none) ∧ Below w.heap.size w w'
set_option maxRecDepth 100000 in
set_option maxHeartbeats 4000000 in
theorem Cb (l : List Dc) (A : Option Addr) (c : Nat) (w : World) (S : Nat → Prop) (hl : bG (jE w S) w S 22 A l) (hS : ∀ g, S g → g < w.heap.size) (hB : BOk l) :
    Calls Tryz.prog 53 #[.slice A l.length c] w (Mt l S w) := by
  have HL := Lib.hid hl
  have HB := Lib.hid hB.each
  have HBA := Lib.hid hB.all
  have hll : l.length ≤ 100000000 := Nat.le_trans (nb2_len l) hB.all
  have HEM := Lib.hid (FO w S hS)
  clear hl hB
  go_enter Tryz.func53, Tryz.ntmps53
  go_wp2_with fail
  refine HEM.out.mono ?_
  rintro e w2 ⟨b, kb, db, wb, cb, zb, rfl, hsc, hb2, hlo⟩
  have HSC := Lib.hid hsc
  clear hsc
  go_wp2_with fail
  go_loopw [9] (fun x wr => ∃ k : Nat, k ≤ l.length ∧ x = .int .i64 k ∧ Below w.heap.size w wr ∧ Hid (Sc Tryz.prog 65 wr S b kb db wb cb zb (nb2 (l.take k)) 0 (mV (l.take k)) (aN (l.take k)) (fu 4 (l.take k)) (fu 6 (l.take k)) (dG (l.take k)) (eB (l.take k)) [] [] (fun _ => none))) (fun x _ => l.length - (intOf x).toNat)
  case atStart => exact ⟨0, Nat.zero_le _, rfl, hb2, Lib.hid HSC.out⟩
  case round =>
    obtain ⟨k, hk, rfl, hb, hsc⟩ := hrel
    have hsr := hb.size
    by_cases hlt : k < l.length
    · obtain ⟨g, o, v2, rfl, hSg, hp, hc⟩ := iM (fun _ _ h => qB h) (HL.out.keep (P' := jE wr S) (aF hb hS) (fun _ _ h => h.keep (aF hb hS))) hlt
      obtain ⟨d, hd⟩ : ∃ d, d = l[k] := ⟨_, rfl⟩
      have hmem : d ∈ l := by rw [hd]; exact List.getElem_mem hlt
      have htk := A8 l k hlt
      rw [← hd] at hp htk
      have hq2 := sum_takeA (fun d : Dc => d.names.length + 1) l (k + 1)
      have hba := HBA.out
      rw [htk] at hq2
      have hq3 : nb2 (l.take k ++ [d]) ≤ 100000000 := Nat.le_trans hq2 hba
      rw [JC] at hq3
      obtain ⟨hd1, hd2, hd3⟩ := HB.out d hmem
      have hps := Ho (l.take k)
      have hp4 := JD 4 (l.take k)
      have hp6 := JD 6 (l.take k)
      obtain ⟨cs, nA, nc, hcl, hone, rfl, -, -, -, -, -, -, -⟩ := rC hp
      have hrange : wr.rangeAt g (o + k * 22) cs := fun j u hu => hc j u (by simpa [cellsOf, Value.cells] using hu)
      have BA : (Tryz.prog.info? 41).map (·.size) = some cs.length := by rw [hcl]; exact fP
      have hcs2 : cs.toArray.size = 22 := by simpa using hcl
      have Mv := Lib.hid hone
      have HCS := Lib.hid hcs2
      have HP := Lib.hid hp
      have HTK := Lib.hid htk
      have HD := Lib.hid (show (-9223372036854775808 ≤ d.kind ∧ d.kind ≤ 9223372036854775807) ∧ d.name.size ≤ maxLen ∧ ∀ x ∈ d.names, x.size ≤ maxLen from ⟨hd1, hd2, hd3⟩)
      have hkI : (k : Int) < (l.length : Int) := by omega
      have hk0 : (0 : Int) ≤ (k : Int) := by omega
      have hbA : ∀ o, Below wr.heap.size wr (wr.alloc o) := fun o => (Below.refl _ _).alloc (Nat.le_refl _) o
      obtain ⟨lk, hlk⟩ : ∃ lk, lk = l.take k := ⟨_, rfl⟩
      rw [← hlk] at hsc hq3 hps hp4 hp6 HTK
      clear hlk hp hc hone hcs2 htk hd hmem hq2 hba hd1 hd2 hd3 hcl
      have hsz0 := hsc.out.lt.1
      have hk1 := hsc.out.kinds.lt
      have hk2 : db < wr.heap.size := by obtain ⟨g, hg, -⟩ := hsc.out.decls; exact hg.lt
      go_wp2_with (first | (with_reducible refine wpList_load_mid rfl 41 (.tmp 11) rfl g (o + k * 22) rfl cs _ hrange Tryz.underlying41 rfl BA ?_) | (with_reducible refine gG _ rfl rfl (.tmp 5) (.tmp 12) rfl wr.heap.size cs.toArray rfl rfl _ (heap_alloc_new wr _) rfl HCS.out Mv.out ?_; intro W5 hr5 hg5) | (with_reducible refine fQ _ rfl (.tmp 5) rfl wr.heap.size rfl _ hr5 HCS.out ?_))
      have hb5 : Below wr.heap.size wr W5 := (hbA _).trans (below_grown hg5 (Nat.le_refl _) (by simp))
      have JU : Below w.heap.size w W5 := hb.trans (hb5.mono hsr)
      have HAD := Lib.hid (add_any (hsc.out.below hb5) d _ (HP.out.keep (aW hb5)) HD.out.1 HD.out.2.1 HD.out.2.2 (by omega) (by omega) (by omega) (by omega))
      clear hr5 hg5 hrange
      refine HAD.out.mono ?_
      rintro e w7 ⟨rfl, hsc7, hbt7⟩
      have HS7 := Lib.hid hsc7
      have hbw7 : Below w.heap.size w w7 := JU.trans (hbt7.below (fun g hg => by unfold AddT at hg; omega) (by have := JU.size; omega))
      clear hsc7
      go_wp2
      go_roundw
      case rel =>
        refine ⟨k + 1, by omega, by go_num, hbw7, Lib.hid ?_⟩
        rw [HTK.out, JC, uJ, uW, rY, rY, uF, wX]
        exact HS7.out
      case measure => simp [intOf]; omega
    · obtain rfl : k = l.length := by omega
      have hkI : ¬ (l.length : Int) < (l.length : Int) := by omega
      rw [List.take_length] at hsc
      go_wp2
      go_ret
      exact ⟨b, kb, db, wb, cb, zb, _, _, rfl, hsc.out, hb⟩
set_option maxRecDepth 100000 in
set_option maxHeartbeats 1000000 in
theorem kind_any (l : List Dc) (A : Option Addr) (c : Nat) (name : ByteArray) (hnm : name.size ≤ maxLen) (w : World) (S : Nat → Prop) (hl : bG (jE w S) w S 22 A l) (hS : ∀ g, S g → g < w.heap.size) (hB : BOk l) :
    Calls Tryz.prog 27 #[.slice A l.length c, .string name] w fun e w' => e = .returned (.int .i64 (eZ (tab l) name)) ∧ Below w.heap.size w w' := by
  have HBE := Lib.hid (Cb l A c w S hl hS hB)
  clear hl hB
  rw [← ve]
  obtain ⟨k, hk⟩ : ∃ k, k = mZ (mV l) name := ⟨_, rfl⟩
  rw [← hk]
  have HKT := Lib.hid hk
  clear hk
  go_enter Tryz.func27, Tryz.ntmps27
  go_wp2_with fail
  refine HBE.out.mono ?_
  rintro e w2 ⟨b, kb, db, wb, cb, zb, n, zn, rfl, hsc, hb2⟩
  obtain ⟨c0, -⟩ := Aw hsc.row
  have HK := Lib.hid hsc.kinds
  have hg : (kF (mV l) name).getD (.int .i64 0) = .int .i64 k := by rw [HKT.out]; exact wH _ name
  clear hsc
  go_wp2_with (at_lookup; refine kM _ rfl _ _ 61 rfl 9 3 eH Tryz.underlying61 (jw _) kb n _ rfl HK.out name hnm rfl _ hg ?_)
  go_ret
  exact ⟨rfl, hb2⟩
end Go.Proofs.YtbmglebipepdmaaGreatDoor
namespace Go.Proofs.YtbmglebipepdmaaGreatDoor
open Go.RowKit
theorem sum_mono {α : Type} {f g : α → Nat} (h : ∀ x, f x ≤ g x) (l : List α) : (l.map f).sum ≤ (l.map g).sum := by
  induction l with
  | nil => exact Nat.le_refl _
  | cons a r ih => have := h a; rw [List.map_cons, List.sum_cons, List.map_cons, List.sum_cons]; omega
theorem bok_of {l : List Dc} (hsz : (l.map d9).sum ≤ 1100000) (hkd : ∀ d ∈ l, -9223372036854775808 ≤ d.kind ∧ d.kind ≤ 9223372036854775807) : BOk l := by
  have hle : ∀ d : Dc, d.names.length + 1 ≤ d9 d := fun d => by
    have h3 := oq d.names
    have e1 : d9 d = d.name.size + gB d.names + (d.faults.map jB).sum + au d.term + d.proto.size + au d.read + au d.write + d.use.size + 1 := rfl
    omega
  refine ⟨fun d hd => ?_, ?_⟩
  · have h1 := in_sum2 d9 hd
    have e1 : d9 d = d.name.size + gB d.names + (d.faults.map jB).sum + au d.term + d.proto.size + au d.read + au d.write + d.use.size + 1 := rfl
    refine ⟨hkd d hd, by unfold maxLen; omega, fun x hx => ?_⟩
    have h2 := in_sum2 (fun s : ByteArray => s.size + 1) hx
    have e2 : gB d.names = (d.names.map fun s => s.size + 1).sum := rfl
    unfold maxLen; omega
  · refine Nat.le_trans (sum_mono hle l) (by omega)
theorem tab_nb (l : List Dc) : (tab l).length ≤ (l.map fun d => d.names.length + 1).sum := by
  unfold tab
  induction l with
  | nil => simp
  | cons d r ih =>
    have h1 : (BP d).length ≤ d.names.length + 1 := by
      unfold BP
      rw [List.length_append]
      have a : (if jl d.kind = 0 then [] else [(d.name, jl d.kind)] : List (ByteArray × Int)).length ≤ 1 := by split <;> simp
      have b : (if d.kind = 1 then d.names.map (fun x => (x, 2)) else [] : List (ByteArray × Int)).length ≤ d.names.length := by split <;> simp
      omega
    rw [List.flatMap_cons, List.length_append, List.map_cons, List.sum_cons]; omega
theorem servers_nb (l : List Dc) : (dN l).length ≤ (l.map fun d => d.names.length + 1).sum := by
  unfold dN dY
  induction l with
  | nil => simp
  | cons d r ih =>
    have h1 : (if d.kind = 1 then d.names else []).length ≤ d.names.length := by split <;> simp
    rw [List.flatMap_cons, List.length_append, List.map_cons, List.sum_cons]; omega
theorem svr_eq {l : List Dc} {sv : List ByteArray} (h : sv = dN l) {P : Program} {f : FuncId} {args : Array Value} {W : World} (hc : Calls P f args W (SvrPost l W)) :
    Calls P f args W fun e w' => ∃ v, e = .returned v ∧ w'.ownsRow W.heap.size 9 1 v sv.length (aO sv) ∧ Below W.heap.size W w' := by subst h; exact hc
theorem kept_of2 {S : Nat → Prop} {w w' : World} (hb : Below w.heap.size w w') {base e size n : Nat} {v : Value} {xs : List Value} (_ : w.ownsRow base e size v n xs) : Kept S w w' := aW hb
set_option maxHeartbeats 1000000 in
theorem kind_ref24 (l : List Dc) (A : Option Addr) (c : Nat) (name : ByteArray) (w : World) (S : Nat → Prop) (hl : bG (jE w S) w S 22 A l) (hS : ∀ g, S g → g < w.heap.size) (htb : (tab l).length ≤ 100000000) (hll : l.length ≤ 100000000) :
    Calls Tryz.prog 28 #[.slice A l.length c, .string name] w fun e w' => e = .returned (.int .i64 (eZ (tab l) name)) ∧ Below w.heap.size w w' := by
  have HT := Lib.hid (table_ref l A c w S hl hS htb hll)
  obtain ⟨t, ht⟩ : ∃ t, t = tab l := ⟨_, rfl⟩
  unfold TabPost at HT
  rw [← ht] at HT htb ⊢
  clear hl ht
  go_enter Tryz.func28, Tryz.ntmps28
  go_wp2_with fail
  refine HT.out.mono ?_
  rintro e w1 ⟨v1, rfl, hown, hb⟩
  obtain ⟨A1, c1, rfl, hc1⟩ := bV hown
  have HF := Lib.hid (find_ref (aV.own hown) c1 name (by omega))
  clear hown
  go_wp2_with fail
  refine HF.out.mono ?_
  rintro e w2 ⟨rfl, rfl⟩
  go_wp2
  go_ret
  exact ⟨rfl, hb⟩
set_option maxRecDepth 100000 in
set_option maxHeartbeats 8000000 in
theorem names_law24 (l : List Dc) (A : Option Addr) (c : Nat) (name : ByteArray) (hnm : name.size ≤ maxLen) (w : World) (S : Nat → Prop) (hl : bG (jE w S) w S 22 A l) (_ : l.length ≤ c) (hS : ∀ g, S g → g < w.heap.size) (hsz : (l.map d9).sum ≤ 1100000) (hpw : Pow w) (hkd : ∀ d ∈ l, -9223372036854775808 ≤ d.kind ∧ d.kind ≤ 9223372036854775807) :
    Calls Tryz.prog 7 #[.slice A l.length c, .string name] w fun e w' => e = .returned (.bool true) ∧ Below w.heap.size w w' := by
  have HP := Lib.hid hpw
  have hL := fun (W : World) (hW : Below w.heap.size w W) => (⟨hl.keep (P' := jE W S) (aF hW hS) (fun _ _ h => h.keep (aF hW hS)), fun g hg => by have := hS g hg; have := hW.size; omega⟩ : bG (jE W S) W S 22 A l ∧ ∀ g, S g → g < W.heap.size)
  have HFW := Lib.hid (fun (W : World) (hW : Below w.heap.size w W) => few_ref l A c W S (hL W hW).1 (hL W hW).2 hsz)
  have HAW := Lib.hid (fun (W : World) (hW : Below w.heap.size w W) => IZ W (HP.out.below hW))
  by_cases h20 : l.length ≤ 20
  · have hI20 : ¬ ((20 : Int) < (l.length : Int)) := by omega
    by_cases Ak : (l.map dF).sum ≤ 10000
    · rw [decide_eq_true Ak] at HFW
      have hB : BOk l := bok_of hsz hkd
      have htb : (tab l).length ≤ 100000000 := Nat.le_trans (tab_nb l) hB.all
      have hsv : (dN l).length ≤ 100000000 := Nat.le_trans (servers_nb l) hB.all
      have HS1 := Lib.hid (fun (W : World) (hW : Below w.heap.size w W) => servers_any l A c W S (hL W hW).1 (hL W hW).2 hsv (by omega))
      have HS2 := Lib.hid (fun (W : World) (hW : Below w.heap.size w W) => servers_ref l A c W S (hL W hW).1 (hL W hW).2 hsv (by omega))
      have HK1 := Lib.hid (fun (W : World) (hW : Below w.heap.size w W) => kind_any l A c name hnm W S (hL W hW).1 (hL W hW).2 hB)
      have HK2 := Lib.hid (fun (W : World) (hW : Below w.heap.size w W) => kind_ref24 l A c name W S (hL W hW).1 (hL W hW).2 htb (by omega))
      obtain ⟨sv, hsvd⟩ : ∃ sv, sv = dN l := ⟨_, rfl⟩
      have HS1 := Lib.hid (fun (W : World) (hW : Below w.heap.size w W) => svr_eq hsvd (HS1.out W hW))
      have HS2 := Lib.hid (fun (W : World) (hW : Below w.heap.size w W) => svr_eq hsvd (HS2.out W hW))
      obtain ⟨kd, hkdd⟩ : ∃ kd, kd = eZ (tab l) name := ⟨_, rfl⟩
      rw [← hkdd] at HK1 HK2
      rw [← hsvd] at hsv
      clear hl hsz hpw hL Ak hB htb hsvd hkdd hkd
      go_enter Tryz.func7, Tryz.ntmps7
      go_wp2_with fail
      refine (HAW.out _ (Below.refl _ _)).mono ?_
      rintro e W1 ⟨rfl, hb1⟩
      go_wp2_with fail
      refine (HFW.out W1 hb1).mono ?_
      rintro e W2 ⟨rfl, hb2⟩
      have hw2 := hb1.trans (hb2.mono hb1.size)
      clear hb1 hb2
      go_wp2_with fail
      refine (HS1.out W2 hw2).mono ?_
      rintro e W3 ⟨v3, rfl, hown3, hb3⟩
      obtain ⟨A3, c3, rfl, hc3⟩ := bV hown3
      have hw3 := hw2.trans (hb3.mono hw2.size)
      go_wp2_with fail
      refine (HS2.out W3 hw3).mono ?_
      rintro e W4 ⟨v4, rfl, kS, hb4⟩
      obtain ⟨A4, c4, rfl, hc4⟩ := bV kS
      have hw4 := hw3.trans (hb4.mono hw3.size)
      have HE := Lib.hid (LG sv A3 A4 c3 c4 W4 _ _ ((aV.own hown3).keep (kept_of2 hb4 hown3)) (aV.own kS) (by omega))
      clear hown3 kS
      go_wp2_with fail
      refine HE.out.mono ?_
      rintro e W5 ⟨rfl, hb5⟩
      have hw5 := hw4.trans (hb5.mono hw4.size)
      go_wp2_with fail
      refine (HK1.out W5 hw5).mono ?_
      rintro e W6 ⟨rfl, hb6⟩
      have hw6 := hw5.trans (hb6.mono hw5.size)
      go_wp2_with fail
      refine (HK2.out W6 hw6).mono ?_
      rintro e W7 ⟨rfl, hb7⟩
      go_wp2
      go_ret
      exact ⟨rfl, hw6.trans (hb7.mono hw6.size)⟩
    · rw [decide_eq_false Ak] at HFW
      clear hl hsz hpw hL Ak
      go_enter Tryz.func7, Tryz.ntmps7
      go_wp2_with fail
      refine (HAW.out _ (Below.refl _ _)).mono ?_
      rintro e W1 ⟨rfl, hb1⟩
      go_wp2_with fail
      refine (HFW.out W1 hb1).mono ?_
      rintro e W2 ⟨rfl, hb2⟩
      have hw2 := hb1.trans (hb2.mono hb1.size)
      go_wp2_with fail
      refine (HAW.out W2 hw2).mono ?_
      rintro e W3 ⟨rfl, hb3⟩
      go_wp2
      go_ret
      exact ⟨rfl, hw2.trans (hb3.mono hw2.size)⟩
  · have hI20 : (20 : Int) < (l.length : Int) := by omega
    clear hl hsz hpw hL HFW
    go_enter Tryz.func7, Tryz.ntmps7
    go_wp2_with fail
    refine (HAW.out _ (Below.refl _ _)).mono ?_
    rintro e W1 ⟨rfl, hb1⟩
    go_wp2_with fail
    refine (HAW.out W1 hb1).mono ?_
    rintro e W3 ⟨rfl, hb3⟩
    go_wp2
    go_ret
    exact ⟨rfl, hb1.trans (hb3.mono hb1.size)⟩
end Go.Proofs.YtbmglebipepdmaaGreatDoor
namespace Go.Proofs.YtbmglebipepdmaaGreatDoor
open Go.ChangeShapes Go.WideShapes Go.ChangeAt Go.RowKit
section
variable {H : Type} {enc : TypeId × Value → H} {W : World} {sp : Nat → Bool} {held : Bool}
def DcK (W : World) (d : Dc) (v : Value) : Prop := jE W (· < W.heap.size) d v ∧ -9223372036854775808 ≤ d.kind ∧ d.kind ≤ 9223372036854775807
set_option maxRecDepth 100000 in
set_option maxHeartbeats 2000000 in
theorem openDcK (n : Nat) (cs : List Value) (x : DataW H × List MemPlace) (h : DataW.trod enc Tryz.prog W 0 sp held n 41 cs = some x) :
    ∃ (d : Dc) (v : Value), DcK W d v ∧ cs = cellsOf v ∧ d9 d ≤ Rows.uptoBulk x.1 := by
  obtain ⟨d, v, h1, h2, h3⟩ := openDc n cs x h
  refine ⟨d, v, ⟨h1, ?_⟩, h2, h3⟩
  obtain ⟨xs, m, rfl, rfl, hl, hlen, hf⟩ := DataW.trod_struct Tryz.underlying41 h
  obtain ⟨nA, nc, fA, fc, vt, vr, vw, rfl, -, -, -, -, -, -, -⟩ := h1
  have hlen' : xs.length = 10 := hlen
  obtain ⟨y0, ys, rfl⟩ : ∃ y ys, xs = y :: ys := by
    cases xs with
    | nil => cases hlen'
    | cons y ys => exact ⟨y, ys, rfl⟩
  have h0 : DataW.trod enc Tryz.prog W 0 sp held m 3 [.int .i64 d.kind] = some y0 := by
    have := hf 0 _ rfl
    have hc3 : Tryz.prog.cellsOf 3 = 1 := by kernel_rfl
    rw [h2] at this
    simpa [cellsOf, Value.cells, hc3] using this
  obtain ⟨z, e, -, hz⟩ := DataW.trod_int Tryz.underlying3 h0
  obtain rfl : d.kind = z := by simpa using e
  simpa [Lit.wf, IntKind.min, IntKind.max, IntKind.signed, IntKind.bits] using hz
set_option maxRecDepth 100000 in
theorem open_decls2 {b0 : Nat} {v : Value} {d : DataW H} {p : List MemPlace} (hv : Value.okWide Tryz.prog W .any b0 22 v) (h : DataW.Trod enc Tryz.prog W 0 sp held 22 v d p) :
    ∃ (A : Option Addr) (c : Nat) (l : List Dc), v = .slice A l.length c ∧ bG (jE W (· < W.heap.size)) W (· < W.heap.size) 22 A l ∧ l.length ≤ c ∧ (l.map d9).sum + 1 ≤ Rows.uptoBulk d ∧ ∀ x ∈ l, -9223372036854775808 ≤ x.kind ∧ x.kind ≤ 9223372036854775807 := by
  obtain ⟨a0, len, cap, rfl⟩ := okWide_slice Tryz.underlying22 hv
  obtain ⟨n, hn⟩ := h
  obtain ⟨A, c, l, e, h1, h2, h3⟩ := uS (Q := DcK W) (f := d9) Tryz.underlying22 (size := 22) (by kernel_rfl) (by decide) (fun n' cs x _ hx => openDcK n' cs x hx) hn
  simp only [Value.cells, List.cons.injEq, and_true] at e
  refine ⟨A, c, l, e, h1.keep (Kept.refl _ _) (fun _ _ h => h.1), h2, h3, fun x hx => ?_⟩
  obtain ⟨vs, q1, q2, q3⟩ := h1
  obtain ⟨i, hi, rfl⟩ := List.getElem_of_mem hx
  exact (q3 i l[i] (vs[i]'(by omega)) (List.getElem?_eq_getElem hi) (List.getElem?_eq_getElem _)).2
end
end Go.Proofs.YtbmglebipepdmaaGreatDoor
