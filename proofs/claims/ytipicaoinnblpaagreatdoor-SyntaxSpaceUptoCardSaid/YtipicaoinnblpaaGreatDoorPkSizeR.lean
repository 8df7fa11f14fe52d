/- The contract of the reference's Size: the size and the depth of a term. Terms of a size up to a bound. -/
import Derived.Test.YtipicaoinnblpaaGreatDoorPkFmta
namespace Go.Proofs.YtipicaoinnblpaaGreatDoor
open Go.RowKit

theorem tmsDepth_snoc (l : List Tm) (k : Nat) (h : k < l.length) : tmsDepth (l.take (k + 1)) = max (tmsDepth (l.take k)) (tmDepth l[k]) := by
  have : ∀ (a : List Tm) (t : Tm), tmsDepth (a ++ [t]) = max (tmsDepth a) (tmDepth t) := by
    intro a t
    induction a with
    | nil => simp [tmsDepth]
    | cons x r ih => simp only [List.cons_append, tmsDepth, ih]; omega
  rw [List.take_succ_eq_append_getElem h, this]
theorem tmsSize_snoc (l : List Tm) (k : Nat) (h : k < l.length) : tmsSize (l.take (k + 1)) = tmsSize (l.take k) + tmSize l[k] := by
  have : ∀ (a : List Tm) (t : Tm), tmsSize (a ++ [t]) = tmsSize a + tmSize t := by
    intro a t
    induction a with
    | nil => simp [tmsSize]
    | cons x r ih => simp only [List.cons_append, tmsSize, ih]; omega
  rw [List.take_succ_eq_append_getElem h, this]
theorem tmsSize_take (l : List Tm) (k : Nat) : tmsSize (l.take k) ≤ tmsSize l := by
  have : ∀ (a b : List Tm), tmsSize (a ++ b) = tmsSize a + tmsSize b := by
    intro a b
    induction a with
    | nil => simp [tmsSize]
    | cons x r ih => simp only [List.cons_append, tmsSize, ih]; omega
  have h := this (l.take k) (l.drop k)
  rw [List.take_append_drop] at h; omega
mutual
theorem tmDepth_le : ∀ t : Tm, tmDepth t ≤ tmSize t
  | .mk op name need ws kids => by
    have h := tmsDepth_le kids
    rw [tmDepth, tmSize]; omega
theorem tmsDepth_le : ∀ l : List Tm, tmsDepth l ≤ tmsSize l
  | [] => by simp [tmsDepth]
  | t :: r => by
    have h1 := tmDepth_le t
    have h2 := tmsDepth_le r
    rw [tmsDepth, tmsSize]; omega
end
def SzOk (t : Tm) : Prop := ∀ (v : Value) (w : World) (S : Nat → Prop), TmAt w S t v → (∀ g, S g → g < w.heap.size) → tmSize t ≤ 1000000000 → Calls Tryz.prog 18 #[v] w fun e w' => e = .returned (.tuple #[.int .i64 (tmSize t), .int .i64 (tmDepth t)]) ∧ Below w.heap.size w w'

set_option maxRecDepth 100000 in
set_option maxHeartbeats 4000000 in
theorem size_step (t : Tm) (ih : ∀ k ∈ t.kids, SzOk k) : SzOk t := by
  intro v w S hv hS hsz
  have HSS0 := Lib.hid (tmsSize_kids t)
  cases hv with
  | mk op nm need ws kids wA kA cw kc vs hw hwc hk hkc hl h =>
  have hss : tmSize (.mk op nm need ws kids) = 1 + nm.size + ws.length + tmsSize kids := HSS0.out
  have hdd : tmDepth (.mk op nm need ws kids) = tmsDepth kids + 1 := by rw [tmDepth]
  have hkl := tms_length kids
  have hbig : 1 + nm.size + ws.length + tmsSize kids ≤ 1000000000 := by omega
  have IH := Lib.hid (show ∀ k ∈ kids, SzOk k from ih)
  have HL := Lib.hid (show ListAt (TmAt w S) w S 5 kA kids from ⟨vs, hl, hk, h⟩)
  have hkb : kids.length ≤ 1000000000 := by omega
  have HSS := Lib.hid hss
  have HDD := Lib.hid hdd
  clear ih hw hk hl h hss hdd hsz
  obtain ⟨w0, hw0⟩ : ∃ w0 : World, w0 = w.alloc (.cells #[.int .i64 op, .string nm, .int .i64 need, .slice wA ws.length cw, .slice kA kids.length kc] 32) := ⟨_, rfl⟩
  have hb0 : Below w.heap.size w w0 := by rw [hw0]; exact (Below.refl _ _).alloc (Nat.le_refl _) _
  have hz0 : w0.heap.size = w.heap.size + 1 := by rw [hw0]; simp
  have hr0 : w0.heap[w.heap.size]? = some (.cells #[.int .i64 op, .string nm, .int .i64 need, .slice wA ws.length cw, .slice kA kids.length kc] 32 (0, 0)) := by rw [hw0]; exact heap_alloc_new w _
  have hlt0 : w.heap.size + 1 ≤ w0.heap.size := by omega
  have HR0 := Lib.hid hr0
  have hnI : (nm.size : Int) ≤ 1000000000 := by omega
  have hwI : (ws.length : Int) ≤ 1000000000 := by omega
  have HW0 := Lib.hid hw0
  clear hz0 hr0 hw0
  go_enter Tryz.func18, Tryz.ntmps18
  go_wp2
  rw [← HW0.out]
  go_loopw [4, 5, 6] (fun x y z wr => ∃ k : Nat, k ≤ kids.length ∧ z = .int .i64 k ∧ x = .int .i64 ((1 + nm.size + ws.length + tmsSize (kids.take k) : Nat) : Int) ∧ y = .int .i64 (tmsDepth (kids.take k) : Nat) ∧ Below (w.heap.size + 1) w0 wr) (fun _ _ z _ => kids.length - (intOf z).toNat)
  case atStart => exact ⟨0, Nat.zero_le _, rfl, by simp [tmsSize], by simp [tmsDepth], Below.refl _ _⟩
  case round =>
    obtain ⟨k, hk, rfl, rfl, rfl, hb⟩ := hrel
    have hsr := hb.size
    have hbw : Below w.heap.size w wr := hb0.trans (hb.mono (by omega))
    have hr1 := (hb.block _ (by omega)).trans HR0.out
    obtain ⟨c0, c1, c2, c3, c4, -⟩ := row5 hr1
    clear hr1
    by_cases hlt : k < kids.length
    · have hlr := HL.out.keep (P' := TmAt wr S) (kept_of hbw hS) (fun _ _ h => h.keep (kept_of hbw hS))
      obtain ⟨g, o, op1, nm1, nd1, wA1, wn1, wc1, kA1, kn1, kc1, rfl, hSg, htm, k0, k1, k2, k3, k4, -⟩ := term_cells hlr hlt
      have hgs : g < wr.heap.size := World.block_lt_of_cell? wr _ k0
      have hkI : (k : Int) < (kids.length : Int) := by omega
      have hk0 : (0 : Int) ≤ (k : Int) := by omega
      have hmem : kids[k] ∈ kids := List.getElem_mem hlt
      have hts := tm_size_mem hmem
      have hsn := tmsSize_snoc kids k hlt
      have hdn := tmsDepth_snoc kids k hlt
      have htk := tmsSize_take kids (k + 1)
      have hdl := tmDepth_le kids[k]
      have hdk := tmsDepth_le (kids.take k)
      have HC := Lib.hid (IH.out _ hmem _ wr S htm (fun g hg => by have := hS g hg; have := hbw.size; omega) (by omega))
      obtain ⟨a, ha⟩ : ∃ a, a = tmSize kids[k] := ⟨_, rfl⟩
      obtain ⟨d, hd⟩ : ∃ d, d = tmDepth kids[k] := ⟨_, rfl⟩
      rw [← ha, ← hd] at HC
      rw [← ha] at hsn
      rw [← hd] at hdn
      obtain ⟨p, hp⟩ : ∃ p, p = 1 + nm.size + ws.length + tmsSize (kids.take k) := ⟨_, rfl⟩
      obtain ⟨q, hq⟩ : ∃ q, q = tmsDepth (kids.take k) := ⟨_, rfl⟩
      have hpa : p + a ≤ 1000000000 := by omega
      have hqb : q ≤ 1000000000 := by omega
      have hdb : d ≤ 1000000000 := by omega
      have HSN := Lib.hid (show 1 + nm.size + ws.length + tmsSize (kids.take (k + 1)) = p + a by omega)
      have HDN := Lib.hid (show tmsDepth (kids.take (k + 1)) = max q d by rw [hdn, hq])
      rw [← hp, ← hq]
      clear htm hlr hsn hdn htk hdl hdk ha hd hp hq hts
      by_cases hqd : q ≤ d
      · have m1 : (q : Int) ≤ (d : Int) := by omega
        have m2 : ¬ (d : Int) < (q : Int) := by omega
        have HM := Lib.hid (show max q d = d by omega)
        go_wp2_with fail
        refine HC.out.mono ?_
        rintro e W2 ⟨rfl, hb2⟩
        go_wp2
        go_roundw
        case rel => exact ⟨k + 1, by omega, by go_num, by rw [HSN.out]; go_num, by rw [HDN.out, HM.out]; congr 1; omega, hb.trans (hb2.mono (by omega))⟩
        case measure => simp [intOf]; omega
      · have m1 : ¬ (q : Int) ≤ (d : Int) := by omega
        have m2 : (d : Int) < (q : Int) := by omega
        have HM := Lib.hid (show max q d = q by omega)
        go_wp2_with fail
        refine HC.out.mono ?_
        rintro e W2 ⟨rfl, hb2⟩
        go_wp2
        go_roundw
        case rel => exact ⟨k + 1, by omega, by go_num, by rw [HSN.out]; go_num, by rw [HDN.out, HM.out]; congr 1; omega, hb.trans (hb2.mono (by omega))⟩
        case measure => simp [intOf]; omega
    · obtain rfl : k = kids.length := by omega
      have hkI : ¬ (kids.length : Int) < (kids.length : Int) := by omega
      rw [List.take_length]
      have hdl := tmsDepth_le kids
      obtain ⟨q, hq⟩ : ∃ q, q = tmsDepth kids := ⟨_, rfl⟩
      obtain ⟨p, hp⟩ : ∃ p, p = 1 + nm.size + ws.length + tmsSize kids := ⟨_, rfl⟩
      have HSZ := Lib.hid (HSS.out.trans hp.symm)
      have HDZ := Lib.hid (show tmDepth (.mk op nm need ws kids) = q + 1 by rw [HDD.out, hq])
      have hqb : q ≤ 1000000000 := by omega
      rw [← hp, ← hq]
      clear hq hp hdl
      go_wp2
      go_ret2
      refine ⟨?_, hbw⟩
      rw [HSZ.out, HDZ.out]; rfl
theorem size_ref (t : Tm) : SzOk t := by
  have : ∀ (n : Nat) (t : Tm), tmSize t ≤ n → SzOk t := by
    intro n
    induction n with
    | zero => intro t ht; have : 0 < tmSize t := by (cases t; rw [tmSize]; omega)
              omega
    | succ n ih => intro t ht; exact size_step t (fun k hk => ih k (by have := tm_kid_size hk; omega))
  exact this _ t (Nat.le_refl _)
end Go.Proofs.YtipicaoinnblpaaGreatDoor
