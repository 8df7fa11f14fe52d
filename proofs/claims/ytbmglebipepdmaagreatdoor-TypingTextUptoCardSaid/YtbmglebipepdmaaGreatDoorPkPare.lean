/- The contracts of newParser and Term; and what reading declarations leaves behind each. The contract of the program's function Term. The contract of the program's function Parse. -/
import Derived.Test.YtbmglebipepdmaaGreatDoorPkLex
import Derived.Test.YtbmglebipepdmaaGreatDoorPkParb
namespace Go.Proofs.YtbmglebipepdmaaGreatDoor
open Go.RowKit

def psL (l : List UInt8) : aW := if 65536 < l.length then [] else if (lex l 1 []).2.2 ≠ 0 then [] else (lex l 1 []).1
def psE (l : List UInt8) : Nat := if 65536 < l.length then 3 else if (lex l 1 []).2.2 ≠ 0 then (lex l 1 []).2.2 else if 3000 < (lex l 1 []).1.length then 3 else 0
def wL (l : List UInt8) : Nat → Nat := if 65536 < l.length then fun _ => 0 else if (lex l 1 []).2.2 ≠ 0 then fun _ => (lex l 1 []).2.1 else if 3000 < (lex l 1 []).1.length then fun _ => 0 else fU (lex l 1 []).1

def yY (l : List UInt8) (w : World) (e : Ending) (w' : World) : Prop :=
 ∃ b A n c, e = .returned (.pointer (some ⟨b, 0, none⟩)) ∧ w.heap.size ≤ b ∧ PSt b A n c (psL l) (wL l) ⟨0, psE l⟩ w' ∧ Below w.heap.size w w'

set_option maxRecDepth 100000 in
set_option maxHeartbeats 4000000 in
theorem BL (s : ByteArray) (w : World) : Calls Tryz.prog 121 #[.string s] w (yY s.data.toList w) := by
 have HT := Lib.hid (Ja s w)
 have hsz : s.data.toList.length = s.size := by simp
 go_enter Tryz.func121, Tryz.ntmps121
 go_wp2_with fail
 refine HT.out.mono ?_
 rintro e W ⟨hb, hk⟩
 have hs := hb.size
 obtain ⟨T, hT⟩ : ∃ T, T = lex s.data.toList 1 [] := ⟨_, rfl⟩
 have e1 : psL s.data.toList = if 65536 < s.size then [] else if T.2.2 ≠ 0 then [] else T.1 := by unfold psL; rw [hsz, ← hT]
 have e2 : psE s.data.toList = if 65536 < s.size then 3 else if T.2.2 ≠ 0 then T.2.2 else if 3000 < T.1.length then 3 else 0 := by unfold psE; rw [hsz, ← hT]
 have e3 : wL s.data.toList = if 65536 < s.size then fun _ => 0 else if T.2.2 ≠ 0 then fun _ => T.2.1 else if 3000 < T.1.length then fun _ => 0 else fU T.1 := by unfold wL; rw [hsz, ← hT]
 rw [← hT] at hk
 clear hsz hT
 obtain ⟨L, li, er⟩ := T
 simp only at hk e1 e2 e3
 by_cases h1 : 65536 < s.size
 ·rw [if_pos h1] at hk e1 e2 e3
  subst hk
  have E1 := Lib.hid e1
  have E2 := Lib.hid e2
  have E3 := Lib.hid e3
  clear h1 e1 e2 e3
  go_wp2
  go_ret
  unfold yY
  rw [E1.out, E2.out, E3.out]
  exact ⟨W.heap.size, none, 0, 0, rfl, hs, ⟨⟨0, heap_alloc_new W _, fun _ => rfl⟩, rfl, Nat.le_refl _, fun h => absurd h (by simp), .empty _ _ _ _, by simp⟩, hb.alloc hs _⟩
 ·rw [if_neg h1] at hk e1 e2 e3
  by_cases h2 : er ≠ 0
  ·rw [if_pos h2] at hk e1 e2 e3
   subst hk
   have hz : ((er : Int) == 0) = false := dV h2
   have H2 := Lib.hid h2
   have E1 := Lib.hid e1
   have E2 := Lib.hid e2
   have E3 := Lib.hid e3
   clear h1 h2 e1 e2 e3
   go_wp2
   go_ret
   unfold yY
   rw [E1.out, E2.out, E3.out]
   exact ⟨W.heap.size, none, 0, 0, rfl, hs, ⟨⟨li, heap_alloc_new W _, fun _ => rfl⟩, rfl, Nat.le_refl _, fun h => absurd h H2.out, .empty _ _ _ _, by simp⟩, hb.alloc hs _⟩
  ·rw [if_neg h2] at hk e1 e2 e3
   obtain ⟨A, c, rfl, hc, C8, hlen⟩ := hk
   have HS := Lib.hid C8
   by_cases h3 : 3000 < L.length
   ·rw [if_pos h3] at e2 e3
    have E1 := Lib.hid e1
    have E2 := Lib.hid e2
    have E3 := Lib.hid e3
    clear C8 h2 e1 e2 e3
    go_wp2
    go_ret
    unfold yY
    rw [E1.out, E2.out, E3.out]
    refine ⟨W.heap.size, A, L.length, c, rfl, hs, ⟨⟨0, heap_alloc_new W _, fun _ => rfl⟩, rfl, Nat.zero_le _, fun h => absurd h (by simp), ?_, by omega⟩, hb.alloc hs _⟩
    exact (HS.out.mono (fun g _ h => h) (by decide)).keep (aQ ((Below.refl _ _).alloc (Nat.le_refl _) _))
   ·rw [if_neg h3] at e2 e3
    have E1 := Lib.hid e1
    have E2 := Lib.hid e2
    have E3 := Lib.hid e3
    clear C8 h2 e1 e2 e3
    go_wp2
    go_ret
    unfold yY
    rw [E1.out, E2.out, E3.out]
    refine ⟨W.heap.size, A, L.length, c, rfl, hs, ⟨⟨0, heap_alloc_new W _, fun h => absurd rfl h⟩, rfl, Nat.zero_le _, fun _ => rfl, ?_, by omega⟩, hb.alloc hs _⟩
    exact (HS.out.mono (fun g _ h => h) (by decide)).keep (aQ ((Below.refl _ _).alloc (Nat.le_refl _) _))
end Go.Proofs.YtbmglebipepdmaaGreatDoor
namespace Go.Proofs.YtbmglebipepdmaaGreatDoor
open Go.RowKit

end Go.Proofs.YtbmglebipepdmaaGreatDoor
namespace Go.Proofs.YtbmglebipepdmaaGreatDoor
open Go.RowKit

theorem KJ {L : aW} (x : Int) (d : Dc) {s : St} (h0 : s.err = 0) : Ahead L (adv s) (iw L x d s).2 ∨ (iw L x d s).2.err ≠ 0 := by
 unfold iw
 split
 ·rename_i hw
  have h1 : Ahead L (adv s) (adv s) := .refl (dK hw).2
  have h2 := h1.trans (dm h1.fit)
  exact .inl (h2.trans (lJ h2.fit))
 ·split
  ·rename_i hw
   have h1 : Ahead L (adv s) (adv s) := .refl (dK hw).2
   have h2 := h1.trans (dm h1.fit)
   have h3 := h2.trans (di (⟨#[61]⟩ : ByteArray) h2.fit)
   exact .inl (h3.trans (wB x h3.fit))
  ·split
   ·rename_i hw
    have h1 : Ahead L (adv s) (adv s) := .refl (dK hw).2
    have h2 := h1.trans (dm h1.fit)
    have h3 := h2.trans (di (⟨#[61]⟩ : ByteArray) h2.fit)
    exact .inl (h3.trans (uP L _ h3.fit))
   ·split
    ·rename_i hw
     have h1 : Ahead L (adv s) (adv s) := .refl (dK hw).2
     have h2 := h1.trans (dm h1.fit)
     exact .inl (h2.trans (Ff _ h2.fit))
    ·split
     ·rename_i hw
      have h1 : Ahead L (adv s) (adv s) := .refl (dK hw).2
      exact .inl (h1.trans (mU h1.fit))
     ·split
      ·rename_i hw
       have h1 : Ahead L (adv s) (adv s) := .refl (dK hw).2
       have h2 := h1.trans (dm h1.fit)
       unfold nP
       split
       ·rename_i hw2
        have h3 := h2.trans (bH (dK hw2))
        exact .inl (h3.trans (dm h3.fit))
       ·exact .inl h2
      ·split
       ·rename_i hw
        have h1 : Ahead L (adv s) (adv s) := .refl (dK hw).2
        exact .inl (h1.trans (mU h1.fit))
       ·refine .inr ?_
        unfold fails
        rw [if_pos h0]; simp
theorem Kn {L : aW} (x : Int) {s : St} (h0 : s.err = 0) (hp : s.pos ≤ L.length) (he : (iO L x s).2.err = 0) : s.pos < (iO L x s).2.pos := by
 unfold iO at he ⊢
 have hb := rH (L := L) x (.zero (fB L s.pos)) hp
 have hn := di (L := L) (⟨#[59]⟩ : ByteArray) hb.fit
 rcases KJ (L := L) x (.zero (fB L s.pos)) h0 with h | h
 ·have := h.le
  have := hn.le
  simp only [adv] at *
  omega
 ·exact absurd (hn.ok he) h

theorem nG {L : aW} {x : Int} {f : Nat} {acc : List Dc} {s : St} (h : rO L s = false) : eG L x f acc s = (acc, s) := by
 cases f with
 |zero => rfl
 |succ f =>
  rw [eG, if_neg]
  unfold rO at h
  intro k
  rw [k.1] at h
  simp at h
  omega
theorem Ez {L : aW} {x : Int} {f : Nat} {acc : List Dc} {s : St} (h : rO L s = true) : eG L x (f + 1) acc s = eG L x f (acc ++ [(iO L x s).1]) (iO L x s).2 := by
 rw [eG, if_pos (more_ok h)]

def sG (x : Int) (L : aW) (ln : Nat → Nat) (s0 : St) : List Dc × Nat × Nat :=
 let p := eG L x L.length [] s0
 if p.2.err ≠ 0 then ([], ln p.2.pos, p.2.err) else (p.1, 0, 0)
theorem oV {x : Int} {L : aW} {ln : Nat → Nat} {s0 : St} (h : s0.err ≠ 0) : sG x L ln s0 = ([], ln s0.pos, s0.err) := by
 unfold sG
 rw [nG (by unfold rO; simp [h])]
 simp only
 rw [if_pos h]
theorem Jq (x : Int) (l : List UInt8) : dH x l = sG x (psL l) (wL l) ⟨0, psE l⟩ := by
 unfold dH
 by_cases h1 : 65536 < l.length
 ·have e : psE l = 3 := by unfold psE; rw [if_pos h1]
  rw [oV (by rw [e]; simp), e]
  simp only [if_pos h1]
  unfold wL; rw [if_pos h1]
 ·by_cases h2 : (lex l 1 []).2.2 ≠ 0
  ·have e : psE l = (lex l 1 []).2.2 := by unfold psE; rw [if_neg h1, if_pos h2]
   rw [oV (by rw [e]; exact h2), e]
   simp only [if_neg h1, if_pos h2]
   unfold wL; rw [if_neg h1, if_pos h2]
  ·by_cases h3 : 3000 < (lex l 1 []).1.length
   ·have e : psE l = 3 := by unfold psE; rw [if_neg h1, if_neg h2, if_pos h3]
    rw [oV (by rw [e]; simp), e]
    simp only [if_neg h1, if_neg h2, if_pos h3]
    unfold wL; rw [if_neg h1, if_neg h2, if_pos h3]
   ·have e : psE l = 0 := by unfold psE; rw [if_neg h1, if_neg h2, if_neg h3]
    have eL : psL l = (lex l 1 []).1 := by unfold psL; rw [if_neg h1, if_neg h2]
    have eN : wL l = fU (lex l 1 []).1 := by unfold wL; rw [if_neg h1, if_neg h2, if_neg h3]
    rw [e, eL, eN]
    simp only [if_neg h1, if_neg h2, if_neg h3]
    rfl

def Fh (r : List Dc × Nat × Nat) (w : World) (e : Ending) (w' : World) : Prop :=
 ∃ A c, e = .returned (.tuple #[.slice A r.1.length c, .int .i64 r.2.1, .int .i64 r.2.2]) ∧ r.1.length ≤ c ∧ aU (fC w' (w.heap.size ≤ ·)) w' (w.heap.size ≤ ·) 22 A r.1 ∧ Below w.heap.size w w'

theorem sW {w : World} {S : Nat → Prop} {d : Dc} {v : Value} (h : fC w S d v) : ∃ (nA : Option Addr) (nc : Nat) (fA : Option Addr) (fc : Nat) (o1 : Int) (m1 : ByteArray) (d1 : Int) (wA1 : Option Addr) (wn1 wc1 : Nat) (kA1 : Option Addr) (kn1 kc1 : Nat) (o2 : Int) (m2 : ByteArray) (d2 : Int) (wA2 : Option Addr) (wn2 wc2 : Nat) (kA2 : Option Addr) (kn2 kc2 : Nat) (o3 : Int) (m3 : ByteArray) (d3 : Int) (wA3 : Option Addr) (wn3 wc3 : Nat) (kA3 : Option Addr) (kn3 kc3 : Nat),
  v = .agg #[.int .i64 d.kind, .int .i64 d.line, .string d.name, .slice nA d.names.length nc, .slice fA d.faults.length fc, .int .i64 o1, .string m1, .int .i64 d1, .slice wA1 wn1 wc1, .slice kA1 kn1 kc1, .string d.proto, .int .i64 o2, .string m2, .int .i64 d2, .slice wA2 wn2 wc2, .slice kA2 kn2 kc2, .int .i64 o3, .string m3, .int .i64 d3, .slice wA3 wn3 wc3, .slice kA3 kn3 kc3, .string d.use] := by
 obtain ⟨nA, nc, fA, fc, vt, vr, vw, e, -, -, -, -, h5, h6, h7⟩ := h
 obtain ⟨o1, m1, d1, wA1, wn1, wc1, kA1, kn1, kc1, rfl⟩ := h5.form
 obtain ⟨o2, m2, d2, wA2, wn2, wc2, kA2, kn2, kc2, rfl⟩ := h6.form
 obtain ⟨o3, m3, d3, wA3, wn3, wc3, kA3, kn3, kc3, rfl⟩ := h7.form
 exact ⟨nA, nc, fA, fc, o1, m1, d1, wA1, wn1, wc1, kA1, kn1, kc1, o2, m2, d2, wA2, wn2, wc2, kA2, kn2, kc2, o3, m3, d3, wA3, wn3, wc3, kA3, kn3, kc3, by rw [e]; simp [Value.cells]⟩

end Go.Proofs.YtbmglebipepdmaaGreatDoor
