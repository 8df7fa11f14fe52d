/- The contracts of newParser and Term; and what reading declarations leaves behind each. The contract of the program's function Term. The contract of the program's function Parse. -/
import Derived.Test.YtbmglebipepdmaaGreatDoorPkLex
import Derived.Test.YtbmglebipepdmaaGreatDoorPkParb
namespace Go.Proofs.YtbmglebipepdmaaGreatDoor
open Go.RowKit

def psL (l : List UInt8) : aW := if 65536 < l.length then [] else if (lex l 1 []).2.2 ≠ 0 then [] else (lex l 1 []).1
def psE (l : List UInt8) : Nat := if 65536 < l.length then 3 else if (lex l 1 []).2.2 ≠ 0 then (lex l 1 []).2.2 else if 3000 < (lex l 1 []).1.length then 3 else 0
def yG (l : List UInt8) : Nat → Nat := if 65536 < l.length then fun _ => 0 else if (lex l 1 []).2.2 ≠ 0 then fun _ => (lex l 1 []).2.1 else if 3000 < (lex l 1 []).1.length then fun _ => 0 else gM (lex l 1 []).1

def AQ (l : List UInt8) (w : World) (e : Ending) (w' : World) : Prop :=
 ∃ b A n c, e = .returned (.pointer (some ⟨b, 0, none⟩)) ∧ w.heap.size ≤ b ∧ PSt b A n c (psL l) (yG l) ⟨0, psE l⟩ w' ∧ Below w.heap.size w w'

set_option maxRecDepth 100000 in
set_option maxHeartbeats 4000000 in
theorem Dz (s : ByteArray) (w : World) : Calls Tryz.prog 121 #[.string s] w (AQ s.data.toList w) := by
 have HT := Lib.hid (KO s w)
 have hsz : s.data.toList.length = s.size := by simp
 go_enter Tryz.func121, Tryz.ntmps121
 go_wp2_with fail
 refine HT.out.mono ?_
 rintro e W ⟨hb, hk⟩
 have hs := hb.size
 obtain ⟨T, hT⟩ : ∃ T, T = lex s.data.toList 1 [] := ⟨_, rfl⟩
 have e1 : psL s.data.toList = if 65536 < s.size then [] else if T.2.2 ≠ 0 then [] else T.1 := by unfold psL; rw [hsz, ← hT]
 have e2 : psE s.data.toList = if 65536 < s.size then 3 else if T.2.2 ≠ 0 then T.2.2 else if 3000 < T.1.length then 3 else 0 := by unfold psE; rw [hsz, ← hT]
 have e3 : yG s.data.toList = if 65536 < s.size then fun _ => 0 else if T.2.2 ≠ 0 then fun _ => T.2.1 else if 3000 < T.1.length then fun _ => 0 else gM T.1 := by unfold yG; rw [hsz, ← hT]
 rw [← hT] at hk
 clear hsz hT
 obtain ⟨L, li, er⟩ := T
 simp only at hk e1 e2 e3
 by_cases h1 : 65536 < s.size
 ·rw [if_pos h1] at hk e1 e2 e3
  subst hk
  have E1 := Lib.hid e1
  have E2 := Lib.hid e2
  have E3 := Lib.hid e3
  clear h1 e1 e2 e3
  go_wp2
  go_ret
  unfold AQ
  rw [E1.out, E2.out, E3.out]
  exact ⟨W.heap.size, none, 0, 0, rfl, hs, ⟨⟨0, heap_alloc_new W _, fun _ => rfl⟩, rfl, Nat.le_refl _, fun h => absurd h (by simp), .empty _ _ _ _, by simp⟩, hb.alloc hs _⟩
 ·rw [if_neg h1] at hk e1 e2 e3
  by_cases h2 : er ≠ 0
  ·rw [if_pos h2] at hk e1 e2 e3
   subst hk
   have hz : ((er : Int) == 0) = false := eP h2
   have H2 := Lib.hid h2
   have E1 := Lib.hid e1
   have E2 := Lib.hid e2
   have E3 := Lib.hid e3
   clear h1 h2 e1 e2 e3
   go_wp2
   go_ret
   unfold AQ
   rw [E1.out, E2.out, E3.out]
   exact ⟨W.heap.size, none, 0, 0, rfl, hs, ⟨⟨li, heap_alloc_new W _, fun _ => rfl⟩, rfl, Nat.le_refl _, fun h => absurd h H2.out, .empty _ _ _ _, by simp⟩, hb.alloc hs _⟩
  ·rw [if_neg h2] at hk e1 e2 e3
   obtain ⟨A, c, rfl, hc, Cc, hlen⟩ := hk
   have HS := Lib.hid Cc
   by_cases h3 : 3000 < L.length
   ·rw [if_pos h3] at e2 e3
    have E1 := Lib.hid e1
    have E2 := Lib.hid e2
    have E3 := Lib.hid e3
    clear Cc h2 e1 e2 e3
    go_wp2
    go_ret
    unfold AQ
    rw [E1.out, E2.out, E3.out]
    refine ⟨W.heap.size, A, L.length, c, rfl, hs, ⟨⟨0, heap_alloc_new W _, fun _ => rfl⟩, rfl, Nat.zero_le _, fun h => absurd h (by simp), ?_, by omega⟩, hb.alloc hs _⟩
    exact (HS.out.mono (fun g _ h => h) (by decide)).keep (aP ((Below.refl _ _).alloc (Nat.le_refl _) _))
   ·rw [if_neg h3] at e2 e3
    have E1 := Lib.hid e1
    have E2 := Lib.hid e2
    have E3 := Lib.hid e3
    clear Cc h2 e1 e2 e3
    go_wp2
    go_ret
    unfold AQ
    rw [E1.out, E2.out, E3.out]
    refine ⟨W.heap.size, A, L.length, c, rfl, hs, ⟨⟨0, heap_alloc_new W _, fun h => absurd rfl h⟩, rfl, Nat.zero_le _, fun _ => rfl, ?_, by omega⟩, hb.alloc hs _⟩
    exact (HS.out.mono (fun g _ h => h) (by decide)).keep (aP ((Below.refl _ _).alloc (Nat.le_refl _) _))
end Go.Proofs.YtbmglebipepdmaaGreatDoor
namespace Go.Proofs.YtbmglebipepdmaaGreatDoor
open Go.RowKit

end Go.Proofs.YtbmglebipepdmaaGreatDoor
namespace Go.Proofs.YtbmglebipepdmaaGreatDoor
open Go.RowKit

theorem MU {L : aW} (x : Int) (d : Dc) {s : St} (h0 : s.err = 0) : Ahead L (adv s) (iQ L x d s).2 ∨ (iQ L x d s).2.err ≠ 0 := by
 unfold iQ
 split
 ·rename_i hw
  have h1 : Ahead L (adv s) (adv s) := .refl (dW hw).2
  have h2 := h1.trans (dF h1.fit)
  exact .inl (h2.trans (mI h2.fit))
 ·split
  ·rename_i hw
   have h1 : Ahead L (adv s) (adv s) := .refl (dW hw).2
   have h2 := h1.trans (dF h1.fit)
   have h3 := h2.trans (dz (⟨#[61]⟩ : ByteArray) h2.fit)
   exact .inl (h3.trans (yu x h3.fit))
  ·split
   ·rename_i hw
    have h1 : Ahead L (adv s) (adv s) := .refl (dW hw).2
    have h2 := h1.trans (dF h1.fit)
    have h3 := h2.trans (dz (⟨#[61]⟩ : ByteArray) h2.fit)
    exact .inl (h3.trans (wG L _ h3.fit))
   ·split
    ·rename_i hw
     have h1 : Ahead L (adv s) (adv s) := .refl (dW hw).2
     have h2 := h1.trans (dF h1.fit)
     exact .inl (h2.trans (GX _ h2.fit))
    ·split
     ·rename_i hw
      have h1 : Ahead L (adv s) (adv s) := .refl (dW hw).2
      exact .inl (h1.trans (og h1.fit))
     ·split
      ·rename_i hw
       have h1 : Ahead L (adv s) (adv s) := .refl (dW hw).2
       have h2 := h1.trans (dF h1.fit)
       unfold oZ
       split
       ·rename_i hw2
        have h3 := h2.trans (bW (dW hw2))
        exact .inl (h3.trans (dF h3.fit))
       ·exact .inl h2
      ·split
       ·rename_i hw
        have h1 : Ahead L (adv s) (adv s) := .refl (dW hw).2
        exact .inl (h1.trans (og h1.fit))
       ·refine .inr ?_
        unfold fails
        rw [if_pos h0]; simp
theorem Mw {L : aW} (x : Int) {s : St} (h0 : s.err = 0) (hp : s.pos ≤ L.length) (he : (jk L x s).2.err = 0) : s.pos < (jk L x s).2.pos := by
 unfold jk at he ⊢
 have hb := tJ (L := L) x (.zero (fU L s.pos)) hp
 have hn := dz (L := L) (⟨#[59]⟩ : ByteArray) hb.fit
 rcases MU (L := L) x (.zero (fU L s.pos)) h0 with h | h
 ·have := h.le
  have := hn.le
  simp only [adv] at *
  omega
 ·exact absurd (hn.ok he) h

theorem oL {L : aW} {x : Int} {f : Nat} {acc : List Dc} {s : St} (h : tL L s = false) : fD L x f acc s = (acc, s) := by
 cases f with
 |zero => rfl
 |succ f =>
  rw [fD, if_neg]
  unfold tL at h
  intro k
  rw [k.1] at h
  simp at h
  omega
theorem Gm {L : aW} {x : Int} {f : Nat} {acc : List Dc} {s : St} (h : tL L s = true) : fD L x (f + 1) acc s = fD L x f (acc ++ [(jk L x s).1]) (jk L x s).2 := by
 rw [fD, if_pos (more_ok h)]

def uz (x : Int) (L : aW) (ln : Nat → Nat) (s0 : St) : List Dc × Nat × Nat :=
 let p := fD L x L.length [] s0
 if p.2.err ≠ 0 then ([], ln p.2.pos, p.2.err) else (p.1, 0, 0)
theorem qG {x : Int} {L : aW} {ln : Nat → Nat} {s0 : St} (h : s0.err ≠ 0) : uz x L ln s0 = ([], ln s0.pos, s0.err) := by
 unfold uz
 rw [oL (by unfold tL; simp [h])]
 simp only
 rw [if_pos h]
theorem K9 (x : Int) (l : List UInt8) : dQ x l = uz x (psL l) (yG l) ⟨0, psE l⟩ := by
 unfold dQ
 by_cases h1 : 65536 < l.length
 ·have e : psE l = 3 := by unfold psE; rw [if_pos h1]
  rw [qG (by rw [e]; simp), e]
  simp only [if_pos h1]
  unfold yG; rw [if_pos h1]
 ·by_cases h2 : (lex l 1 []).2.2 ≠ 0
  ·have e : psE l = (lex l 1 []).2.2 := by unfold psE; rw [if_neg h1, if_pos h2]
   rw [qG (by rw [e]; exact h2), e]
   simp only [if_neg h1, if_pos h2]
   unfold yG; rw [if_neg h1, if_pos h2]
  ·by_cases h3 : 3000 < (lex l 1 []).1.length
   ·have e : psE l = 3 := by unfold psE; rw [if_neg h1, if_neg h2, if_pos h3]
    rw [qG (by rw [e]; simp), e]
    simp only [if_neg h1, if_neg h2, if_pos h3]
    unfold yG; rw [if_neg h1, if_neg h2, if_pos h3]
   ·have e : psE l = 0 := by unfold psE; rw [if_neg h1, if_neg h2, if_neg h3]
    have eL : psL l = (lex l 1 []).1 := by unfold psL; rw [if_neg h1, if_neg h2]
    have eN : yG l = gM (lex l 1 []).1 := by unfold yG; rw [if_neg h1, if_neg h2, if_neg h3]
    rw [e, eL, eN]
    simp only [if_neg h1, if_neg h2, if_neg h3]
    rfl

def GZ (r : List Dc × Nat × Nat) (w : World) (e : Ending) (w' : World) : Prop :=
 ∃ A c, e = .returned (.tuple #[.slice A r.1.length c, .int .i64 r.2.1, .int .i64 r.2.2]) ∧ r.1.length ≤ c ∧ aT (fo w' (w.heap.size ≤ ·)) w' (w.heap.size ≤ ·) 22 A r.1 ∧ Below w.heap.size w w'

theorem uQ {w : World} {S : Nat → Prop} {d : Dc} {v : Value} (h : fo w S d v) : ∃ (nA : Option Addr) (nc : Nat) (fA : Option Addr) (fc : Nat) (o1 : Int) (m1 : ByteArray) (d1 : Int) (wA1 : Option Addr) (wn1 wc1 : Nat) (kA1 : Option Addr) (kn1 kc1 : Nat) (o2 : Int) (m2 : ByteArray) (d2 : Int) (wA2 : Option Addr) (wn2 wc2 : Nat) (kA2 : Option Addr) (kn2 kc2 : Nat) (o3 : Int) (m3 : ByteArray) (d3 : Int) (wA3 : Option Addr) (wn3 wc3 : Nat) (kA3 : Option Addr) (kn3 kc3 : Nat),
  v = .agg #[.int .i64 d.kind, .int .i64 d.line, .string d.name, .slice nA d.names.length nc, .slice fA d.faults.length fc, .int .i64 o1, .string m1, .int .i64 d1, .slice wA1 wn1 wc1, .slice kA1 kn1 kc1, .string d.proto, .int .i64 o2, .string m2, .int .i64 d2, .slice wA2 wn2 wc2, .slice kA2 kn2 kc2, .int .i64 o3, .string m3, .int .i64 d3, .slice wA3 wn3 wc3, .slice kA3 kn3 kc3, .string d.use] := by
 obtain ⟨nA, nc, fA, fc, vt, vr, vw, e, -, -, -, -, h5, h6, h7⟩ := h
 obtain ⟨o1, m1, d1, wA1, wn1, wc1, kA1, kn1, kc1, rfl⟩ := h5.form
 obtain ⟨o2, m2, d2, wA2, wn2, wc2, kA2, kn2, kc2, rfl⟩ := h6.form
 obtain ⟨o3, m3, d3, wA3, wn3, wc3, kA3, kn3, kc3, rfl⟩ := h7.form
 exact ⟨nA, nc, fA, fc, o1, m1, d1, wA1, wn1, wc1, kA1, kn1, kc1, o2, m2, d2, wA2, wn2, wc2, kA2, kn2, kc2, o3, m3, d3, wA3, wn3, wc3, kA3, kn3, kc3, by rw [e]; simp [Value.cells]⟩

end Go.Proofs.YtbmglebipepdmaaGreatDoor
