/- The contract of the reference reader's method factor, case by case. gX by gen_rterm.py. The contracts of the reference reader's methods conjunction and term. gX by gen_rjoin.py. The contract of the reference reader's method fault. -/
import Derived.Test.YtbmglebipepdmaaGreatDoorPkRefa
import Derived.Test.YtbmglebipepdmaaGreatDoorPkPara
namespace Go.Proofs.YtbmglebipepdmaaGreatDoor
open Go.RowKit

def lg (L : aW) : Prop := ∀ i (h : i < L.length), (L[i]'h).1.kind = 4 → iL (L[i]'h).1.text = 0
theorem yN {L : aW} (hs : lg L) (x : ByteArray) (hx : iL x ≠ 0) (s : St) : isW L x s = (kD L s && (txt L s == x)) := by
 by_cases h0 : s.err = 0
 ·by_cases hp : s.pos < L.length
  ·unfold isW kD txt
   rw [vo h0 hp]
   have hk := hs s.pos hp
   generalize (L[s.pos]'hp).1 = t at hk ⊢
   show (((t.kind == 1 || t.kind == 4) && t.text == x) = (t.kind == 1 && iL t.text != 0 && (t.text == x)))
   cases hq : (t.text == x)
   ·simp
   ·have e : t.text = x := (iJ _ _).1 hq
    by_cases h4 : t.kind = 4
    ·exact absurd (by rw [← e]; exact hk h4) hx
    ·have : (iL t.text != 0) = true := by rw [e]; simpa using hx
     rw [this]; simp [h4]
  ·unfold isW kD; rw [um (by omega)]; rfl
 ·unfold isW kD; rw [qC h0]; rfl
theorem nP {L : aW} (hs : lg L) (s : St) : isW L (⟨#[100, 117, 97, 108]⟩ : ByteArray) s = (kD L s && decide (iL (txt L s) = 5)) ∧ isW L (⟨#[109, 97, 106, 111, 114, 105, 116, 121]⟩ : ByteArray) s = (kD L s && decide (iL (txt L s) = 6)) ∧ isW L (⟨#[97, 108, 108]⟩ : ByteArray) s = (kD L s && decide (iL (txt L s) = 7)) ∧ isW L (⟨#[97, 110, 121]⟩ : ByteArray) s = (kD L s && decide (iL (txt L s) = 8)) := by
 have e : ∀ x : ByteArray, (x == (⟨#[100, 117, 97, 108]⟩ : ByteArray)) = decide (iL x = 5) ∧ (x == (⟨#[109, 97, 106, 111, 114, 105, 116, 121]⟩ : ByteArray)) = decide (iL x = 6) ∧ (x == (⟨#[97, 108, 108]⟩ : ByteArray)) = decide (iL x = 7) ∧ (x == (⟨#[97, 110, 121]⟩ : ByteArray)) = decide (iL x = 8) := by
  intro x
  unfold iL
  by_cases h1 : (x == (⟨#[100, 117, 97, 108]⟩ : ByteArray)) = true
  ·rw [(iJ _ _).1 h1]; decide
  ·have h1 : (x == (⟨#[100, 117, 97, 108]⟩ : ByteArray)) = false := by simpa using h1
   by_cases h2 : (x == (⟨#[109, 97, 106, 111, 114, 105, 116, 121]⟩ : ByteArray)) = true
   ·rw [(iJ _ _).1 h2]; decide
   ·have h2 : (x == (⟨#[109, 97, 106, 111, 114, 105, 116, 121]⟩ : ByteArray)) = false := by simpa using h2
    by_cases h3 : (x == (⟨#[97, 108, 108]⟩ : ByteArray)) = true
    ·rw [(iJ _ _).1 h3]; decide
    ·have h3 : (x == (⟨#[97, 108, 108]⟩ : ByteArray)) = false := by simpa using h3
     by_cases h4 : (x == (⟨#[97, 110, 121]⟩ : ByteArray)) = true
     ·rw [(iJ _ _).1 h4]; decide
     ·have h4 : (x == (⟨#[97, 110, 121]⟩ : ByteArray)) = false := by simpa using h4
      rw [h1, h2, h3, h4]
      simp
 obtain ⟨e1, e2, e3, e4⟩ := e (txt L s)
 rw [yN hs _ (by decide), yN hs _ (by decide), yN hs _ (by decide), yN hs _ (by decide), e1, e2, e3, e4]
 exact ⟨rfl, rfl, rfl, rfl⟩
theorem fun_four {L : aW} {s : St} (h : kD L s = true) : iL (txt L s) = 5 ∨ iL (txt L s) = 6 ∨ iL (txt L s) = 7 ∨ iL (txt L s) = 8 := by
 have hne : iL (txt L s) ≠ 0 := by
  unfold kD txt at *
  cases e : tk L s with
  |none => rw [e] at h; simp at h
  |some t => rw [e] at h; exact bne_iff_ne.1 (Bool.and_eq_true_iff.1 h).2
 revert hne
 unfold iL
 split
 ·intro _; exact Or.inl rfl
 ·split
  ·intro _; exact Or.inr (Or.inl rfl)
  ·split
   ·intro _; exact Or.inr (Or.inr (Or.inl rfl))
   ·split
    ·intro _; exact Or.inr (Or.inr (Or.inr rfl))
    ·intro h; exact absurd rfl h
theorem vv {L : aW} {x : ByteArray} {s : St} (h : isW L x s = true) : taken L x s = adv s := by unfold taken; rw [h]; rfl
structure qp (b : Nat) (A : Option Addr) (n c : Nat) (L : aW) (pt : St → Tm × St) (K : St → Prop) : Prop where
 ahead : ∀ s t, K s → Ahead L s t → K t
 good : Good L pt
 part : ∀ (w : World) (s : St), RSt b A n c L s w → K s → Calls Tryz.prog 84 #[.pointer (some ⟨b, 0, none⟩)] w (mU b A n c L w (pt s))

theorem need_past {L : aW} {x : ByteArray} {s : St} (hp : s.pos < L.length) : (need L x (adv s)).pos ≤ L.length ∧ ((need L x (adv s)).err = 0 → s.pos + 1 ≤ (need L x (adv s)).pos) := by
 have ha := dz (L := L) x (s := adv s) (show s.pos + 1 ≤ L.length by omega)
 exact ⟨ha.fit, fun _ => ha.le⟩

set_option maxRecDepth 100000 in
set_option maxHeartbeats 4000000 in
theorem Ii {b : Nat} {A : Option Addr} {n c : Nat} {L : aW} (pt : St → Tm × St) (K : St → Prop) (hin : qp b A n c L pt K) (_ : lg L)
  {s : St} (w : World) (h : RSt b A n c L s w) (hs : Deep L K s) (hi : isInt L s = true) :
  Calls Tryz.prog 141 #[.pointer (some ⟨b, 0, none⟩)] w (mU b A n c L w (bZ L pt s)) := by
 obtain ⟨he, hp⟩ := vW hi
 have HK := Lib.hid (hs he (jS L s).2 (qm h.pos).fit (int_ahead hi))
 rw [Mk hi]
 have hbs := h.lt
 have HH := Lib.hid h
 have HI := Lib.hid hin
 obtain ⟨W0, hW0⟩ : ∃ W0 : World, W0 = w.alloc (.cells #[.int .i64 0, .string ⟨#[]⟩, .int .i64 0, .slice none 0 0, .slice none 0 0] 39) := ⟨_, rfl⟩
 have hb0 : Below w.heap.size w W0 := by rw [hW0]; exact (Below.refl _ _).alloc (Nat.le_refl _) _
 have hs0 : w.heap.size < W0.heap.size := by rw [hW0]; simp
 have hr0 : W0.heap[w.heap.size]? = some (.cells #[.int .i64 0, .string ⟨#[]⟩, .int .i64 0, .slice none 0 0, .slice none 0 0] 39 (0, 0)) := by rw [hW0]; exact heap_alloc_new w _
 have HR0 := Lib.hid hr0
 have h0 := HH.out.below hb0
 have H0 := Lib.hid h0
 obtain ⟨c0, c1, c2, -⟩ := sI h0.blk
 clear hr0
 have q0 : (((s.err : Nat) : Int) == 0) = true := lq he
 obtain ⟨g, o, rfl, hS, hgs, _, k0, k1, k2, k3, k4, i1, i2, i3⟩ := rd_facts h0 hp
 have hlt : decide (s.pos < n) = true := decide_eq_true (by have := h.len; omega)
 obtain ⟨t, ht⟩ : ∃ t, t = L[s.pos]'hp := ⟨_, rfl⟩
 have hki : isInt L s = (t.1.kind == 2) := by rw [ht]; unfold isInt; rw [vo he hp]
 rw [← ht] at k0 k1 k2 k3 k4
 have q2 : ((t.1.kind : Int) == 2) = true := lq (by rw [hi] at hki; simpa using hki.symm)
 clear hki ht k1 k2 k3 k4
 clear h h0 hin hs hi he hp
 go_enter Tryz.func141, Tryz.ntmps141
 go_wp2
 rw [← hW0]
 clear hW0
 go_quiet (fail)
 obtain ⟨W1, hW1⟩ : ∃ W1 : World, W1 = W0.drewN nq := ⟨_, rfl⟩
 have hb1 : Below W0.heap.size W0 W1 := by rw [hW1]; exact below_drewN (Below.refl _ _) _
 have h1 := H0.out.drewN nq
 rw [← hW1] at h1
 rw [← hW1]
 have hs1 := hb1.size
 have hg1 : w.grownBy W1 (some b) := aH (hb0.trans (hb1.mono (by omega)))
 have hR1 := (hb1.block _ hs0).trans HR0.out
 clear hW1 q0 c0 c1 c2 k0 i1 i2 i3 hlt q2
 go_wp2_with fail
 refine (vK W1 h1).mono ?_
 rintro e W2 ⟨rfl, h2, hx2⟩
 have hg2 := aj hg1 hx2
 have hR2 := ah hx2 hR1 (by omega)
 have hs2 := hx2.size
 clear hR1 hg1 h1
 go_wp2_with fail
 refine (thr_rd pt K HI.out.ahead HI.out.good HI.out.part W2 h2 HK.out).mono ?_
 rintro e W3 ⟨op, nm, nd, wA, wn, wc, kA, kn, kc, rfl, htm, h3, hx3⟩
 have hg3 := aj hg2 hx3
 have hR3 := ah hx3 hR2 (by omega)
 have hs3 := hx3.size
 clear hR2 hg2 h2
 obtain ⟨r0, r1, r2, r3, r4, rf⟩ := jF hR3
 have rf0 := rf 0
 have rf1 := rf 1
 have rf2 := rf 2
 have rf3 := rf 3
 have rf4 := rf 4
 have HRW := Lib.hid hR3
 clear rf hR3
 have HTM := Lib.hid htm
 clear htm
 go_wp2
 obtain ⟨hbR, hgR⟩ := BJ HRW.out (.int .i64 op) (.string nm) (.int .i64 nd) (.slice wA wn wc) (.slice kA kn kc)
 refine gL rfl rfl rfl hbR ?_
 exact ⟨_, _, _, _, _, _, _, _, _, rfl, (HTM.out.keep ((ax hgR).mono fun g hg => by omega)).mono (fun g hg _ => by omega), h3.other (below_grown hgR (Nat.le_refl _) (by omega)) hbs, aR hg3 (below_grown hgR (Nat.le_refl _) (by omega)) (Nat.le_refl _)⟩

set_option maxRecDepth 100000 in
set_option maxHeartbeats 4000000 in
theorem Dn {b : Nat} {A : Option Addr} {n c : Nat} {L : aW} (pt : St → Tm × St) (K : St → Prop) (hin : qp b A n c L pt K) (_ : lg L)
  {s : St} (w : World) (h : RSt b A n c L s w) (hs : Deep L K s) (hi : isInt L s = false) (hw : isW L (⟨#[40]⟩ : ByteArray) s = true) :
  Calls Tryz.prog 141 #[.pointer (some ⟨b, 0, none⟩)] w (mU b A n c L w (bZ L pt s)) := by
 obtain ⟨he, hp⟩ := dW hw
 have HW := Lib.hid hw
 have hto := qD hw
 have hta : (taken L (⟨#[40]⟩ : ByteArray) s).pos ≤ L.length := by rw [hto]; omega
 have HK := Lib.hid (hs he (taken L (⟨#[40]⟩ : ByteArray) s) hta (fun _ => by rw [hto]; omega))
 clear hto hta
 rw [Gh hi hw]
 have hbs := h.lt
 have HH := Lib.hid h
 have HI := Lib.hid hin
 obtain ⟨W0, hW0⟩ : ∃ W0 : World, W0 = w.alloc (.cells #[.int .i64 0, .string ⟨#[]⟩, .int .i64 0, .slice none 0 0, .slice none 0 0] 39) := ⟨_, rfl⟩
 have hb0 : Below w.heap.size w W0 := by rw [hW0]; exact (Below.refl _ _).alloc (Nat.le_refl _) _
 have hs0 : w.heap.size < W0.heap.size := by rw [hW0]; simp
 have hr0 : W0.heap[w.heap.size]? = some (.cells #[.int .i64 0, .string ⟨#[]⟩, .int .i64 0, .slice none 0 0, .slice none 0 0] 39 (0, 0)) := by rw [hW0]; exact heap_alloc_new w _
 have HR0 := Lib.hid hr0
 have h0 := HH.out.below hb0
 have H0 := Lib.hid h0
 obtain ⟨c0, c1, c2, -⟩ := sI h0.blk
 clear hr0
 have q0 : (((s.err : Nat) : Int) == 0) = true := lq he
 obtain ⟨g, o, rfl, hS, hgs, _, k0, k1, k2, k3, k4, i1, i2, i3⟩ := rd_facts h0 hp
 have hlt : decide (s.pos < n) = true := decide_eq_true (by have := h.len; omega)
 obtain ⟨t, ht⟩ : ∃ t, t = L[s.pos]'hp := ⟨_, rfl⟩
 have hki : isInt L s = (t.1.kind == 2) := by rw [ht]; unfold isInt; rw [vo he hp]
 rw [← ht] at k0 k1 k2 k3 k4
 have q2 : ((t.1.kind : Int) == 2) = false := eP (fun e => by rw [hi, e] at hki; exact absurd hki (by simp))
 clear hki ht k1 k2 k3 k4
 clear h h0 hin hs hi he hp hw
 go_enter Tryz.func141, Tryz.ntmps141
 go_wp2
 rw [← hW0]
 clear hW0
 go_quiet (fail)
 obtain ⟨W1, hW1⟩ : ∃ W1 : World, W1 = W0.drewN nq := ⟨_, rfl⟩
 have hb1 : Below W0.heap.size W0 W1 := by rw [hW1]; exact below_drewN (Below.refl _ _) _
 have h1 := H0.out.drewN nq
 rw [← hW1] at h1
 rw [← hW1]
 have hs1 := hb1.size
 have hg1 : w.grownBy W1 (some b) := aH (hb0.trans (hb1.mono (by omega)))
 have hR1 := (hb1.block _ hs0).trans HR0.out
 clear hW1 q0 c0 c1 c2 k0 i1 i2 i3 hlt q2
 have ht := aD (⟨#[40]⟩ : ByteArray) W1 h1
 rw [HW.out] at ht
 go_wp2_with fail
 refine ht.mono ?_
 rintro e W2 ⟨rfl, h2, hx2⟩
 have hg2 := aj hg1 hx2
 have hR2 := ah hx2 hR1 (by omega)
 have hs2 := hx2.size
 clear hR1 hg1 h1 ht
 go_wp2_with fail
 refine (HI.out.part W2 _ h2 HK.out).mono ?_
 rintro e W3 ⟨op, nm, nd, wA, wn, wc, kA, kn, kc, rfl, htm, h3, hx3⟩
 have hg3 := aj hg2 hx3
 have hR3 := ah hx3 hR2 (by omega)
 have hs3 := hx3.size
 clear hR2 hg2 h2
 obtain ⟨WB, hWB⟩ : ∃ WB : World, WB = W3.alloc (.cells #[.int .i64 op, .string nm, .int .i64 nd, .slice wA wn wc, .slice kA kn kc] 39) := ⟨_, rfl⟩
 have hbB : Below W3.heap.size W3 WB := by rw [hWB]; exact (Below.refl _ _).alloc (Nat.le_refl _) _
 have hrB : WB.heap[W3.heap.size]? = some (.cells #[.int .i64 op, .string nm, .int .i64 nd, .slice wA wn wc, .slice kA kn kc] 39 (0, 0)) := by rw [hWB]; exact heap_alloc_new W3 _
 have hB := h3.below hbB
 have hgB := aj hg3 (aH hbB)
 have hRB := (hbB.block _ (by omega)).trans hR3
 have htB := htm.keep (aP hbB)
 have hsB := hbB.size
 have hltB := lt_of_block hrB
 go_wp2_with fail
 rw [← hWB]
 clear hWB htm hR3 hg3 h3
 refine (eB (⟨#[41]⟩ : ByteArray) WB hB).mono ?_
 rintro e W4 ⟨rfl, h4, hx4⟩
 have hg4 := aj hgB hx4
 have hR4 := ah hx4 hRB (by omega)
 have hs4 := hx4.size
 have hrT := ah hx4 hrB (by omega)
 obtain ⟨t0, t1, t2, t3, t4, -⟩ := jF hrT
 have HTM := Lib.hid (htB.keep ((ax hx4).mono fun g hg => by omega))
 clear htB hrT hrB hRB hgB hB
 obtain ⟨r0, r1, r2, r3, r4, rf⟩ := jF hR4
 have rf0 := rf 0
 have rf1 := rf 1
 have rf2 := rf 2
 have rf3 := rf 3
 have rf4 := rf 4
 have HRW := Lib.hid hR4
 clear rf hR4
 go_wp2
 obtain ⟨hbR, hgR⟩ := BJ HRW.out (.int .i64 op) (.string nm) (.int .i64 nd) (.slice wA wn wc) (.slice kA kn kc)
 refine gL rfl rfl rfl hbR ?_
 exact ⟨_, _, _, _, _, _, _, _, _, rfl, (HTM.out.keep ((ax hgR).mono fun g hg => by omega)).mono (fun g hg _ => by omega), h4.other (below_grown hgR (Nat.le_refl _) (by omega)) hbs, aR hg4 (below_grown hgR (Nat.le_refl _) (by omega)) (Nat.le_refl _)⟩

theorem dual_tm {t : Tm} {W1 W2 : World} {B g : Nat} {op : Int} {nm : ByteArray} {nd : Int} {wA : Option Addr} {wn wc : Nat} {kA : Option Addr} {kn kc : Nat} (h : eG W1 (B ≤ ·) t (.agg #[.int .i64 op, .string nm, .int .i64 nd, .slice wA wn wc, .slice kA kn kc])) (hb : Below W1.heap.size W1 W2)
  (hr : W2.heap[g]? = some (.cells #[.int .i64 op, .string nm, .int .i64 nd, .slice wA wn wc, .slice kA kn kc] 39 (0, 0))) (hB : B ≤ g) :
  eG W2 (B ≤ ·) (.mk 5 (bs []) 0 [] [t]) (.agg #[.int .i64 5, .string (bs []), .int .i64 0, .slice none 0 0, .slice (some ⟨g, 0, none⟩) 1 1]) := by
 refine .mk 5 (bs []) 0 [] [t] none (some ⟨g, 0, none⟩) 0 1 [.agg #[.int .i64 op, .string nm, .int .i64 nd, .slice wA wn wc, .slice kA kn kc]] (.empty _ _ _ _) (Nat.le_refl _) ⟨rfl, fun _ => ⟨g, 0, rfl, hB, fun j u hu => ?_⟩⟩ (Nat.le_refl _) rfl (fun i x v hx hv => ?_)
 ·rw [Nat.zero_add, cell_of_row _ _ j _ _ _ hr]
  simpa [cellsOf, Value.cells] using hu
 ·cases i with
  |zero => simp at hx hv; subst hx hv; exact h.keep (aP hb)
  |succ i => simp at hx

set_option maxRecDepth 100000 in
set_option maxHeartbeats 4000000 in
theorem Fv {b : Nat} {A : Option Addr} {n c : Nat} {L : aW} (pt : St → Tm × St) (K : St → Prop) (hin : qp b A n c L pt K) (hsy : lg L)
  {s : St} (w : World) (h : RSt b A n c L s w) (hs : Deep L K s) (hi : isInt L s = false) (hw : isW L (⟨#[40]⟩ : ByteArray) s = false) (hf : kD L s = true) (h5 : iL (txt L s) = 5) :
  Calls Tryz.prog 141 #[.pointer (some ⟨b, 0, none⟩)] w (mU b A n c L w (bZ L pt s)) := by
 obtain ⟨he, hp⟩ := vX hf
 obtain ⟨hd5, hd6, hd7, hd8⟩ := nP hsy s
 rw [hf] at hd5 hd6 hd7 hd8
 simp only [Bool.true_and] at hd5 hd6 hd7 hd8
 have HW := Lib.hid hw
 rw [h5] at hd5
 have HD := Lib.hid (show isW L (⟨#[100, 117, 97, 108]⟩ : ByteArray) s = true from hd5)
 have hta := vv HD.out
 have hn := need_past (L := L) (x := (⟨#[40]⟩ : ByteArray)) (s := s) hp
 have HK := Lib.hid (hs he (need L (⟨#[40]⟩ : ByteArray) (adv s)) hn.1 hn.2)
 rw [← hta] at HK
 have HTA := Lib.hid hta
 clear hn hd5 hd6 hd7 hd8 hta
 rw [Jc hi hw hf h5]
 have hbs := h.lt
 have HH := Lib.hid h
 have HI := Lib.hid hin
 obtain ⟨W0, hW0⟩ : ∃ W0 : World, W0 = w.alloc (.cells #[.int .i64 0, .string ⟨#[]⟩, .int .i64 0, .slice none 0 0, .slice none 0 0] 39) := ⟨_, rfl⟩
 have hb0 : Below w.heap.size w W0 := by rw [hW0]; exact (Below.refl _ _).alloc (Nat.le_refl _) _
 have hs0 : w.heap.size < W0.heap.size := by rw [hW0]; simp
 have hr0 : W0.heap[w.heap.size]? = some (.cells #[.int .i64 0, .string ⟨#[]⟩, .int .i64 0, .slice none 0 0, .slice none 0 0] 39 (0, 0)) := by rw [hW0]; exact heap_alloc_new w _
 have HR0 := Lib.hid hr0
 have h0 := HH.out.below hb0
 have H0 := Lib.hid h0
 obtain ⟨c0, c1, c2, -⟩ := sI h0.blk
 clear hr0
 rw [← HTA.out]
 have q0 : (((s.err : Nat) : Int) == 0) = true := lq he
 obtain ⟨g, o, rfl, hS, hgs, _, k0, k1, k2, k3, k4, i1, i2, i3⟩ := rd_facts h0 hp
 have hlt : decide (s.pos < n) = true := decide_eq_true (by have := h.len; omega)
 obtain ⟨t, ht⟩ : ∃ t, t = L[s.pos]'hp := ⟨_, rfl⟩
 have hki : isInt L s = (t.1.kind == 2) := by rw [ht]; unfold isInt; rw [vo he hp]
 rw [← ht] at k0 k1 k2 k3 k4
 have q2 : ((t.1.kind : Int) == 2) = false := eP (fun e => by rw [hi, e] at hki; exact absurd hki (by simp))
 clear hki ht k1 k2 k3 k4
 clear h h0 hin hs hi he hp hw hf h5 hsy
 go_enter Tryz.func141, Tryz.ntmps141
 go_wp2
 rw [← hW0]
 clear hW0
 go_quiet (fail)
 obtain ⟨W1, hW1⟩ : ∃ W1 : World, W1 = W0.drewN nq := ⟨_, rfl⟩
 have hb1 : Below W0.heap.size W0 W1 := by rw [hW1]; exact below_drewN (Below.refl _ _) _
 have h1 := H0.out.drewN nq
 rw [← hW1] at h1
 rw [← hW1]
 have hs1 := hb1.size
 have hg1 : w.grownBy W1 (some b) := aH (hb0.trans (hb1.mono (by omega)))
 have hR1 := (hb1.block _ hs0).trans HR0.out
 clear hW1 q0 c0 c1 c2 k0 i1 i2 i3 hlt q2
 have ht := aD (⟨#[40]⟩ : ByteArray) W1 h1
 rw [HW.out, aB HW.out] at ht
 go_wp2_with fail
 refine ht.mono ?_
 rintro e W2 ⟨rfl, h2, hx2⟩
 have hg2 := aj hg1 hx2
 have hR2 := ah hx2 hR1 (by omega)
 have hs2 := hx2.size
 clear hR1 hg1 h1 ht
 have ht := aD (⟨#[100, 117, 97, 108]⟩ : ByteArray) W2 h2
 rw [HD.out] at ht
 go_wp2_with fail
 refine ht.mono ?_
 rintro e W3 ⟨rfl, h3, hx3⟩
 have hg3 := aj hg2 hx3
 have hR3 := ah hx3 hR2 (by omega)
 have hs3 := hx3.size
 clear hR2 hg2 h2 ht
 go_wp2_with fail
 refine (eB (⟨#[40]⟩ : ByteArray) W3 h3).mono ?_
 rintro e W4 ⟨rfl, h4, hx4⟩
 have hg4 := aj hg3 hx4
 have hR4 := ah hx4 hR3 (by omega)
 have hs4 := hx4.size
 clear hR3 hg3 h3
 go_wp2_with fail
 refine (HI.out.part W4 _ h4 HK.out).mono ?_
 rintro e W5 ⟨op, nm, nd, wA, wn, wc, kA, kn, kc, rfl, htm, h5, hx5⟩
 have hg5 := aj hg4 hx5
 have hR5 := ah hx5 hR4 (by omega)
 have hs5 := hx5.size
 clear hR4 hg4 h4
 obtain ⟨WB, hWB⟩ : ∃ WB : World, WB = W5.alloc (.cells #[.int .i64 op, .string nm, .int .i64 nd, .slice wA wn wc, .slice kA kn kc] 39) := ⟨_, rfl⟩
 have hbB : Below W5.heap.size W5 WB := by rw [hWB]; exact (Below.refl _ _).alloc (Nat.le_refl _) _
 have hrB : WB.heap[W5.heap.size]? = some (.cells #[.int .i64 op, .string nm, .int .i64 nd, .slice wA wn wc, .slice kA kn kc] 39 (0, 0)) := by rw [hWB]; exact heap_alloc_new W5 _
 have hB := h5.below hbB
 have hgB := aj hg5 (aH hbB)
 have hRB := (hbB.block _ (by omega)).trans hR5
 have htB := htm.keep (aP hbB)
 have hsB := hbB.size
 have hltB := lt_of_block hrB
 go_wp2_with fail
 rw [← hWB]
 clear hWB htm hR5 hg5 h5
 refine (eB (⟨#[41]⟩ : ByteArray) WB hB).mono ?_
 rintro e W6 ⟨rfl, h6, hx6⟩
 have hgC := aj hgB hx6
 have hRC := ah hx6 hRB (by omega)
 have hs6 := hx6.size
 have hrT := ah hx6 hrB (by omega)
 obtain ⟨t0, t1, t2, t3, t4, -⟩ := jF hrT
 have htC := htB.keep ((ax hx6).mono fun g hg => by omega)
 clear htB hrT hrB hRB hgB hB
 have hbD : Below W6.heap.size W6 (W6.alloc (.cells #[.int .i64 op, .string nm, .int .i64 nd, .slice wA wn wc, .slice kA kn kc] 39)) := (Below.refl _ _).alloc (Nat.le_refl _) _
 have hrD := heap_alloc_new W6 (.cells #[.int .i64 op, .string nm, .int .i64 nd, .slice wA wn wc, .slice kA kn kc] 39)
 have HTM := Lib.hid (dual_tm htC hbD hrD (by omega))
 have hD := h6.below hbD
 have hgD := aj hgC (aH hbD)
 have hRD := (hbD.block _ (lt_of_block hRC)).trans hRC
 have hsD := hbD.size
 clear htC hgC hRC h6 hrD hbD
 obtain ⟨WD, hWD⟩ : ∃ WD : World, WD = W6.alloc (.cells #[.int .i64 op, .string nm, .int .i64 nd, .slice wA wn wc, .slice kA kn kc] 39) := ⟨_, rfl⟩
 have HTM := HTM.out
 rw [← hWD] at HTM hD hgD hRD hsD
 have HTM := Lib.hid HTM
 obtain ⟨r0, r1, r2, r3, r4, rf⟩ := jF hRD
 have rf0 := rf 0
 have rf1 := rf 1
 have rf2 := rf 2
 have rf3 := rf 3
 have rf4 := rf 4
 rw [hWD] at r0 r1 r2 r3 r4 rf0 rf1 rf2 rf3 rf4
 have HRW := Lib.hid hRD
 have HWD := Lib.hid hWD
 clear rf hRD hWD
 go_wp2
 rw [← HWD.out]
 obtain ⟨hbR, hgR⟩ := BJ HRW.out (.int .i64 5) (.string (bs [])) (.int .i64 0) (.slice none 0 0) (.slice (some ⟨W6.heap.size, 0, none⟩) 1 1)
 refine gL rfl rfl rfl hbR ?_
 exact ⟨_, _, _, _, _, _, _, _, _, rfl, (HTM.out.keep ((ax hgR).mono fun g hg => by omega)).mono (fun g hg _ => by omega), hD.other (below_grown hgR (Nat.le_refl _) (by omega)) hbs, aR hgD (below_grown hgR (Nat.le_refl _) (by omega)) (Nat.le_refl _)⟩

set_option maxRecDepth 100000 in
set_option maxHeartbeats 4000000 in
theorem Ih {b : Nat} {A : Option Addr} {n c : Nat} {L : aW} (pt : St → Tm × St) (K : St → Prop) (hin : qp b A n c L pt K) (hsy : lg L)
  {s : St} (w : World) (h : RSt b A n c L s w) (_ : Deep L K s) (hi : isInt L s = false) (hw : isW L (⟨#[40]⟩ : ByteArray) s = false) (hf : kD L s = true) (hn : iL (txt L s) = 6) :
  Calls Tryz.prog 141 #[.pointer (some ⟨b, 0, none⟩)] w (mU b A n c L w (bZ L pt s)) := by
 obtain ⟨he, hp⟩ := vX hf
 obtain ⟨hd5, hd6, hd7, hd8⟩ := nP hsy s
 rw [hf] at hd5 hd6 hd7 hd8
 simp only [Bool.true_and] at hd5 hd6 hd7 hd8
 have HW := Lib.hid hw
 rw [hn] at hd5 hd6 hd7 hd8
 have HN0 := Lib.hid (show isW L (⟨#[100, 117, 97, 108]⟩ : ByteArray) s = false from hd5)
 have HD := Lib.hid (show isW L (⟨#[109, 97, 106, 111, 114, 105, 116, 121]⟩ : ByteArray) s = true from hd6)
 have hta := vv HD.out
 have HTA := Lib.hid hta
 clear hd5 hd6 hd7 hd8 hta
 rw [rZ hi hw hf (by rw [hn]; decide), hn]
 have hbs := h.lt
 have HH := Lib.hid h
 have HI := Lib.hid hin
 obtain ⟨W0, hW0⟩ : ∃ W0 : World, W0 = w.alloc (.cells #[.int .i64 0, .string ⟨#[]⟩, .int .i64 0, .slice none 0 0, .slice none 0 0] 39) := ⟨_, rfl⟩
 have hb0 : Below w.heap.size w W0 := by rw [hW0]; exact (Below.refl _ _).alloc (Nat.le_refl _) _
 have hs0 : w.heap.size < W0.heap.size := by rw [hW0]; simp
 have hr0 : W0.heap[w.heap.size]? = some (.cells #[.int .i64 0, .string ⟨#[]⟩, .int .i64 0, .slice none 0 0, .slice none 0 0] 39 (0, 0)) := by rw [hW0]; exact heap_alloc_new w _
 have HR0 := Lib.hid hr0
 have h0 := HH.out.below hb0
 have H0 := Lib.hid h0
 obtain ⟨c0, c1, c2, -⟩ := sI h0.blk
 clear hr0
 rw [← HTA.out]
 have q0 : (((s.err : Nat) : Int) == 0) = true := lq he
 obtain ⟨g, o, rfl, hS, hgs, _, k0, k1, k2, k3, k4, i1, i2, i3⟩ := rd_facts h0 hp
 have hlt : decide (s.pos < n) = true := decide_eq_true (by have := h.len; omega)
 obtain ⟨t, ht⟩ : ∃ t, t = L[s.pos]'hp := ⟨_, rfl⟩
 have hki : isInt L s = (t.1.kind == 2) := by rw [ht]; unfold isInt; rw [vo he hp]
 rw [← ht] at k0 k1 k2 k3 k4
 have q2 : ((t.1.kind : Int) == 2) = false := eP (fun e => by rw [hi, e] at hki; exact absurd hki (by simp))
 clear hki ht k1 k2 k3 k4
 clear h h0 hin hi he hp hw hf hn hsy
 go_enter Tryz.func141, Tryz.ntmps141
 go_wp2
 rw [← hW0]
 clear hW0
 go_quiet (fail)
 obtain ⟨W1, hW1⟩ : ∃ W1 : World, W1 = W0.drewN nq := ⟨_, rfl⟩
 have hb1 : Below W0.heap.size W0 W1 := by rw [hW1]; exact below_drewN (Below.refl _ _) _
 have h1 := H0.out.drewN nq
 rw [← hW1] at h1
 rw [← hW1]
 have hs1 := hb1.size
 have hg1 : w.grownBy W1 (some b) := aH (hb0.trans (hb1.mono (by omega)))
 have hR1 := (hb1.block _ hs0).trans HR0.out
 clear hW1 q0 c0 c1 c2 k0 i1 i2 i3 hlt q2
 have ht := aD (⟨#[40]⟩ : ByteArray) W1 h1
 rw [HW.out, aB HW.out] at ht
 go_wp2_with fail
 refine ht.mono ?_
 rintro e W2 ⟨rfl, h2, hx2⟩
 have hg2 := aj hg1 hx2
 have hR2 := ah hx2 hR1 (by omega)
 have hs2 := hx2.size
 clear hR1 hg1 h1 ht
 have ht := aD (⟨#[100, 117, 97, 108]⟩ : ByteArray) W2 h2
 rw [HN0.out, aB HN0.out] at ht
 go_wp2_with fail
 refine ht.mono ?_
 rintro e W3 ⟨rfl, h3, hx3⟩
 have hg3 := aj hg2 hx3
 have hR3 := ah hx3 hR2 (by omega)
 have hs3 := hx3.size
 clear hR2 hg2 h2 ht
 have ht := aD (⟨#[109, 97, 106, 111, 114, 105, 116, 121]⟩ : ByteArray) W3 h3
 rw [HD.out] at ht
 go_wp2_with fail
 refine ht.mono ?_
 rintro e W4 ⟨rfl, h4, hx4⟩
 have hg4 := aj hg3 hx4
 have hR4 := ah hx4 hR3 (by omega)
 have hs4 := hx4.size
 clear hR3 hg3 h3 ht
 go_wp2_with fail
 refine (D8 W4 h4).mono ?_
 rintro e W5 ⟨rfl, h5, hx5⟩
 have hg5 := aj hg4 hx5
 have hR5 := ah hx5 hR4 (by omega)
 have hs5 := hx5.size
 clear hR4 hg4 h4
 obtain ⟨r0, r1, r2, r3, r4, rf⟩ := jF hR5
 have rf0 := rf 0
 have rf1 := rf 1
 have rf2 := rf 2
 have rf3 := rf 3
 have rf4 := rf 4
 have HRW := Lib.hid hR5
 clear rf hR5
 go_wp2
 obtain ⟨hbR, hgR⟩ := BJ HRW.out (.int .i64 6) (.string (mg L (need L (⟨#[40]⟩ : ByteArray) (taken L (⟨#[109, 97, 106, 111, 114, 105, 116, 121]⟩ : ByteArray) s))).1) (.int .i64 0) (.slice none 0 0) (.slice none 0 0)
 refine gL rfl rfl rfl hbR ?_
 exact ⟨_, _, _, _, _, _, _, _, _, rfl, (eG.named _ _ _ _).mono (fun g hg _ => hg), h5.other (below_grown hgR (Nat.le_refl _) (by omega)) hbs, aR hg5 (below_grown hgR (Nat.le_refl _) (by omega)) (Nat.le_refl _)⟩

set_option maxRecDepth 100000 in
set_option maxHeartbeats 4000000 in
theorem Ik {b : Nat} {A : Option Addr} {n c : Nat} {L : aW} (pt : St → Tm × St) (K : St → Prop) (hin : qp b A n c L pt K) (hsy : lg L)
  {s : St} (w : World) (h : RSt b A n c L s w) (_ : Deep L K s) (hi : isInt L s = false) (hw : isW L (⟨#[40]⟩ : ByteArray) s = false) (hf : kD L s = true) (hn : iL (txt L s) = 7) :
  Calls Tryz.prog 141 #[.pointer (some ⟨b, 0, none⟩)] w (mU b A n c L w (bZ L pt s)) := by
 obtain ⟨he, hp⟩ := vX hf
 obtain ⟨hd5, hd6, hd7, hd8⟩ := nP hsy s
 rw [hf] at hd5 hd6 hd7 hd8
 simp only [Bool.true_and] at hd5 hd6 hd7 hd8
 have HW := Lib.hid hw
 rw [hn] at hd5 hd6 hd7 hd8
 have HN0 := Lib.hid (show isW L (⟨#[100, 117, 97, 108]⟩ : ByteArray) s = false from hd5)
 have HN1 := Lib.hid (show isW L (⟨#[109, 97, 106, 111, 114, 105, 116, 121]⟩ : ByteArray) s = false from hd6)
 have HD := Lib.hid (show isW L (⟨#[97, 108, 108]⟩ : ByteArray) s = true from hd7)
 have hta := vv HD.out
 have HTA := Lib.hid hta
 clear hd5 hd6 hd7 hd8 hta
 rw [rZ hi hw hf (by rw [hn]; decide), hn]
 have hbs := h.lt
 have HH := Lib.hid h
 have HI := Lib.hid hin
 obtain ⟨W0, hW0⟩ : ∃ W0 : World, W0 = w.alloc (.cells #[.int .i64 0, .string ⟨#[]⟩, .int .i64 0, .slice none 0 0, .slice none 0 0] 39) := ⟨_, rfl⟩
 have hb0 : Below w.heap.size w W0 := by rw [hW0]; exact (Below.refl _ _).alloc (Nat.le_refl _) _
 have hs0 : w.heap.size < W0.heap.size := by rw [hW0]; simp
 have hr0 : W0.heap[w.heap.size]? = some (.cells #[.int .i64 0, .string ⟨#[]⟩, .int .i64 0, .slice none 0 0, .slice none 0 0] 39 (0, 0)) := by rw [hW0]; exact heap_alloc_new w _
 have HR0 := Lib.hid hr0
 have h0 := HH.out.below hb0
 have H0 := Lib.hid h0
 obtain ⟨c0, c1, c2, -⟩ := sI h0.blk
 clear hr0
 rw [← HTA.out]
 have q0 : (((s.err : Nat) : Int) == 0) = true := lq he
 obtain ⟨g, o, rfl, hS, hgs, _, k0, k1, k2, k3, k4, i1, i2, i3⟩ := rd_facts h0 hp
 have hlt : decide (s.pos < n) = true := decide_eq_true (by have := h.len; omega)
 obtain ⟨t, ht⟩ : ∃ t, t = L[s.pos]'hp := ⟨_, rfl⟩
 have hki : isInt L s = (t.1.kind == 2) := by rw [ht]; unfold isInt; rw [vo he hp]
 rw [← ht] at k0 k1 k2 k3 k4
 have q2 : ((t.1.kind : Int) == 2) = false := eP (fun e => by rw [hi, e] at hki; exact absurd hki (by simp))
 clear hki ht k1 k2 k3 k4
 clear h h0 hin hi he hp hw hf hn hsy
 go_enter Tryz.func141, Tryz.ntmps141
 go_wp2
 rw [← hW0]
 clear hW0
 go_quiet (fail)
 obtain ⟨W1, hW1⟩ : ∃ W1 : World, W1 = W0.drewN nq := ⟨_, rfl⟩
 have hb1 : Below W0.heap.size W0 W1 := by rw [hW1]; exact below_drewN (Below.refl _ _) _
 have h1 := H0.out.drewN nq
 rw [← hW1] at h1
 rw [← hW1]
 have hs1 := hb1.size
 have hg1 : w.grownBy W1 (some b) := aH (hb0.trans (hb1.mono (by omega)))
 have hR1 := (hb1.block _ hs0).trans HR0.out
 clear hW1 q0 c0 c1 c2 k0 i1 i2 i3 hlt q2
 have ht := aD (⟨#[40]⟩ : ByteArray) W1 h1
 rw [HW.out, aB HW.out] at ht
 go_wp2_with fail
 refine ht.mono ?_
 rintro e W2 ⟨rfl, h2, hx2⟩
 have hg2 := aj hg1 hx2
 have hR2 := ah hx2 hR1 (by omega)
 have hs2 := hx2.size
 clear hR1 hg1 h1 ht
 have ht := aD (⟨#[100, 117, 97, 108]⟩ : ByteArray) W2 h2
 rw [HN0.out, aB HN0.out] at ht
 go_wp2_with fail
 refine ht.mono ?_
 rintro e W3 ⟨rfl, h3, hx3⟩
 have hg3 := aj hg2 hx3
 have hR3 := ah hx3 hR2 (by omega)
 have hs3 := hx3.size
 clear hR2 hg2 h2 ht
 have ht := aD (⟨#[109, 97, 106, 111, 114, 105, 116, 121]⟩ : ByteArray) W3 h3
 rw [HN1.out, aB HN1.out] at ht
 go_wp2_with fail
 refine ht.mono ?_
 rintro e W4 ⟨rfl, h4, hx4⟩
 have hg4 := aj hg3 hx4
 have hR4 := ah hx4 hR3 (by omega)
 have hs4 := hx4.size
 clear hR3 hg3 h3 ht
 have ht := aD (⟨#[97, 108, 108]⟩ : ByteArray) W4 h4
 rw [HD.out] at ht
 go_wp2_with fail
 refine ht.mono ?_
 rintro e W5 ⟨rfl, h5, hx5⟩
 have hg5 := aj hg4 hx5
 have hR5 := ah hx5 hR4 (by omega)
 have hs5 := hx5.size
 clear hR4 hg4 h4 ht
 go_wp2_with fail
 refine (D8 W5 h5).mono ?_
 rintro e W6 ⟨rfl, h6, hx6⟩
 have hg6 := aj hg5 hx6
 have hR6 := ah hx6 hR5 (by omega)
 have hs6 := hx6.size
 clear hR5 hg5 h5
 obtain ⟨r0, r1, r2, r3, r4, rf⟩ := jF hR6
 have rf0 := rf 0
 have rf1 := rf 1
 have rf2 := rf 2
 have rf3 := rf 3
 have rf4 := rf 4
 have HRW := Lib.hid hR6
 clear rf hR6
 go_wp2
 obtain ⟨hbR, hgR⟩ := BJ HRW.out (.int .i64 7) (.string (mg L (need L (⟨#[40]⟩ : ByteArray) (taken L (⟨#[97, 108, 108]⟩ : ByteArray) s))).1) (.int .i64 0) (.slice none 0 0) (.slice none 0 0)
 refine gL rfl rfl rfl hbR ?_
 exact ⟨_, _, _, _, _, _, _, _, _, rfl, (eG.named _ _ _ _).mono (fun g hg _ => hg), h6.other (below_grown hgR (Nat.le_refl _) (by omega)) hbs, aR hg6 (below_grown hgR (Nat.le_refl _) (by omega)) (Nat.le_refl _)⟩

set_option maxRecDepth 100000 in
set_option maxHeartbeats 4000000 in
theorem Ij {b : Nat} {A : Option Addr} {n c : Nat} {L : aW} (pt : St → Tm × St) (K : St → Prop) (hin : qp b A n c L pt K) (hsy : lg L)
  {s : St} (w : World) (h : RSt b A n c L s w) (_ : Deep L K s) (hi : isInt L s = false) (hw : isW L (⟨#[40]⟩ : ByteArray) s = false) (hf : kD L s = true) (hn : iL (txt L s) = 8) :
  Calls Tryz.prog 141 #[.pointer (some ⟨b, 0, none⟩)] w (mU b A n c L w (bZ L pt s)) := by
 obtain ⟨he, hp⟩ := vX hf
 obtain ⟨hd5, hd6, hd7, hd8⟩ := nP hsy s
 rw [hf] at hd5 hd6 hd7 hd8
 simp only [Bool.true_and] at hd5 hd6 hd7 hd8
 have HW := Lib.hid hw
 rw [hn] at hd5 hd6 hd7 hd8
 have HN0 := Lib.hid (show isW L (⟨#[100, 117, 97, 108]⟩ : ByteArray) s = false from hd5)
 have HN1 := Lib.hid (show isW L (⟨#[109, 97, 106, 111, 114, 105, 116, 121]⟩ : ByteArray) s = false from hd6)
 have HN2 := Lib.hid (show isW L (⟨#[97, 108, 108]⟩ : ByteArray) s = false from hd7)
 have HD := Lib.hid (show isW L (⟨#[97, 110, 121]⟩ : ByteArray) s = true from hd8)
 have hta := vv HD.out
 have HTA := Lib.hid hta
 clear hd5 hd6 hd7 hd8 hta
 rw [rZ hi hw hf (by rw [hn]; decide), hn]
 have hbs := h.lt
 have HH := Lib.hid h
 have HI := Lib.hid hin
 obtain ⟨W0, hW0⟩ : ∃ W0 : World, W0 = w.alloc (.cells #[.int .i64 0, .string ⟨#[]⟩, .int .i64 0, .slice none 0 0, .slice none 0 0] 39) := ⟨_, rfl⟩
 have hb0 : Below w.heap.size w W0 := by rw [hW0]; exact (Below.refl _ _).alloc (Nat.le_refl _) _
 have hs0 : w.heap.size < W0.heap.size := by rw [hW0]; simp
 have hr0 : W0.heap[w.heap.size]? = some (.cells #[.int .i64 0, .string ⟨#[]⟩, .int .i64 0, .slice none 0 0, .slice none 0 0] 39 (0, 0)) := by rw [hW0]; exact heap_alloc_new w _
 have HR0 := Lib.hid hr0
 have h0 := HH.out.below hb0
 have H0 := Lib.hid h0
 obtain ⟨c0, c1, c2, -⟩ := sI h0.blk
 clear hr0
 rw [← HTA.out]
 have q0 : (((s.err : Nat) : Int) == 0) = true := lq he
 obtain ⟨g, o, rfl, hS, hgs, _, k0, k1, k2, k3, k4, i1, i2, i3⟩ := rd_facts h0 hp
 have hlt : decide (s.pos < n) = true := decide_eq_true (by have := h.len; omega)
 obtain ⟨t, ht⟩ : ∃ t, t = L[s.pos]'hp := ⟨_, rfl⟩
 have hki : isInt L s = (t.1.kind == 2) := by rw [ht]; unfold isInt; rw [vo he hp]
 rw [← ht] at k0 k1 k2 k3 k4
 have q2 : ((t.1.kind : Int) == 2) = false := eP (fun e => by rw [hi, e] at hki; exact absurd hki (by simp))
 clear hki ht k1 k2 k3 k4
 clear h h0 hin hi he hp hw hf hn hsy
 go_enter Tryz.func141, Tryz.ntmps141
 go_wp2
 rw [← hW0]
 clear hW0
 go_quiet (fail)
 obtain ⟨W1, hW1⟩ : ∃ W1 : World, W1 = W0.drewN nq := ⟨_, rfl⟩
 have hb1 : Below W0.heap.size W0 W1 := by rw [hW1]; exact below_drewN (Below.refl _ _) _
 have h1 := H0.out.drewN nq
 rw [← hW1] at h1
 rw [← hW1]
 have hs1 := hb1.size
 have hg1 : w.grownBy W1 (some b) := aH (hb0.trans (hb1.mono (by omega)))
 have hR1 := (hb1.block _ hs0).trans HR0.out
 clear hW1 q0 c0 c1 c2 k0 i1 i2 i3 hlt q2
 have ht := aD (⟨#[40]⟩ : ByteArray) W1 h1
 rw [HW.out, aB HW.out] at ht
 go_wp2_with fail
 refine ht.mono ?_
 rintro e W2 ⟨rfl, h2, hx2⟩
 have hg2 := aj hg1 hx2
 have hR2 := ah hx2 hR1 (by omega)
 have hs2 := hx2.size
 clear hR1 hg1 h1 ht
 have ht := aD (⟨#[100, 117, 97, 108]⟩ : ByteArray) W2 h2
 rw [HN0.out, aB HN0.out] at ht
 go_wp2_with fail
 refine ht.mono ?_
 rintro e W3 ⟨rfl, h3, hx3⟩
 have hg3 := aj hg2 hx3
 have hR3 := ah hx3 hR2 (by omega)
 have hs3 := hx3.size
 clear hR2 hg2 h2 ht
 have ht := aD (⟨#[109, 97, 106, 111, 114, 105, 116, 121]⟩ : ByteArray) W3 h3
 rw [HN1.out, aB HN1.out] at ht
 go_wp2_with fail
 refine ht.mono ?_
 rintro e W4 ⟨rfl, h4, hx4⟩
 have hg4 := aj hg3 hx4
 have hR4 := ah hx4 hR3 (by omega)
 have hs4 := hx4.size
 clear hR3 hg3 h3 ht
 have ht := aD (⟨#[97, 108, 108]⟩ : ByteArray) W4 h4
 rw [HN2.out, aB HN2.out] at ht
 go_wp2_with fail
 refine ht.mono ?_
 rintro e W5 ⟨rfl, h5, hx5⟩
 have hg5 := aj hg4 hx5
 have hR5 := ah hx5 hR4 (by omega)
 have hs5 := hx5.size
 clear hR4 hg4 h4 ht
 have ht := aD (⟨#[97, 110, 121]⟩ : ByteArray) W5 h5
 rw [HD.out] at ht
 go_wp2_with fail
 refine ht.mono ?_
 rintro e W6 ⟨rfl, h6, hx6⟩
 have hg6 := aj hg5 hx6
 have hR6 := ah hx6 hR5 (by omega)
 have hs6 := hx6.size
 clear hR5 hg5 h5 ht
 go_wp2_with fail
 refine (D8 W6 h6).mono ?_
 rintro e W7 ⟨rfl, h7, hx7⟩
 have hg7 := aj hg6 hx7
 have hR7 := ah hx7 hR6 (by omega)
 have hs7 := hx7.size
 clear hR6 hg6 h6
 obtain ⟨r0, r1, r2, r3, r4, rf⟩ := jF hR7
 have rf0 := rf 0
 have rf1 := rf 1
 have rf2 := rf 2
 have rf3 := rf 3
 have rf4 := rf 4
 have HRW := Lib.hid hR7
 clear rf hR7
 go_wp2
 obtain ⟨hbR, hgR⟩ := BJ HRW.out (.int .i64 8) (.string (mg L (need L (⟨#[40]⟩ : ByteArray) (taken L (⟨#[97, 110, 121]⟩ : ByteArray) s))).1) (.int .i64 0) (.slice none 0 0) (.slice none 0 0)
 refine gL rfl rfl rfl hbR ?_
 exact ⟨_, _, _, _, _, _, _, _, _, rfl, (eG.named _ _ _ _).mono (fun g hg _ => hg), h7.other (below_grown hgR (Nat.le_refl _) (by omega)) hbs, aR hg7 (below_grown hgR (Nat.le_refl _) (by omega)) (Nat.le_refl _)⟩

set_option maxRecDepth 100000 in
set_option maxHeartbeats 4000000 in
theorem Be {b : Nat} {A : Option Addr} {n c : Nat} {L : aW} (pt : St → Tm × St) (K : St → Prop) (hin : qp b A n c L pt K) (hsy : lg L)
  {s : St} (w : World) (h : RSt b A n c L s w) (_ : Deep L K s) (hi : isInt L s = false) (hw : isW L (⟨#[40]⟩ : ByteArray) s = false) (hf : kD L s = false) (he : s.err = 0) (hp : s.pos < L.length) :
  Calls Tryz.prog 141 #[.pointer (some ⟨b, 0, none⟩)] w (mU b A n c L w (bZ L pt s)) := by
 obtain ⟨hd5, hd6, hd7, hd8⟩ := nP hsy s
 rw [hf] at hd5 hd6 hd7 hd8
 simp only [Bool.false_and] at hd5 hd6 hd7 hd8
 have HW := Lib.hid hw
 have HN0 := Lib.hid hd5
 have HN1 := Lib.hid hd6
 have HN2 := Lib.hid hd7
 have HN3 := Lib.hid hd8
 clear hd5 hd6 hd7 hd8
 rw [uN hi hw hf]
 have hbs := h.lt
 have HH := Lib.hid h
 have HI := Lib.hid hin
 obtain ⟨W0, hW0⟩ : ∃ W0 : World, W0 = w.alloc (.cells #[.int .i64 0, .string ⟨#[]⟩, .int .i64 0, .slice none 0 0, .slice none 0 0] 39) := ⟨_, rfl⟩
 have hb0 : Below w.heap.size w W0 := by rw [hW0]; exact (Below.refl _ _).alloc (Nat.le_refl _) _
 have hs0 : w.heap.size < W0.heap.size := by rw [hW0]; simp
 have hr0 : W0.heap[w.heap.size]? = some (.cells #[.int .i64 0, .string ⟨#[]⟩, .int .i64 0, .slice none 0 0, .slice none 0 0] 39 (0, 0)) := by rw [hW0]; exact heap_alloc_new w _
 have HR0 := Lib.hid hr0
 have h0 := HH.out.below hb0
 have H0 := Lib.hid h0
 obtain ⟨c0, c1, c2, -⟩ := sI h0.blk
 clear hr0
 have q0 : (((s.err : Nat) : Int) == 0) = true := lq he
 obtain ⟨g, o, rfl, hS, hgs, _, k0, k1, k2, k3, k4, i1, i2, i3⟩ := rd_facts h0 hp
 have hlt : decide (s.pos < n) = true := decide_eq_true (by have := h.len; omega)
 obtain ⟨t, ht⟩ : ∃ t, t = L[s.pos]'hp := ⟨_, rfl⟩
 have hki : isInt L s = (t.1.kind == 2) := by rw [ht]; unfold isInt; rw [vo he hp]
 rw [← ht] at k0 k1 k2 k3 k4
 have q2 : ((t.1.kind : Int) == 2) = false := eP (fun e => by rw [hi, e] at hki; exact absurd hki (by simp))
 clear hki ht k1 k2 k3 k4
 clear h h0 hin hi he hp hw hf hsy
 go_enter Tryz.func141, Tryz.ntmps141
 go_wp2
 rw [← hW0]
 clear hW0
 go_quiet (fail)
 obtain ⟨W1, hW1⟩ : ∃ W1 : World, W1 = W0.drewN nq := ⟨_, rfl⟩
 have hb1 : Below W0.heap.size W0 W1 := by rw [hW1]; exact below_drewN (Below.refl _ _) _
 have h1 := H0.out.drewN nq
 rw [← hW1] at h1
 rw [← hW1]
 have hs1 := hb1.size
 have hg1 : w.grownBy W1 (some b) := aH (hb0.trans (hb1.mono (by omega)))
 have hR1 := (hb1.block _ hs0).trans HR0.out
 clear hW1 q0 c0 c1 c2 k0 i1 i2 i3 hlt q2
 have ht := aD (⟨#[40]⟩ : ByteArray) W1 h1
 rw [HW.out, aB HW.out] at ht
 go_wp2_with fail
 refine ht.mono ?_
 rintro e W2 ⟨rfl, h2, hx2⟩
 have hg2 := aj hg1 hx2
 have hR2 := ah hx2 hR1 (by omega)
 have hs2 := hx2.size
 clear hR1 hg1 h1 ht
 have ht := aD (⟨#[100, 117, 97, 108]⟩ : ByteArray) W2 h2
 rw [HN0.out, aB HN0.out] at ht
 go_wp2_with fail
 refine ht.mono ?_
 rintro e W3 ⟨rfl, h3, hx3⟩
 have hg3 := aj hg2 hx3
 have hR3 := ah hx3 hR2 (by omega)
 have hs3 := hx3.size
 clear hR2 hg2 h2 ht
 have ht := aD (⟨#[109, 97, 106, 111, 114, 105, 116, 121]⟩ : ByteArray) W3 h3
 rw [HN1.out, aB HN1.out] at ht
 go_wp2_with fail
 refine ht.mono ?_
 rintro e W4 ⟨rfl, h4, hx4⟩
 have hg4 := aj hg3 hx4
 have hR4 := ah hx4 hR3 (by omega)
 have hs4 := hx4.size
 clear hR3 hg3 h3 ht
 have ht := aD (⟨#[97, 108, 108]⟩ : ByteArray) W4 h4
 rw [HN2.out, aB HN2.out] at ht
 go_wp2_with fail
 refine ht.mono ?_
 rintro e W5 ⟨rfl, h5, hx5⟩
 have hg5 := aj hg4 hx5
 have hR5 := ah hx5 hR4 (by omega)
 have hs5 := hx5.size
 clear hR4 hg4 h4 ht
 have ht := aD (⟨#[97, 110, 121]⟩ : ByteArray) W5 h5
 rw [HN3.out, aB HN3.out] at ht
 go_wp2_with fail
 refine ht.mono ?_
 rintro e W6 ⟨rfl, h6, hx6⟩
 have hg6 := aj hg5 hx6
 have hR6 := ah hx6 hR5 (by omega)
 have hs6 := hx6.size
 clear hR5 hg5 h5 ht
 go_wp2_with fail
 refine (ja W6 h6).mono ?_
 rintro e W7 ⟨rfl, h7, hx7⟩
 have hg7 := aj hg6 hx7
 have hR7 := ah hx7 hR6 (by omega)
 have hs7 := hx7.size
 clear hR6 hg6 h6
 obtain ⟨r0, r1, r2, r3, r4, rf⟩ := jF hR7
 have rf0 := rf 0
 have rf1 := rf 1
 have rf2 := rf 2
 have rf3 := rf 3
 have rf4 := rf 4
 have HRW := Lib.hid hR7
 clear rf hR7
 go_wp2
 obtain ⟨hbR, hgR⟩ := BJ HRW.out (.int .i64 1) (.string (bD L s).1) (.int .i64 0) (.slice none 0 0) (.slice none 0 0)
 refine gL rfl rfl rfl hbR ?_
 exact ⟨_, _, _, _, _, _, _, _, _, rfl, (eG.named _ _ _ _).mono (fun g hg _ => hg), h7.other (below_grown hgR (Nat.le_refl _) (by omega)) hbs, aR hg7 (below_grown hgR (Nat.le_refl _) (by omega)) (Nat.le_refl _)⟩

set_option maxRecDepth 100000 in
set_option maxHeartbeats 4000000 in
theorem Bd {b : Nat} {A : Option Addr} {n c : Nat} {L : aW} (pt : St → Tm × St) (K : St → Prop) (hin : qp b A n c L pt K) (hsy : lg L)
  {s : St} (w : World) (h : RSt b A n c L s w) (_ : Deep L K s) (hi : isInt L s = false) (hw : isW L (⟨#[40]⟩ : ByteArray) s = false) (hf : kD L s = false) (he : s.err = 0) (hp : ¬ s.pos < L.length) :
  Calls Tryz.prog 141 #[.pointer (some ⟨b, 0, none⟩)] w (mU b A n c L w (bZ L pt s)) := by
 obtain ⟨hd5, hd6, hd7, hd8⟩ := nP hsy s
 rw [hf] at hd5 hd6 hd7 hd8
 simp only [Bool.false_and] at hd5 hd6 hd7 hd8
 have HW := Lib.hid hw
 have HN0 := Lib.hid hd5
 have HN1 := Lib.hid hd6
 have HN2 := Lib.hid hd7
 have HN3 := Lib.hid hd8
 clear hd5 hd6 hd7 hd8
 rw [uN hi hw hf]
 have hbs := h.lt
 have HH := Lib.hid h
 have HI := Lib.hid hin
 obtain ⟨W0, hW0⟩ : ∃ W0 : World, W0 = w.alloc (.cells #[.int .i64 0, .string ⟨#[]⟩, .int .i64 0, .slice none 0 0, .slice none 0 0] 39) := ⟨_, rfl⟩
 have hb0 : Below w.heap.size w W0 := by rw [hW0]; exact (Below.refl _ _).alloc (Nat.le_refl _) _
 have hs0 : w.heap.size < W0.heap.size := by rw [hW0]; simp
 have hr0 : W0.heap[w.heap.size]? = some (.cells #[.int .i64 0, .string ⟨#[]⟩, .int .i64 0, .slice none 0 0, .slice none 0 0] 39 (0, 0)) := by rw [hW0]; exact heap_alloc_new w _
 have HR0 := Lib.hid hr0
 have h0 := HH.out.below hb0
 have H0 := Lib.hid h0
 obtain ⟨c0, c1, c2, -⟩ := sI h0.blk
 clear hr0
 have q0 : (((s.err : Nat) : Int) == 0) = true := lq he
 have hlt := rd_less h.len hp
 clear h h0 hin hi he hp hw hf hsy
 go_enter Tryz.func141, Tryz.ntmps141
 go_wp2
 rw [← hW0]
 clear hW0
 go_quiet (fail)
 obtain ⟨W1, hW1⟩ : ∃ W1 : World, W1 = W0.drewN nq := ⟨_, rfl⟩
 have hb1 : Below W0.heap.size W0 W1 := by rw [hW1]; exact below_drewN (Below.refl _ _) _
 have h1 := H0.out.drewN nq
 rw [← hW1] at h1
 rw [← hW1]
 have hs1 := hb1.size
 have hg1 : w.grownBy W1 (some b) := aH (hb0.trans (hb1.mono (by omega)))
 have hR1 := (hb1.block _ hs0).trans HR0.out
 clear hW1 q0 c0 c1 c2 hlt
 have ht := aD (⟨#[40]⟩ : ByteArray) W1 h1
 rw [HW.out, aB HW.out] at ht
 go_wp2_with fail
 refine ht.mono ?_
 rintro e W2 ⟨rfl, h2, hx2⟩
 have hg2 := aj hg1 hx2
 have hR2 := ah hx2 hR1 (by omega)
 have hs2 := hx2.size
 clear hR1 hg1 h1 ht
 have ht := aD (⟨#[100, 117, 97, 108]⟩ : ByteArray) W2 h2
 rw [HN0.out, aB HN0.out] at ht
 go_wp2_with fail
 refine ht.mono ?_
 rintro e W3 ⟨rfl, h3, hx3⟩
 have hg3 := aj hg2 hx3
 have hR3 := ah hx3 hR2 (by omega)
 have hs3 := hx3.size
 clear hR2 hg2 h2 ht
 have ht := aD (⟨#[109, 97, 106, 111, 114, 105, 116, 121]⟩ : ByteArray) W3 h3
 rw [HN1.out, aB HN1.out] at ht
 go_wp2_with fail
 refine ht.mono ?_
 rintro e W4 ⟨rfl, h4, hx4⟩
 have hg4 := aj hg3 hx4
 have hR4 := ah hx4 hR3 (by omega)
 have hs4 := hx4.size
 clear hR3 hg3 h3 ht
 have ht := aD (⟨#[97, 108, 108]⟩ : ByteArray) W4 h4
 rw [HN2.out, aB HN2.out] at ht
 go_wp2_with fail
 refine ht.mono ?_
 rintro e W5 ⟨rfl, h5, hx5⟩
 have hg5 := aj hg4 hx5
 have hR5 := ah hx5 hR4 (by omega)
 have hs5 := hx5.size
 clear hR4 hg4 h4 ht
 have ht := aD (⟨#[97, 110, 121]⟩ : ByteArray) W5 h5
 rw [HN3.out, aB HN3.out] at ht
 go_wp2_with fail
 refine ht.mono ?_
 rintro e W6 ⟨rfl, h6, hx6⟩
 have hg6 := aj hg5 hx6
 have hR6 := ah hx6 hR5 (by omega)
 have hs6 := hx6.size
 clear hR5 hg5 h5 ht
 go_wp2_with fail
 refine (ja W6 h6).mono ?_
 rintro e W7 ⟨rfl, h7, hx7⟩
 have hg7 := aj hg6 hx7
 have hR7 := ah hx7 hR6 (by omega)
 have hs7 := hx7.size
 clear hR6 hg6 h6
 obtain ⟨r0, r1, r2, r3, r4, rf⟩ := jF hR7
 have rf0 := rf 0
 have rf1 := rf 1
 have rf2 := rf 2
 have rf3 := rf 3
 have rf4 := rf 4
 have HRW := Lib.hid hR7
 clear rf hR7
 go_wp2
 obtain ⟨hbR, hgR⟩ := BJ HRW.out (.int .i64 1) (.string (bD L s).1) (.int .i64 0) (.slice none 0 0) (.slice none 0 0)
 refine gL rfl rfl rfl hbR ?_
 exact ⟨_, _, _, _, _, _, _, _, _, rfl, (eG.named _ _ _ _).mono (fun g hg _ => hg), h7.other (below_grown hgR (Nat.le_refl _) (by omega)) hbs, aR hg7 (below_grown hgR (Nat.le_refl _) (by omega)) (Nat.le_refl _)⟩

set_option maxRecDepth 100000 in
set_option maxHeartbeats 4000000 in
theorem Bc {b : Nat} {A : Option Addr} {n c : Nat} {L : aW} (pt : St → Tm × St) (K : St → Prop) (hin : qp b A n c L pt K) (hsy : lg L)
  {s : St} (w : World) (h : RSt b A n c L s w) (_ : Deep L K s) (hi : isInt L s = false) (hw : isW L (⟨#[40]⟩ : ByteArray) s = false) (hf : kD L s = false) (he : s.err ≠ 0) :
  Calls Tryz.prog 141 #[.pointer (some ⟨b, 0, none⟩)] w (mU b A n c L w (bZ L pt s)) := by
 obtain ⟨hd5, hd6, hd7, hd8⟩ := nP hsy s
 rw [hf] at hd5 hd6 hd7 hd8
 simp only [Bool.false_and] at hd5 hd6 hd7 hd8
 have HW := Lib.hid hw
 have HN0 := Lib.hid hd5
 have HN1 := Lib.hid hd6
 have HN2 := Lib.hid hd7
 have HN3 := Lib.hid hd8
 clear hd5 hd6 hd7 hd8
 rw [uN hi hw hf]
 have hbs := h.lt
 have HH := Lib.hid h
 have HI := Lib.hid hin
 obtain ⟨W0, hW0⟩ : ∃ W0 : World, W0 = w.alloc (.cells #[.int .i64 0, .string ⟨#[]⟩, .int .i64 0, .slice none 0 0, .slice none 0 0] 39) := ⟨_, rfl⟩
 have hb0 : Below w.heap.size w W0 := by rw [hW0]; exact (Below.refl _ _).alloc (Nat.le_refl _) _
 have hs0 : w.heap.size < W0.heap.size := by rw [hW0]; simp
 have hr0 : W0.heap[w.heap.size]? = some (.cells #[.int .i64 0, .string ⟨#[]⟩, .int .i64 0, .slice none 0 0, .slice none 0 0] 39 (0, 0)) := by rw [hW0]; exact heap_alloc_new w _
 have HR0 := Lib.hid hr0
 have h0 := HH.out.below hb0
 have H0 := Lib.hid h0
 obtain ⟨c0, c1, c2, -⟩ := sI h0.blk
 clear hr0
 have q0 : (((s.err : Nat) : Int) == 0) = false := eP he
 clear h h0 hin hi he hw hf hsy
 go_enter Tryz.func141, Tryz.ntmps141
 go_wp2
 rw [← hW0]
 clear hW0
 go_quiet (fail)
 obtain ⟨W1, hW1⟩ : ∃ W1 : World, W1 = W0.drewN nq := ⟨_, rfl⟩
 have hb1 : Below W0.heap.size W0 W1 := by rw [hW1]; exact below_drewN (Below.refl _ _) _
 have h1 := H0.out.drewN nq
 rw [← hW1] at h1
 rw [← hW1]
 have hs1 := hb1.size
 have hg1 : w.grownBy W1 (some b) := aH (hb0.trans (hb1.mono (by omega)))
 have hR1 := (hb1.block _ hs0).trans HR0.out
 clear hW1 q0 c0 c1 c2
 have ht := aD (⟨#[40]⟩ : ByteArray) W1 h1
 rw [HW.out, aB HW.out] at ht
 go_wp2_with fail
 refine ht.mono ?_
 rintro e W2 ⟨rfl, h2, hx2⟩
 have hg2 := aj hg1 hx2
 have hR2 := ah hx2 hR1 (by omega)
 have hs2 := hx2.size
 clear hR1 hg1 h1 ht
 have ht := aD (⟨#[100, 117, 97, 108]⟩ : ByteArray) W2 h2
 rw [HN0.out, aB HN0.out] at ht
 go_wp2_with fail
 refine ht.mono ?_
 rintro e W3 ⟨rfl, h3, hx3⟩
 have hg3 := aj hg2 hx3
 have hR3 := ah hx3 hR2 (by omega)
 have hs3 := hx3.size
 clear hR2 hg2 h2 ht
 have ht := aD (⟨#[109, 97, 106, 111, 114, 105, 116, 121]⟩ : ByteArray) W3 h3
 rw [HN1.out, aB HN1.out] at ht
 go_wp2_with fail
 refine ht.mono ?_
 rintro e W4 ⟨rfl, h4, hx4⟩
 have hg4 := aj hg3 hx4
 have hR4 := ah hx4 hR3 (by omega)
 have hs4 := hx4.size
 clear hR3 hg3 h3 ht
 have ht := aD (⟨#[97, 108, 108]⟩ : ByteArray) W4 h4
 rw [HN2.out, aB HN2.out] at ht
 go_wp2_with fail
 refine ht.mono ?_
 rintro e W5 ⟨rfl, h5, hx5⟩
 have hg5 := aj hg4 hx5
 have hR5 := ah hx5 hR4 (by omega)
 have hs5 := hx5.size
 clear hR4 hg4 h4 ht
 have ht := aD (⟨#[97, 110, 121]⟩ : ByteArray) W5 h5
 rw [HN3.out, aB HN3.out] at ht
 go_wp2_with fail
 refine ht.mono ?_
 rintro e W6 ⟨rfl, h6, hx6⟩
 have hg6 := aj hg5 hx6
 have hR6 := ah hx6 hR5 (by omega)
 have hs6 := hx6.size
 clear hR5 hg5 h5 ht
 go_wp2_with fail
 refine (ja W6 h6).mono ?_
 rintro e W7 ⟨rfl, h7, hx7⟩
 have hg7 := aj hg6 hx7
 have hR7 := ah hx7 hR6 (by omega)
 have hs7 := hx7.size
 clear hR6 hg6 h6
 obtain ⟨r0, r1, r2, r3, r4, rf⟩ := jF hR7
 have rf0 := rf 0
 have rf1 := rf 1
 have rf2 := rf 2
 have rf3 := rf 3
 have rf4 := rf 4
 have HRW := Lib.hid hR7
 clear rf hR7
 go_wp2
 obtain ⟨hbR, hgR⟩ := BJ HRW.out (.int .i64 1) (.string (bD L s).1) (.int .i64 0) (.slice none 0 0) (.slice none 0 0)
 refine gL rfl rfl rfl hbR ?_
 exact ⟨_, _, _, _, _, _, _, _, _, rfl, (eG.named _ _ _ _).mono (fun g hg _ => hg), h7.other (below_grown hgR (Nat.le_refl _) (by omega)) hbs, aR hg7 (below_grown hgR (Nat.le_refl _) (by omega)) (Nat.le_refl _)⟩

theorem factor_rd {b : Nat} {A : Option Addr} {n c : Nat} {L : aW} (pt : St → Tm × St) (K : St → Prop) (hin : qp b A n c L pt K) (hsy : lg L)
  {s : St} (w : World) (h : RSt b A n c L s w) (hs : Deep L K s) :
  Calls Tryz.prog 141 #[.pointer (some ⟨b, 0, none⟩)] w (mU b A n c L w (bZ L pt s)) := by
 cases hi : isInt L s
 ·cases hw : isW L (⟨#[40]⟩ : ByteArray) s
  ·cases hf : kD L s
   ·by_cases he : s.err = 0
    ·by_cases hp : s.pos < L.length
     ·exact Be pt K hin hsy w h hs hi hw hf he hp
     ·exact Bd pt K hin hsy w h hs hi hw hf he hp
    ·exact Bc pt K hin hsy w h hs hi hw hf he
   ·rcases fun_four hf with h5 | h5 | h5 | h5
    ·exact Fv pt K hin hsy w h hs hi hw hf h5
    ·exact Ih pt K hin hsy w h hs hi hw hf h5
    ·exact Ik pt K hin hsy w h hs hi hw hf h5
    ·exact Ij pt K hin hsy w h hs hi hw hf h5
  ·exact Dn pt K hin hsy w h hs hi hw
 ·exact Ii pt K hin hsy w h hs hi
end Go.Proofs.YtbmglebipepdmaaGreatDoor
namespace Go.Proofs.YtbmglebipepdmaaGreatDoor
open Go.RowKit

set_option maxRecDepth 100000 in
set_option maxHeartbeats 4000000 in
theorem conj_rd {b : Nat} {A : Option Addr} {n c : Nat} {L : aW} (pt : St → Tm × St) (K : St → Prop) (hin : qp b A n c L pt K) (hsy : lg L)
  {s : St} (w : World) (h : RSt b A n c L s w) (hs : Deep L K s) :
  Calls Tryz.prog 112 #[.pointer (some ⟨b, 0, none⟩)] w (mU b A n c L w (qY L pt s)) := by
 have hbs := h.lt
 have oo := h.few
 have HH := Lib.hid h
 have HP := Lib.hid (fun (w : World) (s : St) (h : RSt b A n c L s w) (hs : Deep L K s) => factor_rd pt K hin hsy w h hs)
 have HK := Lib.hid (fun (s t : St) (h : Deep L K s) (ha : Ahead L s t) => h.ahead ha)
 have HS := Lib.hid hs
 have hgood := uL hin.good
 clear h hs hin hsy
 go_enter Tryz.func112, Tryz.ntmps112
 go_wp2_with fail
 obtain ⟨W0, hW0⟩ : ∃ W0 : World, W0 = w.alloc (.cells #[.int .i64 0, .string ⟨#[]⟩, .int .i64 0, .slice none 0 0, .slice none 0 0] 39) := ⟨_, rfl⟩
 have hb0 : Below w.heap.size w W0 := by rw [hW0]; exact (Below.refl _ _).alloc (Nat.le_refl _) _
 have hs0 : W0.heap.size = w.heap.size + 1 := by rw [hW0]; simp
 have hr0 : W0.heap[w.heap.size]? = some (.cells #[.int .i64 0, .string ⟨#[]⟩, .int .i64 0, .slice none 0 0, .slice none 0 0] 39 (0, 0)) := by rw [hW0]; exact heap_alloc_new w _
 rw [← hW0]
 have HS0 := Lib.hid hs0
 have HR0 := Lib.hid hr0
 have hlt0 : w.heap.size < W0.heap.size := by omega
 clear hW0 hs0 hr0
 refine (HP.out W0 s (HH.out.below hb0) HS.out).mono ?_
 rintro e W1 ⟨op1, nm1, nd1, wA1, wn1, wc1, kA1, kn1, kc1, rfl, ht1, h1, hg1⟩
 have hs1 := hg1.size
 go_wp2
 go_loopg [3] L.length (fun f v wr => ∃ acc s', Hid (jP L (⟨#[38]⟩ : ByteArray) (bZ L pt) f acc s' = jP L (⟨#[38]⟩ : ByteArray) (bZ L pt) L.length [((bZ L pt) s).1] ((bZ L pt) s).2) ∧ L.length ≤ f + s'.pos ∧ acc.length + f ≤ L.length + 1 ∧ 0 < acc.length ∧ Hid (Deep L K s') ∧ RSt b A n c L s' wr ∧ W0.grownBy wr (some b) ∧ fE eG wr (W0.heap.size ≤ ·) W0.heap.size 39 5 v acc)
 case atStart =>
  refine ⟨[((bZ L pt) s).1], ((bZ L pt) s).2, rfl, by omega, by simp; omega, by simp, HK.out s _ HS.out (hgood s HH.out.pos), h1.below ((Below.refl _ _).alloc (Nat.le_refl _) _), uJ hg1 _, ?_⟩
  exact fE.one W1 dM rfl rfl hs1 ht1
 case round =>
  obtain ⟨acc, s', hgo, hfu, hal, hac, hks, hPs, hgr, hrow⟩ := hrel
  have hsr := hgr.size
  cases his : isW L (⟨#[38]⟩ : ByteArray) s'
  ·have ht := aD (⟨#[38]⟩ : ByteArray) wr hPs
   rw [his, aB his] at ht
   have HT := Lib.hid ht
   rw [Ab his] at hgo
   clear ht his hPs
   obtain ⟨Av, cv, rfl, hcv, hlist⟩ := hrow.list dM
   go_wp2_with fail
   refine HT.out.mono ?_
   rintro e W2 ⟨rfl, h2, hg2⟩
   have Ki := aj hgr hg2
   have hs2 := Ki.size
   have hl2 : aT (eG W2 (W0.heap.size ≤ ·)) W2 (W0.heap.size ≤ ·) 5 Av acc := hlist.keep ((ax hg2).mono fun g hg => by omega) (fun _ _ h => h.keep ((ax hg2).mono fun g hg => by omega))
   have hr2 := ah Ki HR0.out (Nat.ne_of_gt hbs)
   have HR2 := Lib.hid hr2
   obtain ⟨c0, c1, c2, c3, c4, cf⟩ := jF hr2
   have f0 := cf 0
   have f1 := cf 1
   have f2 := cf 2
   have f3 := cf 3
   have f4 := cf 4
   clear hr2 cf hlist hrow HT
   by_cases hone : acc.length = 1
   ·obtain ⟨g, o, op2, nm2, nd2, wA2, wn2, wc2, kA2, kn2, kc2, rfl, hS2, htm, k0, k1, k2, k3, k4⟩ := zY (fun t v h => ⟨_, h⟩) hl2 0 (by omega)
    have q1 : ((acc.length : Int) == 1) = true := lq hone
    have hgR : g ≠ w.heap.size := by omega
    obtain ⟨t0, rfl⟩ : ∃ t0, acc = [t0] := List.length_eq_one_iff.1 hone
    clear hone
    simp only [Nat.zero_mul, Nat.add_zero] at k0 k1 k2 k3 k4
    go_wp2
    obtain ⟨hb5, hg5⟩ := BJ HR2.out (.int .i64 op2) (.string nm2) (.int .i64 nd2) (.slice wA2 wn2 wc2) (.slice kA2 kn2 kc2)
    refine gL rfl rfl rfl hb5 ?_
    have e : qY L pt s = (t0, s') := by unfold qY xq; rw [← hgo.out]; rfl
    rw [e]
    refine ⟨_, _, _, _, _, _, _, _, _, rfl, (htm.keep ((ax hg5).mono fun g hg => by omega)).mono (fun g hg _ => by omega), h2.other (below_grown hg5 (Nat.le_refl _) (by omega)) hbs, ?_⟩
    exact aR (aj (aH hb0) Ki) (below_grown hg5 (Nat.le_refl _) (by omega)) (Nat.le_refl _)
   ·have q1 : ((acc.length : Int) == 1) = false := eP hone
    go_wp2
    obtain ⟨hb5, hg5⟩ := BJ HR2.out (.int .i64 3) (.string (bs [])) (.int .i64 0) (.slice none 0 0) (.slice Av acc.length cv)
    refine gL rfl rfl rfl hb5 ?_
    have e : qY L pt s = (.mk 3 (bs []) 0 [] acc, s') := by
     unfold qY xq; rw [← hgo.out, Aa hone]
    rw [e]
    refine ⟨_, _, _, _, _, _, _, _, _, rfl, ((tm_list hl2 hcv).keep ((ax hg5).mono fun g hg => by omega)).mono (fun g hg _ => by omega), h2.other (below_grown hg5 (Nat.le_refl _) (by omega)) hbs, ?_⟩
    exact aR (aj (aH hb0) Ki) (below_grown hg5 (Nat.le_refl _) (by omega)) (Nat.le_refl _)
  ·have ht := aD (⟨#[38]⟩ : ByteArray) wr hPs
   have hpos := qD his
   have hlt := (dW his).2
   have hk2 := HK.out s' (taken L (⟨#[38]⟩ : ByteArray) s') hks.out (by unfold taken; rw [if_pos his]; exact bW (dW his))
   rw [his] at ht
   have HT := Lib.hid ht
   have HI := Lib.hid his
   have HPo := Lib.hid hpos
   have HK2 := Lib.hid hk2
   clear ht his hPs hpos hk2
   obtain ⟨f, rfl⟩ : ∃ f, gk = f + 1 := ⟨gk - 1, by omega⟩
   go_wp2_with fail
   refine HT.out.mono ?_
   rintro e W2 ⟨rfl, h2, hg2⟩
   go_wp2_with fail
   refine (HP.out W2 _ h2 HK2.out).mono ?_
   rintro e W3 ⟨op3, nm3, nd3, wA3, wn3, wc3, kA3, kn3, kc3, rfl, ht3, h3, hg3⟩
   have hgr3 := aj (aj hgr hg2) hg3
   have hrow3 := (hrow.grown dM hg2 (by omega) (fun g hg => by omega)).grown dM hg3 (by omega) (fun g hg => by omega)
   have hs2 := hg2.size
   have hs3 := hgr3.size
   obtain ⟨vs3, l3, hown3, LX⟩ := id hrow3
   go_wp2_with (at_builtin; refine zF W3 rfl (.tmp 9) (.tmp 12) rfl W0.heap.size _ _ _ hown3 rfl op3 nm3 nd3 wA3 wn3 wc3 kA3 kn3 kc3 rfl (by omega) hs3 ?_; intro v' W4 ic hg4 hv4)
   have hb4 := aM hown3 hg4 hs3
   go_roundg f
   case measure => omega
   case rel =>
    have ha := (hgood _ h2.pos).le
    rw [HPo.out] at ha
    have qZ : eG W3 (fun g => W0.heap.size ≤ g ∧ some g ≠ (Value.ownBlock _)) ((bZ L pt) (taken L (⟨#[38]⟩ : ByteArray) s')).1 _ := ht3.mono (fun g hg _ => ⟨by omega, fun e => by
     obtain ⟨vs0, _, hown0, _⟩ := hrow
     have := (hown0.lt g e.symm).2
     omega⟩)
    have hk4 := HK.out _ _ HK2.out (hgood _ h2.pos)
    refine ⟨acc ++ [((bZ L pt) (taken L (⟨#[38]⟩ : ByteArray) s')).1], _, ?_, ?_, ?_, ?_, hk4, h3.other hb4 (by omega), aR hgr3 hb4 (Nat.le_refl _), fE.push l3 LX dM rfl qZ ic hg4 hv4⟩
    ·rw [Ac HI.out] at hgo; exact hgo
    ·omega
    ·rw [List.length_append]; simp; omega
    ·simp
set_option maxRecDepth 100000 in
set_option maxHeartbeats 4000000 in
theorem or_rd {b : Nat} {A : Option Addr} {n c : Nat} {L : aW} (pt : St → Tm × St) (K : St → Prop) (hin : qp b A n c L pt K) (hsy : lg L)
  {s : St} (w : World) (h : RSt b A n c L s w) (hs : Deep L K s) :
  Calls Tryz.prog 84 #[.pointer (some ⟨b, 0, none⟩)] w (mU b A n c L w (pOr L pt s)) := by
 have hbs := h.lt
 have oo := h.few
 have HH := Lib.hid h
 have HP := Lib.hid (fun (w : World) (s : St) (h : RSt b A n c L s w) (hs : Deep L K s) => conj_rd pt K hin hsy w h hs)
 have HK := Lib.hid (fun (s t : St) (h : Deep L K s) (ha : Ahead L s t) => h.ahead ha)
 have HS := Lib.hid hs
 have hgood := Ap (uL hin.good) 3 (⟨#[38]⟩ : ByteArray)
 clear h hs hin hsy
 go_enter Tryz.func84, Tryz.ntmps84
 go_wp2_with fail
 obtain ⟨W0, hW0⟩ : ∃ W0 : World, W0 = w.alloc (.cells #[.int .i64 0, .string ⟨#[]⟩, .int .i64 0, .slice none 0 0, .slice none 0 0] 39) := ⟨_, rfl⟩
 have hb0 : Below w.heap.size w W0 := by rw [hW0]; exact (Below.refl _ _).alloc (Nat.le_refl _) _
 have hs0 : W0.heap.size = w.heap.size + 1 := by rw [hW0]; simp
 have hr0 : W0.heap[w.heap.size]? = some (.cells #[.int .i64 0, .string ⟨#[]⟩, .int .i64 0, .slice none 0 0, .slice none 0 0] 39 (0, 0)) := by rw [hW0]; exact heap_alloc_new w _
 rw [← hW0]
 have HS0 := Lib.hid hs0
 have HR0 := Lib.hid hr0
 have hlt0 : w.heap.size < W0.heap.size := by omega
 clear hW0 hs0 hr0
 refine (HP.out W0 s (HH.out.below hb0) HS.out).mono ?_
 rintro e W1 ⟨op1, nm1, nd1, wA1, wn1, wc1, kA1, kn1, kc1, rfl, ht1, h1, hg1⟩
 have hs1 := hg1.size
 go_wp2
 go_loopg [3] L.length (fun f v wr => ∃ acc s', Hid (jP L (⟨#[124]⟩ : ByteArray) (qY L pt) f acc s' = jP L (⟨#[124]⟩ : ByteArray) (qY L pt) L.length [((qY L pt) s).1] ((qY L pt) s).2) ∧ L.length ≤ f + s'.pos ∧ acc.length + f ≤ L.length + 1 ∧ 0 < acc.length ∧ Hid (Deep L K s') ∧ RSt b A n c L s' wr ∧ W0.grownBy wr (some b) ∧ fE eG wr (W0.heap.size ≤ ·) W0.heap.size 39 5 v acc)
 case atStart =>
  refine ⟨[((qY L pt) s).1], ((qY L pt) s).2, rfl, by omega, by simp; omega, by simp, HK.out s _ HS.out (hgood s HH.out.pos), h1.below ((Below.refl _ _).alloc (Nat.le_refl _) _), uJ hg1 _, ?_⟩
  exact fE.one W1 dM rfl rfl hs1 ht1
 case round =>
  obtain ⟨acc, s', hgo, hfu, hal, hac, hks, hPs, hgr, hrow⟩ := hrel
  have hsr := hgr.size
  cases his : isW L (⟨#[124]⟩ : ByteArray) s'
  ·have ht := aD (⟨#[124]⟩ : ByteArray) wr hPs
   rw [his, aB his] at ht
   have HT := Lib.hid ht
   rw [Ab his] at hgo
   clear ht his hPs
   obtain ⟨Av, cv, rfl, hcv, hlist⟩ := hrow.list dM
   go_wp2_with fail
   refine HT.out.mono ?_
   rintro e W2 ⟨rfl, h2, hg2⟩
   have Ki := aj hgr hg2
   have hs2 := Ki.size
   have hl2 : aT (eG W2 (W0.heap.size ≤ ·)) W2 (W0.heap.size ≤ ·) 5 Av acc := hlist.keep ((ax hg2).mono fun g hg => by omega) (fun _ _ h => h.keep ((ax hg2).mono fun g hg => by omega))
   have hr2 := ah Ki HR0.out (Nat.ne_of_gt hbs)
   have HR2 := Lib.hid hr2
   obtain ⟨c0, c1, c2, c3, c4, cf⟩ := jF hr2
   have f0 := cf 0
   have f1 := cf 1
   have f2 := cf 2
   have f3 := cf 3
   have f4 := cf 4
   clear hr2 cf hlist hrow HT
   by_cases hone : acc.length = 1
   ·obtain ⟨g, o, op2, nm2, nd2, wA2, wn2, wc2, kA2, kn2, kc2, rfl, hS2, htm, k0, k1, k2, k3, k4⟩ := zY (fun t v h => ⟨_, h⟩) hl2 0 (by omega)
    have q1 : ((acc.length : Int) == 1) = true := lq hone
    have hgR : g ≠ w.heap.size := by omega
    obtain ⟨t0, rfl⟩ : ∃ t0, acc = [t0] := List.length_eq_one_iff.1 hone
    clear hone
    simp only [Nat.zero_mul, Nat.add_zero] at k0 k1 k2 k3 k4
    go_wp2
    obtain ⟨hb5, hg5⟩ := BJ HR2.out (.int .i64 op2) (.string nm2) (.int .i64 nd2) (.slice wA2 wn2 wc2) (.slice kA2 kn2 kc2)
    refine gL rfl rfl rfl hb5 ?_
    have e : pOr L pt s = (t0, s') := by unfold pOr xq; rw [← hgo.out]; rfl
    rw [e]
    refine ⟨_, _, _, _, _, _, _, _, _, rfl, (htm.keep ((ax hg5).mono fun g hg => by omega)).mono (fun g hg _ => by omega), h2.other (below_grown hg5 (Nat.le_refl _) (by omega)) hbs, ?_⟩
    exact aR (aj (aH hb0) Ki) (below_grown hg5 (Nat.le_refl _) (by omega)) (Nat.le_refl _)
   ·have q1 : ((acc.length : Int) == 1) = false := eP hone
    go_wp2
    obtain ⟨hb5, hg5⟩ := BJ HR2.out (.int .i64 4) (.string (bs [])) (.int .i64 0) (.slice none 0 0) (.slice Av acc.length cv)
    refine gL rfl rfl rfl hb5 ?_
    have e : pOr L pt s = (.mk 4 (bs []) 0 [] acc, s') := by
     unfold pOr xq; rw [← hgo.out, Aa hone]
    rw [e]
    refine ⟨_, _, _, _, _, _, _, _, _, rfl, ((tm_list hl2 hcv).keep ((ax hg5).mono fun g hg => by omega)).mono (fun g hg _ => by omega), h2.other (below_grown hg5 (Nat.le_refl _) (by omega)) hbs, ?_⟩
    exact aR (aj (aH hb0) Ki) (below_grown hg5 (Nat.le_refl _) (by omega)) (Nat.le_refl _)
  ·have ht := aD (⟨#[124]⟩ : ByteArray) wr hPs
   have hpos := qD his
   have hlt := (dW his).2
   have hk2 := HK.out s' (taken L (⟨#[124]⟩ : ByteArray) s') hks.out (by unfold taken; rw [if_pos his]; exact bW (dW his))
   rw [his] at ht
   have HT := Lib.hid ht
   have HI := Lib.hid his
   have HPo := Lib.hid hpos
   have HK2 := Lib.hid hk2
   clear ht his hPs hpos hk2
   obtain ⟨f, rfl⟩ : ∃ f, gk = f + 1 := ⟨gk - 1, by omega⟩
   go_wp2_with fail
   refine HT.out.mono ?_
   rintro e W2 ⟨rfl, h2, hg2⟩
   go_wp2_with fail
   refine (HP.out W2 _ h2 HK2.out).mono ?_
   rintro e W3 ⟨op3, nm3, nd3, wA3, wn3, wc3, kA3, kn3, kc3, rfl, ht3, h3, hg3⟩
   have hgr3 := aj (aj hgr hg2) hg3
   have hrow3 := (hrow.grown dM hg2 (by omega) (fun g hg => by omega)).grown dM hg3 (by omega) (fun g hg => by omega)
   have hs2 := hg2.size
   have hs3 := hgr3.size
   obtain ⟨vs3, l3, hown3, LX⟩ := id hrow3
   go_wp2_with (at_builtin; refine zF W3 rfl (.tmp 9) (.tmp 12) rfl W0.heap.size _ _ _ hown3 rfl op3 nm3 nd3 wA3 wn3 wc3 kA3 kn3 kc3 rfl (by omega) hs3 ?_; intro v' W4 ic hg4 hv4)
   have hb4 := aM hown3 hg4 hs3
   go_roundg f
   case measure => omega
   case rel =>
    have ha := (hgood _ h2.pos).le
    rw [HPo.out] at ha
    have qZ : eG W3 (fun g => W0.heap.size ≤ g ∧ some g ≠ (Value.ownBlock _)) ((qY L pt) (taken L (⟨#[124]⟩ : ByteArray) s')).1 _ := ht3.mono (fun g hg _ => ⟨by omega, fun e => by
     obtain ⟨vs0, _, hown0, _⟩ := hrow
     have := (hown0.lt g e.symm).2
     omega⟩)
    have hk4 := HK.out _ _ HK2.out (hgood _ h2.pos)
    refine ⟨acc ++ [((qY L pt) (taken L (⟨#[124]⟩ : ByteArray) s')).1], _, ?_, ?_, ?_, ?_, hk4, h3.other hb4 (by omega), aR hgr3 hb4 (Nat.le_refl _), fE.push l3 LX dM rfl qZ ic hg4 hv4⟩
    ·rw [Ac HI.out] at hgo; exact hgo
    ·omega
    ·rw [List.length_append]; simp; omega
    ·simp

theorem termN_rd {b : Nat} {A : Option Addr} {n c : Nat} {L : aW} (hsy : lg L) (f : Nat) : qp b A n c L (jO L f) (Fuel L f) := by
 induction f with
 |zero =>
  refine ⟨Fuel.ahead, tq L 0, fun w s h hf => ?_⟩
  have he : s.err ≠ 0 := fun e => by have := hf e; have := h.pos; omega
  have e : jO L 0 s = pOr L (jO L 0) s := by rw [or_err he, Fa he]
  rw [e]
  exact or_rd (jO L 0) (fun _ => False) ⟨fun _ _ h _ => h, tq L 0, fun _ _ _ h => h.elim⟩ hsy w h (fun e => absurd e he)
 |succ f ih => exact ⟨Fuel.ahead, tq L (f + 1), fun w s h hf => or_rd (jO L f) (Fuel L f) ih hsy w h hf.deep⟩
theorem ze {b : Nat} {A : Option Addr} {n c : Nat} {L : aW} {s : St} (hsy : lg L) (w : World) (h : RSt b A n c L s w) :
  Calls Tryz.prog 84 #[.pointer (some ⟨b, 0, none⟩)] w (mU b A n c L w (jc L s)) :=
 (termN_rd hsy (L.length + 1)).part w s h (fun _ => by omega)
end Go.Proofs.YtbmglebipepdmaaGreatDoor
namespace Go.Proofs.YtbmglebipepdmaaGreatDoor
open Go.RowKit

def wX (b : Nat) (A : Option Addr) (n c : Nat) (L : aW) (w : World) (r : Ft × St) (e : Ending) (w' : World) : Prop :=
 ∃ op nm by_ cr bA bn bc cA cn cc, e = .returned (.agg #[.int .i64 op, .string nm, .int .i64 by_, .int .i64 cr, .slice bA bn bc, .slice cA cn cc]) ∧ lm w' (w.heap.size ≤ ·) r.1 (.agg #[.int .i64 op, .string nm, .int .i64 by_, .int .i64 cr, .slice bA bn bc, .slice cA cn cc]) ∧ RSt b A n c L r.2 w' ∧ w.grownBy w' (some b)
theorem isW_excl {L : aW} {s : St} {x y : ByteArray} (hx : isW L x s = true) (hxy : x ≠ y) : isW L y s = false := by
 unfold isW at *
 cases e : tk L s with
 |none => rfl
 |some t =>
  rw [e] at hx
  have h1 := (iJ _ _).1 (Bool.and_eq_true_iff.1 hx).2
  cases hy : (t.text == y)
  ·show isWord y t = false
   unfold isWord
   rw [hy, Bool.and_false]
  ·exact absurd (h1.symm.trans ((iJ _ _).1 hy)) hxy
theorem rsite_byz {L : aW} {s : St} (h1 : isW L (⟨#[110, 111, 110, 101]⟩ : ByteArray) s = false) (h2 : isW L (⟨#[116, 104, 114, 101, 115, 104, 111, 108, 100]⟩ : ByteArray) s = false) (h3 : isW L (⟨#[98, 121, 122]⟩ : ByteArray) s = false) (h4 : isW L (⟨#[99, 114, 97, 115, 104]⟩ : ByteArray) s = false) (h5 : isW L (⟨#[115, 105, 116, 101]⟩ : ByteArray) s = true) (h6 : isW L (⟨#[98, 121, 122]⟩ : ByteArray) (bD L (taken L (⟨#[115, 105, 116, 101]⟩ : ByteArray) s)).2 = true) :
  bX L 5 s = (⟨4, (bD L (taken L (⟨#[115, 105, 116, 101]⟩ : ByteArray) s)).1, 0, 0, [], []⟩, taken L (⟨#[98, 121, 122]⟩ : ByteArray) (bD L (taken L (⟨#[115, 105, 116, 101]⟩ : ByteArray) s)).2) := by
 have e : taken L (⟨#[115, 105, 116, 101]⟩ : ByteArray) s = adv s := by unfold taken; rw [if_pos h5]
 rw [e] at h6 ⊢
 have h7 := isW_excl (y := (⟨#[99, 114, 97, 115, 104]⟩ : ByteArray)) h6 (by decide)
 unfold bX taken; rw [h1, if_neg (by simp), h2, if_neg (by simp), h3, if_neg (by simp), h4, if_neg (by simp), if_pos h5, h7, if_neg (by simp), if_pos h6, if_pos h6]
theorem Ie {L : aW} {s : St} (h1 : isW L (⟨#[110, 111, 110, 101]⟩ : ByteArray) s = false) (h2 : isW L (⟨#[116, 104, 114, 101, 115, 104, 111, 108, 100]⟩ : ByteArray) s = false) (h3 : isW L (⟨#[98, 121, 122]⟩ : ByteArray) s = false) (h4 : isW L (⟨#[99, 114, 97, 115, 104]⟩ : ByteArray) s = false) (h5 : isW L (⟨#[115, 105, 116, 101]⟩ : ByteArray) s = true) (h6 : isW L (⟨#[98, 121, 122]⟩ : ByteArray) (bD L (taken L (⟨#[115, 105, 116, 101]⟩ : ByteArray) s)).2 = false) :
  bX L 5 s = (⟨5, (bD L (taken L (⟨#[115, 105, 116, 101]⟩ : ByteArray) s)).1, 0, 0, [], []⟩, need L (⟨#[99, 114, 97, 115, 104]⟩ : ByteArray) (bD L (taken L (⟨#[115, 105, 116, 101]⟩ : ByteArray) s)).2) := by
 have e : taken L (⟨#[115, 105, 116, 101]⟩ : ByteArray) s = adv s := by unfold taken; rw [if_pos h5]
 rw [e] at h6 ⊢
 unfold bX need; rw [h1, if_neg (by simp), h2, if_neg (by simp), h3, if_neg (by simp), h4, if_neg (by simp), if_pos h5]
 split
 ·rfl
 ·rw [h6, if_neg (by simp)]

set_option maxRecDepth 100000 in
set_option maxHeartbeats 4000000 in
theorem rfault_a {b : Nat} {A : Option Addr} {n c : Nat} {L : aW} {s : St} (w : World) (h : RSt b A n c L s w) (h1 : isW L (⟨#[110, 111, 110, 101]⟩ : ByteArray) s = true) :
  Calls Tryz.prog 83 #[.pointer (some ⟨b, 0, none⟩)] w (wX b A n c L w (bX L 5 s)) := by
 rw [Me h1]
 have hbs := h.lt
 have HH := Lib.hid h
 have Hh1 := Lib.hid h1
 clear h h1
 go_enter Tryz.func83, Tryz.ntmps83
 go_wp2_with fail
 obtain ⟨W0, hW0⟩ : ∃ W0 : World, W0 = w.alloc (.cells #[.int .i64 0, .string ⟨#[]⟩, .int .i64 0, .int .i64 0, .slice none 0 0, .slice none 0 0] 82) := ⟨_, rfl⟩
 have hb0 : Below w.heap.size w W0 := by rw [hW0]; exact (Below.refl _ _).alloc (Nat.le_refl _) _
 have hs0 : w.heap.size < W0.heap.size := by rw [hW0]; simp
 have hr0 : W0.heap[w.heap.size]? = some (.cells #[.int .i64 0, .string ⟨#[]⟩, .int .i64 0, .int .i64 0, .slice none 0 0, .slice none 0 0] 82 (0, 0)) := by rw [hW0]; exact heap_alloc_new w _
 rw [← hW0]
 have HR0 := Lib.hid hr0
 clear hW0 hr0
 have q0 := HH.out.below hb0
 have gW0 := aJ W0 (some b)
 have z0 := gW0.size
 have ht := aD (⟨#[110, 111, 110, 101]⟩ : ByteArray) W0 q0
 rw [Hh1.out] at ht
 refine ht.mono ?_
 rintro e W1 ⟨rfl, q1, g1⟩
 have gW1 := aj gW0 g1
 have z1 := gW1.size
 clear ht
 have hrW := ah gW1 HR0.out (by omega)
 have HFT := Lib.hid (wI W1 (W0.heap.size ≤ ·) 1 (bs []) 0 0)
 obtain ⟨r0, r1, r2, r3, r4, r5, rf⟩ := Ba hrW
 have rf0 := rf 0
 have rf1 := rf 1
 have rf2 := rf 2
 have rf3 := rf 3
 have rf4 := rf 4
 have rf5 := rf 5
 have HRW := Lib.hid hrW
 clear rf hrW
 go_wp2
 obtain ⟨hbR, hgR⟩ := set6 HRW.out (.int .i64 1) (.string (bs [])) (.int .i64 0) (.int .i64 0) (.slice none 0 0) (.slice none 0 0)
 refine lY rfl rfl rfl hbR ?_
 exact ⟨_, _, _, _, _, _, _, _, _, _, rfl, (HFT.out.keep ((ax hgR).mono fun g hg => by omega)).mono (fun g hg _ => by omega), q1.other (below_grown hgR (Nat.le_refl _) (by omega)) hbs, aR (aj (aH hb0) gW1) (below_grown hgR (Nat.le_refl _) (by omega)) (Nat.le_refl _)⟩

set_option maxRecDepth 100000 in
set_option maxHeartbeats 4000000 in
theorem rfault_b {b : Nat} {A : Option Addr} {n c : Nat} {L : aW} {s : St} (w : World) (h : RSt b A n c L s w) (h1 : isW L (⟨#[110, 111, 110, 101]⟩ : ByteArray) s = false) (h2 : isW L (⟨#[116, 104, 114, 101, 115, 104, 111, 108, 100]⟩ : ByteArray) s = true) :
  Calls Tryz.prog 83 #[.pointer (some ⟨b, 0, none⟩)] w (wX b A n c L w (bX L 5 s)) := by
 rw [fault_thr h1 h2]
 have hbs := h.lt
 have HH := Lib.hid h
 have Hh1 := Lib.hid h1
 have Hh2 := Lib.hid h2
 clear h h1 h2
 go_enter Tryz.func83, Tryz.ntmps83
 go_wp2_with fail
 obtain ⟨W0, hW0⟩ : ∃ W0 : World, W0 = w.alloc (.cells #[.int .i64 0, .string ⟨#[]⟩, .int .i64 0, .int .i64 0, .slice none 0 0, .slice none 0 0] 82) := ⟨_, rfl⟩
 have hb0 : Below w.heap.size w W0 := by rw [hW0]; exact (Below.refl _ _).alloc (Nat.le_refl _) _
 have hs0 : w.heap.size < W0.heap.size := by rw [hW0]; simp
 have hr0 : W0.heap[w.heap.size]? = some (.cells #[.int .i64 0, .string ⟨#[]⟩, .int .i64 0, .int .i64 0, .slice none 0 0, .slice none 0 0] 82 (0, 0)) := by rw [hW0]; exact heap_alloc_new w _
 rw [← hW0]
 have HR0 := Lib.hid hr0
 clear hW0 hr0
 have q0 := HH.out.below hb0
 have gW0 := aJ W0 (some b)
 have z0 := gW0.size
 have ht := aD (⟨#[110, 111, 110, 101]⟩ : ByteArray) W0 q0
 rw [Hh1.out, aB Hh1.out] at ht
 refine ht.mono ?_
 rintro e W1 ⟨rfl, q1, g1⟩
 have gW1 := aj gW0 g1
 have z1 := gW1.size
 clear ht
 go_wp2_with fail
 have ht := aD (⟨#[116, 104, 114, 101, 115, 104, 111, 108, 100]⟩ : ByteArray) W1 q1
 rw [Hh2.out] at ht
 refine ht.mono ?_
 rintro e W2 ⟨rfl, q2, g2⟩
 have gW2 := aj gW1 g2
 have z2 := gW2.size
 clear ht
 go_wp2_with fail
 refine (vK W2 q2).mono ?_
 rintro e W3 ⟨rfl, q3, g3⟩
 have gW3 := aj gW2 g3
 have z3 := gW3.size
 go_wp2_with fail
 refine (vK W3 q3).mono ?_
 rintro e W4 ⟨rfl, q4, g4⟩
 have gW4 := aj gW3 g4
 have z4 := gW4.size
 have hrW := ah gW4 HR0.out (by omega)
 have HFT := Lib.hid (wI W4 (W0.heap.size ≤ ·) 2 (bs []) (jS L (taken L (⟨#[116, 104, 114, 101, 115, 104, 111, 108, 100]⟩ : ByteArray) s)).1 (jS L (jS L (taken L (⟨#[116, 104, 114, 101, 115, 104, 111, 108, 100]⟩ : ByteArray) s)).2).1)
 obtain ⟨r0, r1, r2, r3, r4, r5, rf⟩ := Ba hrW
 have rf0 := rf 0
 have rf1 := rf 1
 have rf2 := rf 2
 have rf3 := rf 3
 have rf4 := rf 4
 have rf5 := rf 5
 have HRW := Lib.hid hrW
 clear rf hrW
 go_wp2
 obtain ⟨hbR, hgR⟩ := set6 HRW.out (.int .i64 2) (.string (bs [])) (.int .i64 (jS L (taken L (⟨#[116, 104, 114, 101, 115, 104, 111, 108, 100]⟩ : ByteArray) s)).1) (.int .i64 (jS L (jS L (taken L (⟨#[116, 104, 114, 101, 115, 104, 111, 108, 100]⟩ : ByteArray) s)).2).1) (.slice none 0 0) (.slice none 0 0)
 refine lY rfl rfl rfl hbR ?_
 exact ⟨_, _, _, _, _, _, _, _, _, _, rfl, (HFT.out.keep ((ax hgR).mono fun g hg => by omega)).mono (fun g hg _ => by omega), q4.other (below_grown hgR (Nat.le_refl _) (by omega)) hbs, aR (aj (aH hb0) gW4) (below_grown hgR (Nat.le_refl _) (by omega)) (Nat.le_refl _)⟩

set_option maxRecDepth 100000 in
set_option maxHeartbeats 4000000 in
theorem rfault_d {b : Nat} {A : Option Addr} {n c : Nat} {L : aW} {s : St} (w : World) (h : RSt b A n c L s w) (h1 : isW L (⟨#[110, 111, 110, 101]⟩ : ByteArray) s = false) (h2 : isW L (⟨#[116, 104, 114, 101, 115, 104, 111, 108, 100]⟩ : ByteArray) s = false) (h3 : isW L (⟨#[98, 121, 122]⟩ : ByteArray) s = false) (h4 : isW L (⟨#[99, 114, 97, 115, 104]⟩ : ByteArray) s = true) :
  Calls Tryz.prog 83 #[.pointer (some ⟨b, 0, none⟩)] w (wX b A n c L w (bX L 5 s)) := by
 rw [Jb h1 h2 h3 h4]
 have hbs := h.lt
 have HH := Lib.hid h
 have Hh1 := Lib.hid h1
 have Hh2 := Lib.hid h2
 have Hh3 := Lib.hid h3
 have Hh4 := Lib.hid h4
 clear h h1 h2 h3 h4
 go_enter Tryz.func83, Tryz.ntmps83
 go_wp2_with fail
 obtain ⟨W0, hW0⟩ : ∃ W0 : World, W0 = w.alloc (.cells #[.int .i64 0, .string ⟨#[]⟩, .int .i64 0, .int .i64 0, .slice none 0 0, .slice none 0 0] 82) := ⟨_, rfl⟩
 have hb0 : Below w.heap.size w W0 := by rw [hW0]; exact (Below.refl _ _).alloc (Nat.le_refl _) _
 have hs0 : w.heap.size < W0.heap.size := by rw [hW0]; simp
 have hr0 : W0.heap[w.heap.size]? = some (.cells #[.int .i64 0, .string ⟨#[]⟩, .int .i64 0, .int .i64 0, .slice none 0 0, .slice none 0 0] 82 (0, 0)) := by rw [hW0]; exact heap_alloc_new w _
 rw [← hW0]
 have HR0 := Lib.hid hr0
 clear hW0 hr0
 have q0 := HH.out.below hb0
 have gW0 := aJ W0 (some b)
 have z0 := gW0.size
 have ht := aD (⟨#[110, 111, 110, 101]⟩ : ByteArray) W0 q0
 rw [Hh1.out, aB Hh1.out] at ht
 refine ht.mono ?_
 rintro e W1 ⟨rfl, q1, g1⟩
 have gW1 := aj gW0 g1
 have z1 := gW1.size
 clear ht
 go_wp2_with fail
 have ht := aD (⟨#[116, 104, 114, 101, 115, 104, 111, 108, 100]⟩ : ByteArray) W1 q1
 rw [Hh2.out, aB Hh2.out] at ht
 refine ht.mono ?_
 rintro e W2 ⟨rfl, q2, g2⟩
 have gW2 := aj gW1 g2
 have z2 := gW2.size
 clear ht
 go_wp2_with fail
 have ht := aD (⟨#[98, 121, 122]⟩ : ByteArray) W2 q2
 rw [Hh3.out, aB Hh3.out] at ht
 refine ht.mono ?_
 rintro e W3 ⟨rfl, q3, g3⟩
 have gW3 := aj gW2 g3
 have z3 := gW3.size
 clear ht
 go_wp2_with fail
 have ht := aD (⟨#[99, 114, 97, 115, 104]⟩ : ByteArray) W3 q3
 rw [Hh4.out] at ht
 refine ht.mono ?_
 rintro e W4 ⟨rfl, q4, g4⟩
 have gW4 := aj gW3 g4
 have z4 := gW4.size
 clear ht
 go_wp2_with fail
 refine (su W4 q4).mono ?_
 rintro e W5 ⟨v, rfl, hown, q5, g5⟩
 have gW5 := aj gW4 g5
 have z5 := gW5.size
 obtain ⟨cA, cc, rfl, hcc⟩ := aS hown
 have HFT : Hid (lm W5 (W4.heap.size ≤ ·) ⟨3, bs [], 0, 0, [], (bS L (taken L (⟨#[99, 114, 97, 115, 104]⟩ : ByteArray) s)).1⟩ (.agg #[.int .i64 3, .string (bs []), .int .i64 0, .int .i64 0, .slice none 0 0, .slice cA (bS L (taken L (⟨#[99, 114, 97, 115, 104]⟩ : ByteArray) s)).1.length cc])) := ⟨none, 0, cA, cc, rfl, .empty _ _ _ _, Nat.le_refl _, aL.own hown, hcc⟩
 have hrW := ah gW5 HR0.out (by omega)
 clear hown hcc
 obtain ⟨r0, r1, r2, r3, r4, r5, rf⟩ := Ba hrW
 have rf0 := rf 0
 have rf1 := rf 1
 have rf2 := rf 2
 have rf3 := rf 3
 have rf4 := rf 4
 have rf5 := rf 5
 have HRW := Lib.hid hrW
 clear rf hrW
 go_wp2
 obtain ⟨hbR, hgR⟩ := set6 HRW.out (.int .i64 3) (.string (bs [])) (.int .i64 0) (.int .i64 0) (.slice none 0 0) (.slice cA (bS L (taken L (⟨#[99, 114, 97, 115, 104]⟩ : ByteArray) s)).1.length cc)
 refine lY rfl rfl rfl hbR ?_
 exact ⟨_, _, _, _, _, _, _, _, _, _, rfl, (HFT.out.keep ((ax hgR).mono fun g hg => by omega)).mono (fun g hg _ => by omega), q5.other (below_grown hgR (Nat.le_refl _) (by omega)) hbs, aR (aj (aH hb0) gW5) (below_grown hgR (Nat.le_refl _) (by omega)) (Nat.le_refl _)⟩

set_option maxRecDepth 100000 in
set_option maxHeartbeats 4000000 in
theorem rfault_f {b : Nat} {A : Option Addr} {n c : Nat} {L : aW} {s : St} (w : World) (h : RSt b A n c L s w) (h1 : isW L (⟨#[110, 111, 110, 101]⟩ : ByteArray) s = false) (h2 : isW L (⟨#[116, 104, 114, 101, 115, 104, 111, 108, 100]⟩ : ByteArray) s = false) (h3 : isW L (⟨#[98, 121, 122]⟩ : ByteArray) s = false) (h4 : isW L (⟨#[99, 114, 97, 115, 104]⟩ : ByteArray) s = false) (h5 : isW L (⟨#[115, 105, 116, 101]⟩ : ByteArray) s = false) :
  Calls Tryz.prog 83 #[.pointer (some ⟨b, 0, none⟩)] w (wX b A n c L w (bX L 5 s)) := by
 rw [Mf h1 h2 h3 h4 h5]
 have hbs := h.lt
 have HH := Lib.hid h
 have Hh1 := Lib.hid h1
 have Hh2 := Lib.hid h2
 have Hh3 := Lib.hid h3
 have Hh4 := Lib.hid h4
 have Hh5 := Lib.hid h5
 clear h h1 h2 h3 h4 h5
 go_enter Tryz.func83, Tryz.ntmps83
 go_wp2_with fail
 obtain ⟨W0, hW0⟩ : ∃ W0 : World, W0 = w.alloc (.cells #[.int .i64 0, .string ⟨#[]⟩, .int .i64 0, .int .i64 0, .slice none 0 0, .slice none 0 0] 82) := ⟨_, rfl⟩
 have hb0 : Below w.heap.size w W0 := by rw [hW0]; exact (Below.refl _ _).alloc (Nat.le_refl _) _
 have hs0 : w.heap.size < W0.heap.size := by rw [hW0]; simp
 have hr0 : W0.heap[w.heap.size]? = some (.cells #[.int .i64 0, .string ⟨#[]⟩, .int .i64 0, .int .i64 0, .slice none 0 0, .slice none 0 0] 82 (0, 0)) := by rw [hW0]; exact heap_alloc_new w _
 rw [← hW0]
 have HR0 := Lib.hid hr0
 clear hW0 hr0
 have q0 := HH.out.below hb0
 have gW0 := aJ W0 (some b)
 have z0 := gW0.size
 have ht := aD (⟨#[110, 111, 110, 101]⟩ : ByteArray) W0 q0
 rw [Hh1.out, aB Hh1.out] at ht
 refine ht.mono ?_
 rintro e W1 ⟨rfl, q1, g1⟩
 have gW1 := aj gW0 g1
 have z1 := gW1.size
 clear ht
 go_wp2_with fail
 have ht := aD (⟨#[116, 104, 114, 101, 115, 104, 111, 108, 100]⟩ : ByteArray) W1 q1
 rw [Hh2.out, aB Hh2.out] at ht
 refine ht.mono ?_
 rintro e W2 ⟨rfl, q2, g2⟩
 have gW2 := aj gW1 g2
 have z2 := gW2.size
 clear ht
 go_wp2_with fail
 have ht := aD (⟨#[98, 121, 122]⟩ : ByteArray) W2 q2
 rw [Hh3.out, aB Hh3.out] at ht
 refine ht.mono ?_
 rintro e W3 ⟨rfl, q3, g3⟩
 have gW3 := aj gW2 g3
 have z3 := gW3.size
 clear ht
 go_wp2_with fail
 have ht := aD (⟨#[99, 114, 97, 115, 104]⟩ : ByteArray) W3 q3
 rw [Hh4.out, aB Hh4.out] at ht
 refine ht.mono ?_
 rintro e W4 ⟨rfl, q4, g4⟩
 have gW4 := aj gW3 g4
 have z4 := gW4.size
 clear ht
 go_wp2_with fail
 have ht := aD (⟨#[115, 105, 116, 101]⟩ : ByteArray) W4 q4
 rw [Hh5.out, aB Hh5.out] at ht
 refine ht.mono ?_
 rintro e W5 ⟨rfl, q5, g5⟩
 have gW5 := aj gW4 g5
 have z5 := gW5.size
 clear ht
 go_wp2_with fail
 refine (ja W5 q5).mono ?_
 rintro e W6 ⟨rfl, q6, g6⟩
 have gW6 := aj gW5 g6
 have z6 := gW6.size
 have hrW := ah gW6 HR0.out (by omega)
 have HFT := Lib.hid (wI W6 (W0.heap.size ≤ ·) 6 (bD L s).1 0 0)
 obtain ⟨r0, r1, r2, r3, r4, r5, rf⟩ := Ba hrW
 have rf0 := rf 0
 have rf1 := rf 1
 have rf2 := rf 2
 have rf3 := rf 3
 have rf4 := rf 4
 have rf5 := rf 5
 have HRW := Lib.hid hrW
 clear rf hrW
 go_wp2
 obtain ⟨hbR, hgR⟩ := set6 HRW.out (.int .i64 6) (.string (bD L s).1) (.int .i64 0) (.int .i64 0) (.slice none 0 0) (.slice none 0 0)
 refine lY rfl rfl rfl hbR ?_
 exact ⟨_, _, _, _, _, _, _, _, _, _, rfl, (HFT.out.keep ((ax hgR).mono fun g hg => by omega)).mono (fun g hg _ => by omega), q6.other (below_grown hgR (Nat.le_refl _) (by omega)) hbs, aR (aj (aH hb0) gW6) (below_grown hgR (Nat.le_refl _) (by omega)) (Nat.le_refl _)⟩

set_option maxRecDepth 100000 in
set_option maxHeartbeats 4000000 in
theorem rfault_e {b : Nat} {A : Option Addr} {n c : Nat} {L : aW} {s : St} (w : World) (h : RSt b A n c L s w) (h1 : isW L (⟨#[110, 111, 110, 101]⟩ : ByteArray) s = false) (h2 : isW L (⟨#[116, 104, 114, 101, 115, 104, 111, 108, 100]⟩ : ByteArray) s = false) (h3 : isW L (⟨#[98, 121, 122]⟩ : ByteArray) s = false) (h4 : isW L (⟨#[99, 114, 97, 115, 104]⟩ : ByteArray) s = false) (h5 : isW L (⟨#[115, 105, 116, 101]⟩ : ByteArray) s = true) (h6 : isW L (⟨#[98, 121, 122]⟩ : ByteArray) (bD L (taken L (⟨#[115, 105, 116, 101]⟩ : ByteArray) s)).2 = true) :
  Calls Tryz.prog 83 #[.pointer (some ⟨b, 0, none⟩)] w (wX b A n c L w (bX L 5 s)) := by
 have hbs := h.lt
 have HH := Lib.hid h
 have Hh1 := Lib.hid h1
 have Hh2 := Lib.hid h2
 have Hh3 := Lib.hid h3
 have Hh4 := Lib.hid h4
 have Hh5 := Lib.hid h5
 have Hh6 := Lib.hid h6
 clear h h1 h2 h3 h4 h5 h6
 go_enter Tryz.func83, Tryz.ntmps83
 go_wp2_with fail
 obtain ⟨W0, hW0⟩ : ∃ W0 : World, W0 = w.alloc (.cells #[.int .i64 0, .string ⟨#[]⟩, .int .i64 0, .int .i64 0, .slice none 0 0, .slice none 0 0] 82) := ⟨_, rfl⟩
 have hb0 : Below w.heap.size w W0 := by rw [hW0]; exact (Below.refl _ _).alloc (Nat.le_refl _) _
 have hs0 : w.heap.size < W0.heap.size := by rw [hW0]; simp
 have hr0 : W0.heap[w.heap.size]? = some (.cells #[.int .i64 0, .string ⟨#[]⟩, .int .i64 0, .int .i64 0, .slice none 0 0, .slice none 0 0] 82 (0, 0)) := by rw [hW0]; exact heap_alloc_new w _
 rw [← hW0]
 have HR0 := Lib.hid hr0
 clear hW0 hr0
 have q0 := HH.out.below hb0
 have gW0 := aJ W0 (some b)
 have z0 := gW0.size
 have ht := aD (⟨#[110, 111, 110, 101]⟩ : ByteArray) W0 q0
 rw [Hh1.out, aB Hh1.out] at ht
 refine ht.mono ?_
 rintro e W1 ⟨rfl, q1, g1⟩
 have gW1 := aj gW0 g1
 have z1 := gW1.size
 clear ht
 go_wp2_with fail
 have ht := aD (⟨#[116, 104, 114, 101, 115, 104, 111, 108, 100]⟩ : ByteArray) W1 q1
 rw [Hh2.out, aB Hh2.out] at ht
 refine ht.mono ?_
 rintro e W2 ⟨rfl, q2, g2⟩
 have gW2 := aj gW1 g2
 have z2 := gW2.size
 clear ht
 go_wp2_with fail
 have ht := aD (⟨#[98, 121, 122]⟩ : ByteArray) W2 q2
 rw [Hh3.out, aB Hh3.out] at ht
 refine ht.mono ?_
 rintro e W3 ⟨rfl, q3, g3⟩
 have gW3 := aj gW2 g3
 have z3 := gW3.size
 clear ht
 go_wp2_with fail
 have ht := aD (⟨#[99, 114, 97, 115, 104]⟩ : ByteArray) W3 q3
 rw [Hh4.out, aB Hh4.out] at ht
 refine ht.mono ?_
 rintro e W4 ⟨rfl, q4, g4⟩
 have gW4 := aj gW3 g4
 have z4 := gW4.size
 clear ht
 go_wp2_with fail
 have ht := aD (⟨#[115, 105, 116, 101]⟩ : ByteArray) W4 q4
 rw [Hh5.out] at ht
 refine ht.mono ?_
 rintro e W5 ⟨rfl, q5, g5⟩
 have gW5 := aj gW4 g5
 have z5 := gW5.size
 clear ht
 go_wp2_with fail
 refine (ja W5 q5).mono ?_
 rintro e W6 ⟨rfl, q6, g6⟩
 have gW6 := aj gW5 g6
 have z6 := gW6.size
 go_wp2_with fail
 generalize hnm : (bD L (taken L (⟨#[115, 105, 116, 101]⟩ : ByteArray) s)).1 = nm at *
 have HNM := Lib.hid hnm
 clear hnm
 obtain ⟨Wb, hWb⟩ : ∃ Wb : World, Wb = W6.alloc (.cells #[.int .i64 4, .string nm, .int .i64 0, .int .i64 0, .slice none 0 0, .slice none 0 0] 82) := ⟨_, rfl⟩
 have hbb : Below W6.heap.size W6 Wb := by rw [hWb]; exact (Below.refl _ _).alloc (Nat.le_refl _) _
 have hTb : Wb.heap[W6.heap.size]? = some (.cells #[.int .i64 4, .string nm, .int .i64 0, .int .i64 0, .slice none 0 0, .slice none 0 0] 82 (0, 0)) := by rw [hWb]; exact heap_alloc_new W6 _
 have hsb : W6.heap.size < Wb.heap.size := by rw [hWb]; simp
 rw [← hWb]
 have HTb := Lib.hid hTb
 clear hWb hTb
 have qb := q6.below hbb
 have gWb := aj gW6 (aH hbb)
 have ht := aD (⟨#[98, 121, 122]⟩ : ByteArray) Wb qb
 rw [Hh6.out] at ht
 refine ht.mono ?_
 rintro e W9 ⟨rfl, q9, g9⟩
 clear ht
 have gW9 := aj gWb g9
 have z9 := g9.size
 have hT9 := ah g9 HTb.out (by omega)
 have HE := Lib.hid (rsite_byz Hh1.out Hh2.out Hh3.out Hh4.out Hh5.out Hh6.out)
 rw [HNM.out] at HE
 have hrW := ah gW9 HR0.out (by omega)
 have HFT := Lib.hid (wI W9 (W0.heap.size ≤ ·) 4 nm 0 0)
 obtain ⟨t0, t1, t2, t3, t4, t5, tf⟩ := Ba hT9
 clear tf
 obtain ⟨r0, r1, r2, r3, r4, r5, rf⟩ := Ba hrW
 have rf0 := rf 0
 have rf1 := rf 1
 have rf2 := rf 2
 have rf3 := rf 3
 have rf4 := rf 4
 have rf5 := rf 5
 have HRW := Lib.hid hrW
 clear rf hrW
 go_wp2
 obtain ⟨hbR, hgR⟩ := set6 HRW.out (.int .i64 4) (.string nm) (.int .i64 0) (.int .i64 0) (.slice none 0 0) (.slice none 0 0)
 refine lY rfl rfl rfl hbR ?_
 rw [HE.out]
 exact ⟨_, _, _, _, _, _, _, _, _, _, rfl, (HFT.out.keep ((ax hgR).mono fun g hg => by omega)).mono (fun g hg _ => by omega), q9.other (below_grown hgR (Nat.le_refl _) (by omega)) hbs, aR (aj (aH hb0) gW9) (below_grown hgR (Nat.le_refl _) (by omega)) (Nat.le_refl _)⟩

set_option maxRecDepth 100000 in
set_option maxHeartbeats 4000000 in
theorem rfault_g {b : Nat} {A : Option Addr} {n c : Nat} {L : aW} {s : St} (w : World) (h : RSt b A n c L s w) (h1 : isW L (⟨#[110, 111, 110, 101]⟩ : ByteArray) s = false) (h2 : isW L (⟨#[116, 104, 114, 101, 115, 104, 111, 108, 100]⟩ : ByteArray) s = false) (h3 : isW L (⟨#[98, 121, 122]⟩ : ByteArray) s = false) (h4 : isW L (⟨#[99, 114, 97, 115, 104]⟩ : ByteArray) s = false) (h5 : isW L (⟨#[115, 105, 116, 101]⟩ : ByteArray) s = true) (h6 : isW L (⟨#[98, 121, 122]⟩ : ByteArray) (bD L (taken L (⟨#[115, 105, 116, 101]⟩ : ByteArray) s)).2 = false) :
  Calls Tryz.prog 83 #[.pointer (some ⟨b, 0, none⟩)] w (wX b A n c L w (bX L 5 s)) := by
 have hbs := h.lt
 have HH := Lib.hid h
 have Hh1 := Lib.hid h1
 have Hh2 := Lib.hid h2
 have Hh3 := Lib.hid h3
 have Hh4 := Lib.hid h4
 have Hh5 := Lib.hid h5
 have Hh6 := Lib.hid h6
 clear h h1 h2 h3 h4 h5 h6
 go_enter Tryz.func83, Tryz.ntmps83
 go_wp2_with fail
 obtain ⟨W0, hW0⟩ : ∃ W0 : World, W0 = w.alloc (.cells #[.int .i64 0, .string ⟨#[]⟩, .int .i64 0, .int .i64 0, .slice none 0 0, .slice none 0 0] 82) := ⟨_, rfl⟩
 have hb0 : Below w.heap.size w W0 := by rw [hW0]; exact (Below.refl _ _).alloc (Nat.le_refl _) _
 have hs0 : w.heap.size < W0.heap.size := by rw [hW0]; simp
 have hr0 : W0.heap[w.heap.size]? = some (.cells #[.int .i64 0, .string ⟨#[]⟩, .int .i64 0, .int .i64 0, .slice none 0 0, .slice none 0 0] 82 (0, 0)) := by rw [hW0]; exact heap_alloc_new w _
 rw [← hW0]
 have HR0 := Lib.hid hr0
 clear hW0 hr0
 have q0 := HH.out.below hb0
 have gW0 := aJ W0 (some b)
 have z0 := gW0.size
 have ht := aD (⟨#[110, 111, 110, 101]⟩ : ByteArray) W0 q0
 rw [Hh1.out, aB Hh1.out] at ht
 refine ht.mono ?_
 rintro e W1 ⟨rfl, q1, g1⟩
 have gW1 := aj gW0 g1
 have z1 := gW1.size
 clear ht
 go_wp2_with fail
 have ht := aD (⟨#[116, 104, 114, 101, 115, 104, 111, 108, 100]⟩ : ByteArray) W1 q1
 rw [Hh2.out, aB Hh2.out] at ht
 refine ht.mono ?_
 rintro e W2 ⟨rfl, q2, g2⟩
 have gW2 := aj gW1 g2
 have z2 := gW2.size
 clear ht
 go_wp2_with fail
 have ht := aD (⟨#[98, 121, 122]⟩ : ByteArray) W2 q2
 rw [Hh3.out, aB Hh3.out] at ht
 refine ht.mono ?_
 rintro e W3 ⟨rfl, q3, g3⟩
 have gW3 := aj gW2 g3
 have z3 := gW3.size
 clear ht
 go_wp2_with fail
 have ht := aD (⟨#[99, 114, 97, 115, 104]⟩ : ByteArray) W3 q3
 rw [Hh4.out, aB Hh4.out] at ht
 refine ht.mono ?_
 rintro e W4 ⟨rfl, q4, g4⟩
 have gW4 := aj gW3 g4
 have z4 := gW4.size
 clear ht
 go_wp2_with fail
 have ht := aD (⟨#[115, 105, 116, 101]⟩ : ByteArray) W4 q4
 rw [Hh5.out] at ht
 refine ht.mono ?_
 rintro e W5 ⟨rfl, q5, g5⟩
 have gW5 := aj gW4 g5
 have z5 := gW5.size
 clear ht
 go_wp2_with fail
 refine (ja W5 q5).mono ?_
 rintro e W6 ⟨rfl, q6, g6⟩
 have gW6 := aj gW5 g6
 have z6 := gW6.size
 go_wp2_with fail
 generalize hnm : (bD L (taken L (⟨#[115, 105, 116, 101]⟩ : ByteArray) s)).1 = nm at *
 have HNM := Lib.hid hnm
 clear hnm
 obtain ⟨Wb, hWb⟩ : ∃ Wb : World, Wb = W6.alloc (.cells #[.int .i64 4, .string nm, .int .i64 0, .int .i64 0, .slice none 0 0, .slice none 0 0] 82) := ⟨_, rfl⟩
 have hbb : Below W6.heap.size W6 Wb := by rw [hWb]; exact (Below.refl _ _).alloc (Nat.le_refl _) _
 have hTb : Wb.heap[W6.heap.size]? = some (.cells #[.int .i64 4, .string nm, .int .i64 0, .int .i64 0, .slice none 0 0, .slice none 0 0] 82 (0, 0)) := by rw [hWb]; exact heap_alloc_new W6 _
 have hsb : W6.heap.size < Wb.heap.size := by rw [hWb]; simp
 rw [← hWb]
 have HTb := Lib.hid hTb
 clear hWb hTb
 have qb := q6.below hbb
 have gWb := aj gW6 (aH hbb)
 have ht := aD (⟨#[98, 121, 122]⟩ : ByteArray) Wb qb
 rw [Hh6.out, aB Hh6.out] at ht
 refine ht.mono ?_
 rintro e W9 ⟨rfl, q9, g9⟩
 clear ht
 have gW9 := aj gWb g9
 have z9 := g9.size
 have hT9 := ah g9 HTb.out (by omega)
 have HE := Lib.hid (Ie Hh1.out Hh2.out Hh3.out Hh4.out Hh5.out Hh6.out)
 rw [HNM.out] at HE
 go_wp2_with fail
 refine (eB (⟨#[99, 114, 97, 115, 104]⟩ : ByteArray) W9 q9).mono ?_
 rintro e Wc ⟨rfl, qc, gc⟩
 have gWc := aj gW9 gc
 have zc := gc.size
 have hTc := ah gc hT9 (by omega)
 clear hT9
 obtain ⟨t0, t1, t2, t3, t4, t5, tf⟩ := Ba hTc
 have tf0 := tf 0
 clear tf
 have hgx : Wc.grownBy (Wc.setCell ⟨W6.heap.size, 0, none⟩ (.int .i64 5)) (some W6.heap.size) := aF (aJ _ _) _ _
 have hRx := ah gWc HR0.out (by omega)
 obtain ⟨r0, r1, r2, r3, r4, r5, rf⟩ := Ba hRx
 have rf0 := rf 0
 have rf1 := rf 1
 have rf2 := rf 2
 have rf3 := rf 3
 have rf4 := rf 4
 have rf5 := rf 5
 have HRx := Lib.hid hRx
 have hTs := lt_of_block hTc
 clear rf hRx hTc
 go_wp2
 obtain ⟨hbR, hgR⟩ := set6 (ah hgx HRx.out (by omega)) (.int .i64 5) (.string nm) (.int .i64 0) (.int .i64 0) (.slice none 0 0) (.slice none 0 0)
 refine lY rfl rfl rfl hbR ?_
 rw [HE.out]
 have hsx := hgx.size
 exact ⟨_, _, _, _, _, _, _, _, _, _, rfl, wI _ _ _ _ _ _, (qc.other (below_grown hgx (Nat.le_refl _) (by omega)) (by omega)).other (below_grown hgR (Nat.le_refl _) (by omega)) hbs, aR (aR (aj (aH hb0) gWc) (below_grown hgx (Nat.le_refl _) (by omega)) (by omega)) (below_grown hgR (Nat.le_refl _) (by omega)) (Nat.le_refl _)⟩

set_option maxRecDepth 100000 in
set_option maxHeartbeats 4000000 in
theorem rfault_c {b : Nat} {A : Option Addr} {n c : Nat} {L : aW} {s : St} (w : World) (h : RSt b A n c L s w) (h1 : isW L (⟨#[110, 111, 110, 101]⟩ : ByteArray) s = false) (h2 : isW L (⟨#[116, 104, 114, 101, 115, 104, 111, 108, 100]⟩ : ByteArray) s = false) (h3 : isW L (⟨#[98, 121, 122]⟩ : ByteArray) s = true) (h4 : isW L (⟨#[99, 114, 97, 115, 104]⟩ : ByteArray) (bS L (taken L (⟨#[98, 121, 122]⟩ : ByteArray) s)).2 = true) :
  Calls Tryz.prog 83 #[.pointer (some ⟨b, 0, none⟩)] w (wX b A n c L w (bX L 5 s)) := by
 have hbs := h.lt
 have HH := Lib.hid h
 have Hh1 := Lib.hid h1
 have Hh2 := Lib.hid h2
 have Hh3 := Lib.hid h3
 have Hh4 := Lib.hid h4
 clear h h1 h2 h3 h4
 go_enter Tryz.func83, Tryz.ntmps83
 go_wp2_with fail
 obtain ⟨W0, hW0⟩ : ∃ W0 : World, W0 = w.alloc (.cells #[.int .i64 0, .string ⟨#[]⟩, .int .i64 0, .int .i64 0, .slice none 0 0, .slice none 0 0] 82) := ⟨_, rfl⟩
 have hb0 : Below w.heap.size w W0 := by rw [hW0]; exact (Below.refl _ _).alloc (Nat.le_refl _) _
 have hs0 : w.heap.size < W0.heap.size := by rw [hW0]; simp
 have hr0 : W0.heap[w.heap.size]? = some (.cells #[.int .i64 0, .string ⟨#[]⟩, .int .i64 0, .int .i64 0, .slice none 0 0, .slice none 0 0] 82 (0, 0)) := by rw [hW0]; exact heap_alloc_new w _
 rw [← hW0]
 have HR0 := Lib.hid hr0
 clear hW0 hr0
 have q0 := HH.out.below hb0
 have gW0 := aJ W0 (some b)
 have z0 := gW0.size
 have ht := aD (⟨#[110, 111, 110, 101]⟩ : ByteArray) W0 q0
 rw [Hh1.out, aB Hh1.out] at ht
 refine ht.mono ?_
 rintro e W1 ⟨rfl, q1, g1⟩
 have gW1 := aj gW0 g1
 have z1 := gW1.size
 clear ht
 go_wp2_with fail
 have ht := aD (⟨#[116, 104, 114, 101, 115, 104, 111, 108, 100]⟩ : ByteArray) W1 q1
 rw [Hh2.out, aB Hh2.out] at ht
 refine ht.mono ?_
 rintro e W2 ⟨rfl, q2, g2⟩
 have gW2 := aj gW1 g2
 have z2 := gW2.size
 clear ht
 go_wp2_with fail
 have ht := aD (⟨#[98, 121, 122]⟩ : ByteArray) W2 q2
 rw [Hh3.out] at ht
 refine ht.mono ?_
 rintro e W3 ⟨rfl, q3, g3⟩
 have gW3 := aj gW2 g3
 have z3 := gW3.size
 clear ht
 go_wp2_with fail
 refine (su W3 q3).mono ?_
 rintro e W4 ⟨v, rfl, hown, q4, g4⟩
 have gW4 := aj gW3 g4
 have z4 := gW4.size
 obtain ⟨bA, bc, rfl, hbc⟩ := aS hown
 have Cc := (aL.own hown).mono (S' := fun g => W3.heap.size ≤ g ∧ g < W4.heap.size) (fun g h1 h2 => ⟨h1, h2⟩) (by decide)
 clear hown
 go_wp2_with fail
 obtain ⟨Wb, hWb⟩ : ∃ Wb : World, Wb = W4.alloc (.cells #[.int .i64 3, .string ⟨#[]⟩, .int .i64 0, .int .i64 0, .slice bA (bS L (taken L (⟨#[98, 121, 122]⟩ : ByteArray) s)).1.length bc, .slice none 0 0] 82) := ⟨_, rfl⟩
 have hbb : Below W4.heap.size W4 Wb := by rw [hWb]; exact (Below.refl _ _).alloc (Nat.le_refl _) _
 have hTb : Wb.heap[W4.heap.size]? = some (.cells #[.int .i64 3, .string ⟨#[]⟩, .int .i64 0, .int .i64 0, .slice bA (bS L (taken L (⟨#[98, 121, 122]⟩ : ByteArray) s)).1.length bc, .slice none 0 0] 82 (0, 0)) := by rw [hWb]; exact heap_alloc_new W4 _
 have hsb : W4.heap.size < Wb.heap.size := by rw [hWb]; simp
 rw [← hWb]
 have HTb := Lib.hid hTb
 clear hWb hTb
 have qb := q4.below hbb
 have gWb := aj gW4 (aH hbb)
 have ht := aD (⟨#[99, 114, 97, 115, 104]⟩ : ByteArray) Wb qb
 rw [Hh4.out] at ht
 refine ht.mono ?_
 rintro e W9 ⟨rfl, q9, g9⟩
 clear ht
 have gW9 := aj gWb g9
 have z9 := g9.size
 have hT9 := ah g9 HTb.out (by omega)
 have hsee9 : aL W9 (fun g => W3.heap.size ≤ g ∧ g < W4.heap.size) 1 bA (bS L (taken L (⟨#[98, 121, 122]⟩ : ByteArray) s)).1.length (((bS L (taken L (⟨#[98, 121, 122]⟩ : ByteArray) s)).1).map Value.string) := (aL.keep Cc (aP hbb)).keep ((ax g9).mono fun g hg => by omega)
 clear Cc
 have HE := Lib.hid (Mg (x := 5) Hh1.out Hh2.out Hh3.out Hh4.out)
 go_wp2_with fail
 refine (su W9 q9).mono ?_
 rintro e Wc ⟨v, rfl, hown, qc, gc⟩
 obtain ⟨cA, cc, rfl, hcc⟩ := aS hown
 have gWc := aj gW9 gc
 have zc := gc.size
 have hTc := ah gc hT9 (by omega)
 have hseeb := hsee9.keep ((ax gc).mono fun g hg => by omega)
 have hseec := aL.own hown
 generalize hcn : (bS L (taken L (⟨#[99, 114, 97, 115, 104]⟩ : ByteArray) (bS L (taken L (⟨#[98, 121, 122]⟩ : ByteArray) s)).2)).1 = cn at *
 generalize hbn : (bS L (taken L (⟨#[98, 121, 122]⟩ : ByteArray) s)).1 = bn at *
 have HCN := Lib.hid hcn
 have HBN := Lib.hid hbn
 clear hcn hbn hown hsee9
 obtain ⟨t0, t1, t2, t3, t4, t5, tf⟩ := Ba hTc
 have tf5 := tf 5
 clear tf
 have hgx : Wc.grownBy (Wc.setCell ⟨W4.heap.size, 5, none⟩ (.slice cA cn.length cc)) (some W4.heap.size) := aF (aJ _ _) _ _
 have hRx := ah gWc HR0.out (by omega)
 obtain ⟨r0, r1, r2, r3, r4, r5, rf⟩ := Ba hRx
 have rf0 := rf 0
 have rf1 := rf 1
 have rf2 := rf 2
 have rf3 := rf 3
 have rf4 := rf 4
 have rf5 := rf 5
 have HRx := Lib.hid hRx
 have hTs := lt_of_block hTc
 clear rf hRx hTc
 go_wp2
 obtain ⟨hbR, hgR⟩ := set6 (ah hgx HRx.out (by omega)) (.int .i64 3) (.string (bs [])) (.int .i64 0) (.int .i64 0) (.slice bA bn.length bc) (.slice cA cn.length cc)
 refine lY rfl rfl rfl hbR ?_
 rw [HE.out]
 have hsx := hgx.size
 refine ⟨_, _, _, _, _, _, _, _, _, _, rfl, ⟨bA, bc, cA, cc, rfl, ?_, hbc, ?_, hcc⟩, (qc.other (below_grown hgx (Nat.le_refl _) (by omega)) (by omega)).other (below_grown hgR (Nat.le_refl _) (by omega)) hbs, aR (aR (aj (aH hb0) gWc) (below_grown hgx (Nat.le_refl _) (by omega)) (by omega)) (below_grown hgR (Nat.le_refl _) (by omega)) (Nat.le_refl _)⟩
 ·exact ((hseeb.keep ((ax hgx).mono fun g hg => by omega)).keep ((ax hgR).mono fun g hg => by omega)).mono (fun g hg _ => by omega) (by decide)
 ·exact ((aL.keep hseec ((ax hgx).mono fun g hg => by omega)).keep ((ax hgR).mono fun g hg => by omega)).mono (fun g hg _ => by omega) (by decide)

set_option maxRecDepth 100000 in
set_option maxHeartbeats 4000000 in
theorem rfault_h {b : Nat} {A : Option Addr} {n c : Nat} {L : aW} {s : St} (w : World) (h : RSt b A n c L s w) (h1 : isW L (⟨#[110, 111, 110, 101]⟩ : ByteArray) s = false) (h2 : isW L (⟨#[116, 104, 114, 101, 115, 104, 111, 108, 100]⟩ : ByteArray) s = false) (h3 : isW L (⟨#[98, 121, 122]⟩ : ByteArray) s = true) (h4 : isW L (⟨#[99, 114, 97, 115, 104]⟩ : ByteArray) (bS L (taken L (⟨#[98, 121, 122]⟩ : ByteArray) s)).2 = false) :
  Calls Tryz.prog 83 #[.pointer (some ⟨b, 0, none⟩)] w (wX b A n c L w (bX L 5 s)) := by
 have hbs := h.lt
 have HH := Lib.hid h
 have Hh1 := Lib.hid h1
 have Hh2 := Lib.hid h2
 have Hh3 := Lib.hid h3
 have Hh4 := Lib.hid h4
 clear h h1 h2 h3 h4
 go_enter Tryz.func83, Tryz.ntmps83
 go_wp2_with fail
 obtain ⟨W0, hW0⟩ : ∃ W0 : World, W0 = w.alloc (.cells #[.int .i64 0, .string ⟨#[]⟩, .int .i64 0, .int .i64 0, .slice none 0 0, .slice none 0 0] 82) := ⟨_, rfl⟩
 have hb0 : Below w.heap.size w W0 := by rw [hW0]; exact (Below.refl _ _).alloc (Nat.le_refl _) _
 have hs0 : w.heap.size < W0.heap.size := by rw [hW0]; simp
 have hr0 : W0.heap[w.heap.size]? = some (.cells #[.int .i64 0, .string ⟨#[]⟩, .int .i64 0, .int .i64 0, .slice none 0 0, .slice none 0 0] 82 (0, 0)) := by rw [hW0]; exact heap_alloc_new w _
 rw [← hW0]
 have HR0 := Lib.hid hr0
 clear hW0 hr0
 have q0 := HH.out.below hb0
 have gW0 := aJ W0 (some b)
 have z0 := gW0.size
 have ht := aD (⟨#[110, 111, 110, 101]⟩ : ByteArray) W0 q0
 rw [Hh1.out, aB Hh1.out] at ht
 refine ht.mono ?_
 rintro e W1 ⟨rfl, q1, g1⟩
 have gW1 := aj gW0 g1
 have z1 := gW1.size
 clear ht
 go_wp2_with fail
 have ht := aD (⟨#[116, 104, 114, 101, 115, 104, 111, 108, 100]⟩ : ByteArray) W1 q1
 rw [Hh2.out, aB Hh2.out] at ht
 refine ht.mono ?_
 rintro e W2 ⟨rfl, q2, g2⟩
 have gW2 := aj gW1 g2
 have z2 := gW2.size
 clear ht
 go_wp2_with fail
 have ht := aD (⟨#[98, 121, 122]⟩ : ByteArray) W2 q2
 rw [Hh3.out] at ht
 refine ht.mono ?_
 rintro e W3 ⟨rfl, q3, g3⟩
 have gW3 := aj gW2 g3
 have z3 := gW3.size
 clear ht
 go_wp2_with fail
 refine (su W3 q3).mono ?_
 rintro e W4 ⟨v, rfl, hown, q4, g4⟩
 have gW4 := aj gW3 g4
 have z4 := gW4.size
 obtain ⟨bA, bc, rfl, hbc⟩ := aS hown
 have Cc := (aL.own hown).mono (S' := fun g => W3.heap.size ≤ g ∧ g < W4.heap.size) (fun g h1 h2 => ⟨h1, h2⟩) (by decide)
 clear hown
 go_wp2_with fail
 obtain ⟨Wb, hWb⟩ : ∃ Wb : World, Wb = W4.alloc (.cells #[.int .i64 3, .string ⟨#[]⟩, .int .i64 0, .int .i64 0, .slice bA (bS L (taken L (⟨#[98, 121, 122]⟩ : ByteArray) s)).1.length bc, .slice none 0 0] 82) := ⟨_, rfl⟩
 have hbb : Below W4.heap.size W4 Wb := by rw [hWb]; exact (Below.refl _ _).alloc (Nat.le_refl _) _
 have hTb : Wb.heap[W4.heap.size]? = some (.cells #[.int .i64 3, .string ⟨#[]⟩, .int .i64 0, .int .i64 0, .slice bA (bS L (taken L (⟨#[98, 121, 122]⟩ : ByteArray) s)).1.length bc, .slice none 0 0] 82 (0, 0)) := by rw [hWb]; exact heap_alloc_new W4 _
 have hsb : W4.heap.size < Wb.heap.size := by rw [hWb]; simp
 rw [← hWb]
 have HTb := Lib.hid hTb
 clear hWb hTb
 have qb := q4.below hbb
 have gWb := aj gW4 (aH hbb)
 have ht := aD (⟨#[99, 114, 97, 115, 104]⟩ : ByteArray) Wb qb
 rw [Hh4.out, aB Hh4.out] at ht
 refine ht.mono ?_
 rintro e W9 ⟨rfl, q9, g9⟩
 clear ht
 have gW9 := aj gWb g9
 have z9 := g9.size
 have hT9 := ah g9 HTb.out (by omega)
 have hsee9 : aL W9 (fun g => W3.heap.size ≤ g ∧ g < W4.heap.size) 1 bA (bS L (taken L (⟨#[98, 121, 122]⟩ : ByteArray) s)).1.length (((bS L (taken L (⟨#[98, 121, 122]⟩ : ByteArray) s)).1).map Value.string) := (aL.keep Cc (aP hbb)).keep ((ax g9).mono fun g hg => by omega)
 clear Cc
 have HE := Lib.hid (Mh (x := 5) Hh1.out Hh2.out Hh3.out Hh4.out)
 have hrW := ah gW9 HR0.out (by omega)
 have HFT : Hid (lm W9 (W3.heap.size ≤ ·) ⟨3, bs [], 0, 0, (bS L (taken L (⟨#[98, 121, 122]⟩ : ByteArray) s)).1, []⟩ (.agg #[.int .i64 3, .string (bs []), .int .i64 0, .int .i64 0, .slice bA (bS L (taken L (⟨#[98, 121, 122]⟩ : ByteArray) s)).1.length bc, .slice none 0 0])) := ⟨bA, bc, none, 0, rfl, hsee9.mono (fun g hg _ => hg.1) (by decide), hbc, .empty _ _ _ _, Nat.le_refl _⟩
 clear hsee9 hbc
 obtain ⟨t0, t1, t2, t3, t4, t5, tf⟩ := Ba hT9
 clear tf
 obtain ⟨r0, r1, r2, r3, r4, r5, rf⟩ := Ba hrW
 have rf0 := rf 0
 have rf1 := rf 1
 have rf2 := rf 2
 have rf3 := rf 3
 have rf4 := rf 4
 have rf5 := rf 5
 have HRW := Lib.hid hrW
 clear rf hrW
 go_wp2
 obtain ⟨hbR, hgR⟩ := set6 HRW.out (.int .i64 3) (.string (bs [])) (.int .i64 0) (.int .i64 0) (.slice bA (bS L (taken L (⟨#[98, 121, 122]⟩ : ByteArray) s)).1.length bc) (.slice none 0 0)
 refine lY rfl rfl rfl hbR ?_
 rw [HE.out]
 exact ⟨_, _, _, _, _, _, _, _, _, _, rfl, (HFT.out.keep ((ax hgR).mono fun g hg => by omega)).mono (fun g hg _ => by omega), q9.other (below_grown hgR (Nat.le_refl _) (by omega)) hbs, aR (aj (aH hb0) gW9) (below_grown hgR (Nat.le_refl _) (by omega)) (Nat.le_refl _)⟩

theorem Kr {b : Nat} {A : Option Addr} {n c : Nat} {L : aW} {s : St} (w : World) (h : RSt b A n c L s w) :
  Calls Tryz.prog 83 #[.pointer (some ⟨b, 0, none⟩)] w (wX b A n c L w (bX L 5 s)) := by
 cases h1 : isW L (⟨#[110, 111, 110, 101]⟩ : ByteArray) s
 ·cases h2 : isW L (⟨#[116, 104, 114, 101, 115, 104, 111, 108, 100]⟩ : ByteArray) s
  ·cases h3 : isW L (⟨#[98, 121, 122]⟩ : ByteArray) s
   ·cases h4 : isW L (⟨#[99, 114, 97, 115, 104]⟩ : ByteArray) s
    ·cases h5 : isW L (⟨#[115, 105, 116, 101]⟩ : ByteArray) s
     ·exact rfault_f w h h1 h2 h3 h4 h5
     ·cases h6 : isW L (⟨#[98, 121, 122]⟩ : ByteArray) (bD L (taken L (⟨#[115, 105, 116, 101]⟩ : ByteArray) s)).2
      ·exact rfault_g w h h1 h2 h3 h4 h5 h6
      ·exact rfault_e w h h1 h2 h3 h4 h5 h6
    ·exact rfault_d w h h1 h2 h3 h4
   ·cases h4 : isW L (⟨#[99, 114, 97, 115, 104]⟩ : ByteArray) (bS L (taken L (⟨#[98, 121, 122]⟩ : ByteArray) s)).2
    ·exact rfault_h w h h1 h2 h3 h4
    ·exact rfault_c w h h1 h2 h3 h4
  ·exact rfault_b w h h1 h2
 ·exact rfault_a w h h1
end Go.Proofs.YtbmglebipepdmaaGreatDoor
