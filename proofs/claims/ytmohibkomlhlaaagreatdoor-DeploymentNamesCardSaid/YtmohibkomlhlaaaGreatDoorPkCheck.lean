/- The length of a declaration's text by its size. No condition. The contract of the aU Few. zD by gen_tform.py. The contract of Check: the line and the error of declarations. Declarations of a size up to a bound. -/
import Derived.Test.YtmohibkomlhlaaaGreatDoorPkFmtb
import Derived.Test.YtmohibkomlhlaaaGreatDoorPkOpen
import Derived.Test.YtmohibkomlhlaaaGreatDoorPkEq
import Derived.Test.YtmohibkomlhlaaaGreatDoorPkTyb
import Derived.Test.YtmohibkomlhlaaaGreatDoorPkTya
set_option maxRecDepth 100000
set_option maxHeartbeats 4000000
namespace Go.Proofs.YtmohibkomlhlaaaGreatDoor
theorem dH (l : List ByteArray) : l.length ≤ bI l := by
 unfold bI
 induction l with
 |nil => simp
 |cons x r ih => simp only [List.map_cons, List.sum_cons, List.length_cons]; omega
theorem qg (f : Ft) : f.aI.length + f.aD.length + 1 ≤ dS f := by
 have a := dH f.aI
 have b := dH f.aD
 unfold dS; omega
theorem Bd {f : Ft} (h : om f = true) : (gD f).length ≤ 126 * dS f := by
 have a := qf h
 have b := qg f
 omega
theorem fts_sum (l : List Ft) (h : ∀ f ∈ l, om f = true) : Lib.lens (l.map gD) ≤ 126 * (l.map dS).sum ∧ l.length ≤ (l.map dS).sum := by
 induction l with
 |nil => simp [Lib.lens]
 |cons f r ih =>
  have a := Bd (h f (by simp))
  have b := ih (fun q hq => h q (by simp [hq]))
  have c := qg f
  rw [List.map_cons, lens_cons, List.map_cons, List.sum_cons, List.length_cons]
  omega
theorem ft_in_sum {l : List Ft} {f : Ft} (h : f ∈ l) : dS f ≤ (l.map dS).sum := by
 induction l with
 |nil => simp at h
 |cons a r ih =>
  rw [List.map_cons, List.sum_cons]
  rcases List.mem_cons.1 h with rfl | h
  ·omega
  ·have := ih h; omega
theorem lH {l : List Dc} {d : Dc} (h : d ∈ l) : aZ d ≤ (l.map aZ).sum := by
 induction l with
 |nil => simp at h
 |cons a r ih =>
  rw [List.map_cons, List.sum_cons]
  rcases List.mem_cons.1 h with rfl | h
  ·omega
  ·have := ih h; omega
theorem iB (l : List Dc) : l.length ≤ (l.map aZ).sum := by
 induction l with
 |nil => simp
 |cons a r ih =>
  rw [List.map_cons, List.sum_cons, List.length_cons]
  have : 1 ≤ aZ a := by unfold aZ; omega
  omega
theorem BI {d : Dc} (hok : uq d = true) : (fM d).length + 1 ≤ 200 * aZ d := by
 have h := GR hok
 have hs : aZ d = d.name.size + bI d.names + (d.faults.map dS).sum + av d.term + d.proto.size + av d.read + av d.write + d.use.size + 1 := rfl
 have n1 := dH d.names
 have n2 := gy h.names
 have en : d.name.data.toList.length = d.name.size := by simp
 have eu : d.use.data.toList.length = d.use.size := by simp
 have ep : d.proto.data.toList.length = d.proto.size := by simp
 unfold fM
 rcases DI h with hk | hk | hk | hk | hk | hk | hk
 ·rw [if_pos hk]; simp only [List.length_append, List.length_cons, List.length_nil]; omega
 ·rw [if_neg (by omega), if_pos hk]
  obtain ⟨f1, f2⟩ := fts_sum d.faults (List.all_eq_true.1 h.faults)
  have f3 := join_length_le (d.faults.map gD) [32, 124, 32]
  simp only [List.length_append, List.length_cons, List.length_nil, List.length_map] at f3 ⊢; omega
 ·rw [if_neg (by omega), if_neg (by omega), if_pos hk]
  have ht : kZ d.term = true := by have := h.term; rw [hk] at this; exact this
  have t1 := gu ht
  simp only [List.length_append, List.length_cons, List.length_nil]; omega
 ·rw [if_neg (by omega), if_neg (by omega), if_neg (by omega), if_pos hk]
  obtain ⟨hp, hr, hw, hu⟩ := DJ h (by rw [hk]; rfl)
  have t1 := gu hr
  have t2 := gu hw
  simp only [List.length_append, List.length_cons, List.length_nil]; omega
 ·rw [if_neg (by omega), if_neg (by omega), if_neg (by omega), if_neg (by omega), if_pos hk]
  simp only [List.length_append, List.length_cons, List.length_nil]; omega
 ·rw [if_neg (by omega), if_neg (by omega), if_neg (by omega), if_neg (by omega), if_neg (by omega), if_neg (by omega)]
  split
  ·simp only [List.length_append, List.length_cons, List.length_nil]; omega
  ·simp only [List.length_append, List.length_cons, List.length_nil]; omega
 ·rw [if_neg (by omega), if_neg (by omega), if_neg (by omega), if_neg (by omega), if_neg (by omega), if_pos hk]
  simp only [List.length_append, List.length_cons, List.length_nil]; omega
theorem zx (l : List Dc) (h : l.all uq = true) : (dA l).length ≤ 200 * (l.map aZ).sum := by
 induction l with
 |nil => simp [dA]
 |cons d r ih =>
  rw [List.all_cons, Bool.and_eq_true] at h
  have a := BI h.1
  have b := ih h.2
  have e : dA (d :: r) = (fM d ++ [10]) ++ dA r := rfl
  rw [e, List.map_cons, List.sum_cons]
  simp only [List.length_append, List.length_cons, List.length_nil]; omega
def iZ (d : Dc) : Nat := av d.term + av d.read + av d.write + d.name.size + d.names.length + 10 * d.faults.length + d.proto.size + d.use.size
theorem Du (l : List Ft) : l.length ≤ (l.map dS).sum := by
 induction l with
 |nil => simp
 |cons f r ih =>
  have c := qg f
  rw [List.map_cons, List.sum_cons, List.length_cons]; omega
theorem few_dc (l : List Dc) : (l.map iZ).sum ≤ 10 * (l.map aZ).sum := by
 induction l with
 |nil => simp
 |cons d r ih =>
  have n1 := dH d.names
  have n2 := Du d.faults
  have e : iZ d ≤ 10 * aZ d := by unfold iZ aZ; omega
  rw [List.map_cons, List.map_cons, List.sum_cons, List.sum_cons]; omega
end Go.Proofs.YtmohibkomlhlaaaGreatDoor
namespace Go.Proofs.YtmohibkomlhlaaaGreatDoor
open Go.RowKit
open _root_.Go.Proofs.Tryz
theorem lU {l : List ByteArray} {x : ByteArray} (h : x ∈ l) : x.size + 1 ≤ bI l := by
 unfold bI
 induction l with
 |nil => cases h
 |cons a r ih =>
  rw [List.map_cons, List.sum_cons]
  rcases List.mem_cons.1 h with rfl | h
  ·omega
  ·have := ih h; omega
theorem in_sum {α : Type} (f : α → Nat) {l : List α} {x : α} (h : x ∈ l) : f x ≤ (l.map f).sum := by
 induction l with
 |nil => cases h
 |cons a r ih =>
  rw [List.map_cons, List.sum_cons]
  rcases List.mem_cons.1 h with rfl | h
  ·omega
  ·have := ih h; omega
theorem jV (l : List ByteArray) : l.length ≤ bI l := by
 unfold bI
 induction l with
 |nil => simp
 |cons a r ih => rw [List.map_cons, List.sum_cons, List.length_cons]; omega
theorem dc_slim {d : Dc} (hok : uq d = true) (hs : aZ d ≤ 2000000) (hf : iZ d ≤ 20000000) : SLim d := by
 have e1 : aZ d = d.name.size + bI d.names + (d.faults.map dS).sum + av d.term + d.proto.size + av d.read + av d.write + d.use.size + 1 := rfl
 have e2 : iZ d = av d.term + av d.read + av d.write + d.name.size + d.names.length + 10 * d.faults.length + d.proto.size + d.use.size := rfl
 have ho := GR hok
 have n3 := jV d.names
 have n4 := Du d.faults
 refine ⟨⟨ho.lo, ho.hi⟩, by unfold maxLen; omega, by unfold maxLen; omega, fun x hx => by have := lU hx; unfold maxLen; omega, by omega, by omega, fun f hfm => ?_, by omega, by omega, by omega⟩
 have h1 := in_sum dS hfm
 have e3 : dS f = f.name.size + bI f.aI + bI f.aD + 1 := rfl
 have n1 := jV f.aI
 have n2 := jV f.aD
 refine ⟨by omega, by omega, fun x hx => ?_, by unfold maxLen; omega, fun h2 => ?_⟩
 ·rcases List.mem_append.1 hx with hx | hx <;> (have := lU hx; unfold maxLen; omega)
 ·have hof := List.all_eq_true.1 ho.faults f hfm
  unfold om at hof
  rw [if_neg (by omega), if_pos h2] at hof
  simp only [Bool.and_eq_true] at hof
  have b1 := hof.1.1.2
  have b2 := hof.1.2
  unfold small at b1 b2
  simp only [Bool.and_eq_true, decide_eq_true_eq] at b1 b2
  omega
def nb (l : List Dc) : Nat := (l.map fun d => 2 * d.names.length + 1).sum
theorem nb_snoc (l : List Dc) (d : Dc) : nb (l ++ [d]) = nb l + d.names.length + 1 + d.names.length := by simp [nb]; omega
theorem nb_le (l : List Dc) : nb l ≤ 2 * (l.map iZ).sum + l.length := by
 unfold nb
 induction l with
 |nil => simp
 |cons d r ih =>
  have e2 : iZ d = av d.term + av d.read + av d.write + d.name.size + d.names.length + 10 * d.faults.length + d.proto.size + d.use.size := rfl
  rw [List.map_cons, List.sum_cons, List.map_cons, List.sum_cons, List.length_cons]; omega
theorem uH (l : List Dc) : aF l ≤ (l.map iZ).sum := by
 unfold aF
 induction l with
 |nil => simp
 |cons d r ih =>
  have e2 : iZ d = av d.term + av d.read + av d.write + d.name.size + d.names.length + 10 * d.faults.length + d.proto.size + d.use.size := rfl
  rw [List.map_cons, List.sum_cons, List.map_cons, List.sum_cons]; split <;> omega
theorem zk (l : List Dc) : (aS l).length ≤ l.length := by
 unfold aS
 induction l with
 |nil => simp
 |cons d r ih =>
  have h1 : (if d.kind = 2 then [d.name] else []).length ≤ 1 := by split <;> simp
  rw [List.flatMap_cons, List.length_append, List.length_cons]
  omega
theorem BN (pre r : List Dc) (d : Dc) : je pre (d :: r) = if iP pre d ≠ 0 then (d.line, iP pre d) else je (pre ++ [d]) r := rfl
theorem sum_takeF {α : Type} (f : α → Nat) (l : List α) (k : Nat) : ((l.take k).map f).sum ≤ (l.map f).sum := by
 conv => rhs; rw [← List.take_append_drop k l, List.map_append, List.sum_append]
 omega
theorem join_ge (l : List (List UInt8)) (sep : List UInt8) (hs : 0 < sep.length) : l.length ≤ (Lib.join l sep).length + 1 := by
 cases l with
 |nil => simp
 |cons x r =>
  rw [Lib.join_cons, List.length_append, List.length_cons]
  have key : ∀ r : List (List UInt8), r.length ≤ (Lib.joinTail sep r).length := by
   intro r
   induction r with
   |nil => simp
   |cons y q ih =>
    have : Lib.joinTail sep (y :: q) = sep ++ y ++ Lib.joinTail sep q := by simp [Lib.joinTail]
    rw [this, List.length_append, List.length_append, List.length_cons]
    omega
  have := key r
  omega
theorem Fp {l : List Dc} (h : (dV l).2 = 0) : l.length ≤ 65536 ∧ ∀ d ∈ l, d.faults.length ≤ 65537 := by
 unfold dV at h
 by_cases ho : l.all uq = true
 ·rw [if_pos ho] at h
  unfold jS at h
  by_cases hz : tQ (dA l) = true
  ·unfold tQ at hz
   simp only [Bool.and_eq_true, decide_eq_true_eq] at hz
   have hl := hz.1.1
   have key : ∀ m : List Dc, m.length ≤ (dA m).length ∧ ∀ d ∈ m, (fM d).length ≤ (dA m).length := by
    intro m
    induction m with
    |nil => exact ⟨Nat.zero_le _, fun d hd => by simp at hd⟩
    |cons a r ih =>
     have e : dA (a :: r) = fM a ++ [10] ++ dA r := by unfold dA; rw [List.flatMap_cons]
     rw [e, List.length_append, List.length_append, List.length_cons, List.length_singleton]
     refine ⟨by omega, fun d hd => ?_⟩
     rcases List.mem_cons.1 hd with rfl | hd
     ·omega
     ·have := ih.2 d hd; omega
   obtain ⟨k1, k2⟩ := key l
   refine ⟨by omega, fun d hd => ?_⟩
   have hd2 := k2 d hd
   have hok := GR (List.all_eq_true.1 ho d hd)
   by_cases hk : d.kind = 2
   ·have hj := join_ge (d.faults.map gD) [32, 124, 32] (by decide)
    have e : fM d = [102, 97, 117, 108, 116, 115, 32] ++ d.name.data.toList ++ [32, 61, 32] ++ Lib.join (d.faults.map gD) [32, 124, 32] ++ [59] := by unfold fM; rw [if_neg (by rw [hk]; decide), if_pos hk]
    rw [e] at hd2
    simp only [List.length_append, List.length_map] at hd2 hj
    omega
   ·have := hok.hfaults
    have h0 : lC d.kind = false := by
     have hc : d.kind = 1 ∨ d.kind = 3 ∨ d.kind = 4 ∨ d.kind = 5 ∨ d.kind = 6 ∨ d.kind = 7 := by have := hok.lo; have := hok.hi; omega
     rcases hc with e | e | e | e | e | e <;> rw [e] <;> rfl
    rw [h0] at this
    have := of_decide_eq_false this.symm
    omega
  ·rw [if_neg hz] at h; cases h
 ·rw [if_neg ho] at h; cases h
theorem check_any (l : List Dc) (A : Option Addr) (c : Nat) (w : World) (S : Nat → Prop) (hl : aL (dx w S) w S 22 A l) (hS : ∀ g, S g → g < w.heap.size) (hsz : (l.map aZ).sum ≤ 2000000) (hfew : (l.map iZ).sum ≤ 20000000) (hll : l.length ≤ 2000000)
  (hv : Calls prog 59 #[.slice A l.length c] w fun e w' => e = .returned (.int .i64 (dV l).2) ∧ Below w.heap.size w w') :
  Calls prog 27 #[.slice A l.length c] w fun e w' => e = .returned (.tuple #[.int .i64 (bH l).1, .int .i64 (bH l).2]) ∧ Below w.heap.size w w' := by
 have HV := Lib.hid hv
 have HLS := Lib.hid hl
 obtain ⟨r, hr⟩ : ∃ r, r = bH l := ⟨_, rfl⟩
 rw [← hr]
 obtain ⟨r1, r2⟩ := r
 obtain ⟨fe, hfe⟩ : ∃ fe, fe = (dV l).2 := ⟨_, rfl⟩
 rw [← hfe] at HV
 unfold bH at hr
 rw [← hfe] at hr
 have HR := Lib.hid hr
 have HFE := Lib.hid hfe
 clear hl hv hr hfe
 go_enter func27, ntmps27
 go_wp2_with fail
 refine HV.out.mono ?_
 rintro e w1 ⟨rfl, hb1⟩
 have hs1 := hb1.size
 by_cases hf0 : fe = 0
 ·have hok : l.all uq = true := by
   have h0 := HFE.out.symm.trans hf0
   unfold dV at h0
   by_cases ho : l.all uq = true
   ·exact ho
   ·rw [if_neg ho] at h0; simp at h0
  have HOKS := Lib.hid (List.all_eq_true.1 hok)
  have hsmall := Fp (HFE.out.symm.trans hf0)
  have hll5 := hsmall.1
  have HSM := Lib.hid hsmall.2
  subst hf0
  have hr2 := HR.out
  rw [if_neg (by decide)] at hr2
  have HGO := Lib.hid hr2
  have HEM := Lib.hid (Bw w1 S (fun g hg => by have := hS g hg; omega))
  clear HFE hok hr2 HR HV hsmall
  go_wp2_with fail
  refine HEM.out.mono ?_
  rintro e w2 ⟨b, kb, db, wb, cb, zb, rfl, hsc, hb2, hlo⟩
  have HSC := Lib.hid hsc
  have hw2 : Below w.heap.size w w2 := hb1.trans (hb2.mono hs1)
  clear hsc
  go_wp2_with fail
  go_loopw [17] (fun x wr => ∃ k : Nat, k ≤ l.length ∧ x = .int .i64 k ∧ Below w.heap.size w wr ∧ Hid (∃ zn Z, Sc prog 121 wr S b kb db wb cb zb (nb (l.take k)) zn (j6 (l.take k)) (aF (l.take k)) (dR 4 (l.take k)) (dR 6 (l.take k)) (bJ (l.take k)) (fD (l.take k)) (bO 5 (l.take k)) (bO 7 (l.take k)) Z ∧ lJ (iR (l.take k)) (aS (l.take k)) Z zn) ∧
   Hid (DZ (j6 (l.take k)) (iR (l.take k)) (pJ (aS (l.take k))) (aS (l.take k))) ∧ Hid ((r1, r2) = je (l.take k) (l.drop k))) (fun x _ => l.length - (intOf x).toNat)
  case atStart => exact ⟨0, Nat.zero_le _, rfl, hw2, Lib.hid ⟨0, fun _ => none, HSC.out, He⟩, Lib.hid byzOk_nil, Lib.hid (by simpa using HGO.out)⟩
  case round =>
   obtain ⟨k, hk, rfl, hbw, hst, hbo, hgo⟩ := hrel
   have hsr := hbw.size
   obtain ⟨zn, Z, hsc, hinv⟩ := hst.out
   by_cases hlt : k < l.length
   ·have hlr := HLS.out.keep (P' := dx wr S) (ai hbw hS) (fun _ _ h => h.keep (ai hbw hS))
    obtain ⟨g, o, v, rfl, hSg, htm, hcs⟩ := dL (fun _ _ h => lG h) hlr hlt
    have hgs : g < wr.heap.size := by have := hS g hSg; omega
    obtain ⟨d, hd⟩ : ∃ d, d = l[k] := ⟨_, rfl⟩
    have hmem : d ∈ l := by rw [hd]; exact List.getElem_mem hlt
    rw [← hd] at htm
    have htk : l.take (k + 1) = l.take k ++ [d] := by rw [hd]; exact List.take_succ_eq_append_getElem hlt
    have hdr : l.drop k = d :: l.drop (k + 1) := by rw [hd]; exact List.drop_eq_getElem_cons hlt
    have hslim := dc_slim (HOKS.out d hmem) (by have := in_sum aZ hmem; omega) (by have := in_sum iZ hmem; omega)
    obtain ⟨lk, hlk⟩ : ∃ lk, lk = l.take k := ⟨_, rfl⟩
    have hlkf : (lk.map iZ).sum ≤ 20000000 := by rw [hlk]; have := sum_takeF iZ l k; omega
    have hlkl : lk.length ≤ k := by rw [hlk, List.length_take]; omega
    rw [← hlk] at hsc hinv hbo hgo htk
    obtain ⟨cs, hcl, hone, rfl, hc1⟩ : ∃ cs : List Value, cs.length = 22 ∧ (∀ u ∈ cs, u.oneCell' = true) ∧ v = .agg cs.toArray ∧ cs[1]? = some (.int .i64 d.line) := by
     obtain ⟨nA, nc, fA, fc, o1, m1, d1, wA1, wn1, wc1, kA1, kn1, kc1, o2, m2, d2, wA2, wn2, wc2, kA2, kn2, kc2, o3, m3, d3, wA3, wn3, wc3, kA3, kn3, kc3, hv⟩ := oJ htm
     refine ⟨_, rfl, ?_, hv, rfl⟩
     intro u hu
     simp only [List.mem_cons, List.not_mem_nil, or_false] at hu
     rcases hu with rfl | rfl | rfl | rfl | rfl | rfl | rfl | rfl | rfl | rfl | rfl | rfl | rfl | rfl | rfl | rfl | rfl | rfl | rfl | rfl | rfl | rfl <;> rfl
    have hrange : wr.rangeAt g (o + k * 22) cs := fun j u hu => hcs j u (by simpa [cellsOf, Value.cells] using hu)
    have rM : (prog.info? 35).map (·.size) = some cs.length := by rw [hcl]; exact cK
    have hone2 : cs.toArray.all (·.oneCell') = true := all_oneCell_toArray hone
    have hcs2 : cs.toArray.size = 22 := by simpa using hcl
    clear hcs
    have HTM := Lib.hid htm
    have sZ := Lib.hid hone2
    have HCS := Lib.hid hcs2
    have HC1 := Lib.hid hc1
    have HSL := Lib.hid hslim
    have HFL := Lib.hid (HSM.out d hmem)
    have HSC1 := Lib.hid hsc
    have HINV := Lib.hid hinv
    have HTK := Lib.hid htk
    have HLK := Lib.hid hlk
    have HGG := Lib.hid (show (r1, r2) = if iP lk d ≠ 0 then (d.line, iP lk d) else je (lk ++ [d]) (l.drop (k + 1)) by rw [hgo.out, hdr, BN])
    have hkI : (k : Int) < (l.length : Int) := by omega
    have hk0 : (0 : Int) ≤ (k : Int) := by omega
    have hbA : ∀ o, Below wr.heap.size wr (wr.alloc o) := fun o => (Below.refl _ _).alloc (Nat.le_refl _) o
    have hln := hsc.lt.1
    have hwl := hsc.wit.lt
    have hcl2 := hsc.con.lt
    have hzl := hsc.byz.lt
    have hkl := hsc.kinds.lt
    have hdl : db < wr.heap.size := by obtain ⟨g, hg, -⟩ := hsc.decls; exact hg.lt
    clear htm hd hlr hone hone2 hcs2 hc1 hslim hsc hinv hst hgo htk hlk hdr
    go_wp2_with (first | (with_reducible refine wpList_load_mid rfl 35 (.tmp 19) rfl g (o + k * 22) rfl cs _ hrange underlying35 rfl rM ?_) | (with_reducible refine dJ _ rfl rfl (.tmp 7) (.tmp 20) rfl wr.heap.size cs.toArray rfl rfl _ (heap_alloc_new wr _) rfl HCS.out sZ.out ?_; intro W5 hr5 hg5) | (with_reducible refine fK _ rfl (.tmp 7) rfl wr.heap.size rfl _ hr5 HCS.out ?_))
    have hb5 : Below wr.heap.size wr W5 := (hbA _).trans (below_grown hg5 (Nat.le_refl _) (by simp))
    have hs5 := hb5.size
    have hz5 : wr.heap.size < W5.heap.size := by have := hg5.size; rw [show (wr.alloc _).heap.size = wr.heap.size + 1 by simp] at this; omega
    have zI : Below w.heap.size w W5 := hbw.trans (hb5.mono hsr)
    have HR5 := Lib.hid hr5
    have HDC := Lib.hid (GD lk d _ W5 S b kb db wb cb zb (nb lk) zn Z (pJ (aS lk)) (aS lk) (HSC1.out.below hb5) (HTM.out.keep (aH hb5)) HSL.out ⟨by have := nb_le lk; omega, by have := uH lk; omega, by unfold dR; have := List.countP_le_length (p := fun d : Dc => decide (d.kind = 4)) (l := lk); omega, by unfold dR; have := List.countP_le_length (p := fun d : Dc => decide (d.kind = 6)) (l := lk); omega⟩ hbo.out HINV.out)
    clear hr5 hg5 hrange
    refine HDC.out.mono ?_
    rintro e w6 ⟨rfl, hbt6, hfin6⟩
    have hr6 := (hbt6.block wr.heap.size (by unfold gM; omega) hz5).trans HR5.out
    have Ib : Below w.heap.size w w6 := zI.trans (hbt6.below (fun g hg => by unfold gM at hg; omega) (by omega))
    obtain ⟨de, hde⟩ : ∃ de, de = iP lk d := ⟨_, rfl⟩
    rw [← hde] at HGG hfin6
    rw [← hde]
    have HDE := Lib.hid hde
    have HF6 := Lib.hid hfin6
    clear hde hfin6
    by_cases hd0 : de = 0
    ·subst hd0
     obtain ⟨zn', Z', hsc6, hinv6⟩ := HF6.out rfl
     have HR6 := Lib.hid hr6
     have HAD := Lib.hid (add_any hsc6 d _ (HTM.out.keep (w' := w6) (fun g hg hl => (hbt6.block g (by have := (HSC1.out.out g hg); unfold gM; omega) (by omega)).trans (hb5.block g hl))) ⟨by have := HSL.out.1; omega, by have := HSL.out.1; omega⟩ HSL.out.2.1 HSL.out.2.2.2.1 (by have := nb_le lk; have := HSL.out.2.2.2.2.1; omega) (by have := uH lk; have := HSL.out.2.2.2.2.1; omega) (by unfold dR; have := List.countP_le_length (p := fun d : Dc => decide (d.kind = 4)) (l := lk); omega) (by unfold dR; have := List.countP_le_length (p := fun d : Dc => decide (d.kind = 6)) (l := lk); omega))
     have HI6 := Lib.hid hinv6
     clear hsc6 hinv6 hr6
     go_wp2_with (with_reducible refine fK _ rfl (.tmp 7) rfl wr.heap.size rfl _ HR6.out HCS.out ?_)
     refine HAD.out.mono ?_
     rintro e w7 ⟨rfl, hsc7, hbt7⟩
     have HS7 := Lib.hid hsc7
     have hbw7 : Below w.heap.size w w7 := Ib.trans (hbt7.below (fun g hg => by unfold AddT at hg; omega) (by have := Ib.size; omega))
     clear hsc7
     go_wp2
     go_roundw
     case rel =>
      refine ⟨k + 1, by omega, by go_num, hbw7, Lib.hid ⟨zn', Z', ?_, ?_⟩, Lib.hid ?_, Lib.hid ?_⟩
      ·rw [HTK.out, nb_snoc, o8, pU, nC, nC, oQ, rF]
       exact HS7.out.mono (by omega)
      ·rw [HTK.out]
       exact DN HI6.out (by rw [← HTK.out]; have := zk (l.take (k + 1)); rw [List.length_take] at this; omega)
      ·rw [HTK.out]
       exact G9 hbo.out HDE.out.symm HSL.out.2.1 (by have := HFL.out; omega)
      ·rw [HTK.out, HGG.out, if_neg (by decide)]
     case measure => simp [intOf]; omega
    ·have hqn : ((de : Int) != 0) = true := jF hd0
     have hli : w6.cell? ⟨wr.heap.size, 1, none⟩ = some (.int .i64 d.line) := by
      rw [cell_of_row w6 _ 1 _ _ _ hr6]
      have := HC1.out
      simpa using this
     have hg2 := HGG.out
     rw [if_pos hd0] at hg2
     have HG1 := Lib.hid (congrArg Prod.fst hg2)
     have HG2 := Lib.hid (congrArg Prod.snd hg2)
     clear hr6 hd0 hg2
     go_wp2
     go_ret2
     have q1 : r1 = d.line := HG1.out
     have q2 : r2 = de := HG2.out
     exact ⟨by rw [q1, q2]; rfl, Ib⟩
   ·obtain rfl : k = l.length := by omega
    have hkI : ¬ (l.length : Int) < (l.length : Int) := by omega
    have hg3 := hgo.out
    rw [List.drop_length, List.take_length] at hg3
    rw [List.take_length] at hsc
    have hcg : je l [] = if aF l = 0 ∨ dR 4 l = 0 then (0, 9) else (0, 0) := rfl
    rw [hcg] at hg3
    obtain ⟨-, -, e2, e3, -, -, -, -, -, -, -⟩ := yx hsc.row
    clear hgo hbo hst hsc hinv hcg
    by_cases hns : aF l = 0
    ·have hnb : ((aF l : Int) == 0) = true := by rw [hns]; rfl
     rw [if_pos (Or.inl hns)] at hg3
     have HG1 := Lib.hid (congrArg Prod.fst hg3)
     have HG2 := Lib.hid (congrArg Prod.snd hg3)
     clear hns hg3
     go_wp2
     go_ret2
     have q1 : r1 = 0 := HG1.out
     have q2 : r2 = 9 := HG2.out
     exact ⟨by rw [q1, q2]; rfl, hbw⟩
    ·have hnb : ((aF l : Int) == 0) = false := by rw [beq_eq_false_iff_ne]; omega
     by_cases hnk : dR 4 l = 0
     ·have hnc : ((dR 4 l : Int) == 0) = true := by rw [hnk]; rfl
      rw [if_pos (Or.inr hnk)] at hg3
      have HG1 := Lib.hid (congrArg Prod.fst hg3)
      have HG2 := Lib.hid (congrArg Prod.snd hg3)
      clear hns hg3 hnk
      go_wp2
      go_ret2
      have q1 : r1 = 0 := HG1.out
      have q2 : r2 = 9 := HG2.out
      exact ⟨by rw [q1, q2]; rfl, hbw⟩
     ·have hnc : ((dR 4 l : Int) == 0) = false := by rw [beq_eq_false_iff_ne]; omega
      rw [if_neg (by omega)] at hg3
      have HG1 := Lib.hid (congrArg Prod.fst hg3)
      have HG2 := Lib.hid (congrArg Prod.snd hg3)
      clear hns hg3 hnk
      go_wp2
      go_ret2
      have q1 : r1 = 0 := HG1.out
      have q2 : r2 = 0 := HG2.out
      exact ⟨by rw [q1, q2]; rfl, hbw⟩
 ·have hqn : ((fe : Int) != 0) = true := jF hf0
  have hr2 := HR.out
  rw [if_pos hf0] at hr2
  have HG1 := Lib.hid (congrArg Prod.fst hr2)
  have HG2 := Lib.hid (congrArg Prod.snd hr2)
  clear hf0 hr2
  go_wp2
  go_ret2
  have q1 : r1 = 0 := HG1.out
  have q2 : r2 = fe := HG2.out
  exact ⟨by rw [q1, q2]; rfl, hb1⟩
end Go.Proofs.YtmohibkomlhlaaaGreatDoor
