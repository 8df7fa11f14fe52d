/- The length of a declaration's text by its size. No condition. The contract of the bJ Size: the size and the depth of a term. Terms of a size up to a bound. The contract of the bJ Few. gX by gen_tform.py. The contract of Check: the line and the error of declarations. Declarations of a size up to a bound. -/
import Derived.Test.YtbmglebipepdmaaGreatDoorPkFmtb
import Derived.Test.YtbmglebipepdmaaGreatDoorPkOpen
import Derived.Test.YtbmglebipepdmaaGreatDoorPkFmta
import Derived.Test.YtbmglebipepdmaaGreatDoorPkTyb
import Derived.Test.YtbmglebipepdmaaGreatDoorPkTya
namespace Go.Proofs.YtbmglebipepdmaaGreatDoor

theorem gN (l : List ByteArray) : l.length ≤ bf l := by
 unfold bf
 induction l with
 |nil => simp
 |cons x r ih => simp only [List.map_cons, List.sum_cons, List.length_cons]; omega
theorem pV (f : Ft) : f.ay.length + f.ak.length + 1 ≤ fC f := by
 have a := gN f.ay
 have b := gN f.ak
 unfold fC; omega
theorem F3 {f : Ft} (h : jG f = true) : (iB f).length ≤ 126 * fC f := by
 have a := nQ h
 have b := pV f
 omega
theorem fts_sum (l : List Ft) (h : ∀ f ∈ l, jG f = true) : Lib.lens (l.map iB) ≤ 126 * (l.map fC).sum ∧ l.length ≤ (l.map fC).sum := by
 induction l with
 |nil => simp [Lib.lens]
 |cons f r ih =>
  have a := F3 (h f (by simp))
  have b := ih (fun q hq => h q (by simp [hq]))
  have c := pV f
  rw [List.map_cons, lens_cons, List.map_cons, List.sum_cons, List.length_cons]
  omega
theorem wJ {l : List Ft} {f : Ft} (h : f ∈ l) : fC f ≤ (l.map fC).sum := by
 induction l with
 |nil => simp at h
 |cons a r ih =>
  rw [List.map_cons, List.sum_cons]
  rcases List.mem_cons.1 h with rfl | h
  ·omega
  ·have := ih h; omega
theorem qj {l : List Dc} {d : Dc} (h : d ∈ l) : bE d ≤ (l.map bE).sum := by
 induction l with
 |nil => simp at h
 |cons a r ih =>
  rw [List.map_cons, List.sum_cons]
  rcases List.mem_cons.1 h with rfl | h
  ·omega
  ·have := ih h; omega
theorem iD (l : List Dc) : l.length ≤ (l.map bE).sum := by
 induction l with
 |nil => simp
 |cons a r ih =>
  rw [List.map_cons, List.sum_cons, List.length_cons]
  have : 1 ≤ bE a := by unfold bE; omega
  omega
theorem yh {d : Dc} (hok : jK d = true) : (fP d).length + 1 ≤ 200 * bE d := by
 have h := wO hok
 have hs : bE d = d.name.size + bf d.names + (d.faults.map fC).sum + au d.term + d.proto.size + au d.read + au d.write + d.use.size + 1 := rfl
 have n1 := gN d.names
 have n2 := fT h.names
 have en : d.name.data.toList.length = d.name.size := by simp
 have eu : d.use.data.toList.length = d.use.size := by simp
 have ep : d.proto.data.toList.length = d.proto.size := by simp
 unfold fP
 rcases sj h with hk | hk | hk | hk | hk | hk | hk
 ·rw [if_pos hk]; simp only [List.length_append, List.length_cons, List.length_nil]; omega
 ·rw [if_neg (by omega), if_pos hk]
  obtain ⟨f1, f2⟩ := fts_sum d.faults (List.all_eq_true.1 h.faults)
  have f3 := join_length_le (d.faults.map iB) [32, 124, 32]
  simp only [List.length_append, List.length_cons, List.length_nil, List.length_map] at f3 ⊢; omega
 ·rw [if_neg (by omega), if_neg (by omega), if_pos hk]
  have ht : iZ d.term = true := by have := h.term; rw [hk] at this; exact this
  have t1 := fM ht
  simp only [List.length_append, List.length_cons, List.length_nil]; omega
 ·rw [if_neg (by omega), if_neg (by omega), if_neg (by omega), if_pos hk]
  obtain ⟨hp, hr, hw, hu⟩ := xK h (by rw [hk]; rfl)
  have t1 := fM hr
  have t2 := fM hw
  simp only [List.length_append, List.length_cons, List.length_nil]; omega
 ·rw [if_neg (by omega), if_neg (by omega), if_neg (by omega), if_neg (by omega), if_pos hk]
  simp only [List.length_append, List.length_cons, List.length_nil]; omega
 ·rw [if_neg (by omega), if_neg (by omega), if_neg (by omega), if_neg (by omega), if_neg (by omega), if_neg (by omega)]
  split
  ·simp only [List.length_append, List.length_cons, List.length_nil]; omega
  ·simp only [List.length_append, List.length_cons, List.length_nil]; omega
 ·rw [if_neg (by omega), if_neg (by omega), if_neg (by omega), if_neg (by omega), if_neg (by omega), if_pos hk]
  simp only [List.length_append, List.length_cons, List.length_nil]; omega
theorem wM (l : List Dc) (h : l.all jK = true) : (dm l).length ≤ 200 * (l.map bE).sum := by
 induction l with
 |nil => simp [dm]
 |cons d r ih =>
  rw [List.all_cons, Bool.and_eq_true] at h
  have a := yh h.1
  have b := ih h.2
  have e : dm (d :: r) = (fP d ++ [10]) ++ dm r := rfl
  rw [e, List.map_cons, List.sum_cons]
  simp only [List.length_append, List.length_cons, List.length_nil]; omega
def aY (d : Dc) : Nat := au d.term + au d.read + au d.write + d.name.size + d.names.length + 10 * d.faults.length + d.proto.size + d.use.size
theorem xI {l : List Dc} {d : Dc} (h : d ∈ l) : aY d ≤ (l.map aY).sum := by
 induction l with
 |nil => simp at h
 |cons a r ih =>
  rw [List.map_cons, List.sum_cons]
  rcases List.mem_cons.1 h with rfl | h
  ·omega
  ·have := ih h; omega
end Go.Proofs.YtbmglebipepdmaaGreatDoor
namespace Go.Proofs.YtbmglebipepdmaaGreatDoor
open Go.RowKit

end Go.Proofs.YtbmglebipepdmaaGreatDoor
namespace Go.Proofs.YtbmglebipepdmaaGreatDoor
open Go.RowKit

end Go.Proofs.YtbmglebipepdmaaGreatDoor
namespace Go.Proofs.YtbmglebipepdmaaGreatDoor
open Go.RowKit

theorem Aj {l : List ByteArray} {x : ByteArray} (h : x ∈ l) : x.size + 1 ≤ bf l := by
 unfold bf
 induction l with
 |nil => cases h
 |cons a r ih =>
  rw [List.map_cons, List.sum_cons]
  rcases List.mem_cons.1 h with rfl | h
  ·omega
  ·have := ih h; omega
theorem in_sum {α : Type} (f : α → Nat) {l : List α} {x : α} (h : x ∈ l) : f x ≤ (l.map f).sum := by
 induction l with
 |nil => cases h
 |cons a r ih =>
  rw [List.map_cons, List.sum_cons]
  rcases List.mem_cons.1 h with rfl | h
  ·omega
  ·have := ih h; omega
theorem rR (l : List ByteArray) : l.length ≤ bf l := by
 unfold bf
 induction l with
 |nil => simp
 |cons a r ih => rw [List.map_cons, List.sum_cons, List.length_cons]; omega
theorem dc_slim {d : Dc} (hok : jK d = true) (hs : bE d ≤ 2000000) (hf : aY d ≤ 30000) : SLim d := by
 have e1 : bE d = d.name.size + bf d.names + (d.faults.map fC).sum + au d.term + d.proto.size + au d.read + au d.write + d.use.size + 1 := rfl
 have e2 : aY d = au d.term + au d.read + au d.write + d.name.size + d.names.length + 10 * d.faults.length + d.proto.size + d.use.size := rfl
 have ho := wO hok
 refine ⟨⟨ho.lo, ho.hi⟩, by unfold maxLen; omega, by unfold maxLen; omega, fun x hx => by have := Aj hx; unfold maxLen; omega, by omega, by omega, fun f hfm => ?_, by omega, by omega, by omega⟩
 have h1 := in_sum fC hfm
 have e3 : fC f = f.name.size + bf f.ay + bf f.ak + 1 := rfl
 have n1 := rR f.ay
 have n2 := rR f.ak
 refine ⟨by omega, by omega, fun x hx => ?_, by unfold maxLen; omega, fun h2 => ?_⟩
 ·rcases List.mem_append.1 hx with hx | hx <;> (have := Aj hx; unfold maxLen; omega)
 ·have hof := List.all_eq_true.1 ho.faults f hfm
  unfold jG at hof
  rw [if_neg (by omega), if_pos h2] at hof
  simp only [Bool.and_eq_true] at hof
  have b1 := hof.1.1.2
  have b2 := hof.1.2
  unfold small at b1 b2
  simp only [Bool.and_eq_true, decide_eq_true_eq] at b1 b2
  omega
def nb (l : List Dc) : Nat := (l.map fun d => 2 * d.names.length + 1).sum
theorem nb_snoc (l : List Dc) (d : Dc) : nb (l ++ [d]) = nb l + d.names.length + 1 + d.names.length := by simp [nb]; omega
theorem nb_le (l : List Dc) : nb l ≤ 2 * (l.map aY).sum + l.length := by
 unfold nb
 induction l with
 |nil => simp
 |cons d r ih =>
  have e2 : aY d = au d.term + au d.read + au d.write + d.name.size + d.names.length + 10 * d.faults.length + d.proto.size + d.use.size := rfl
  rw [List.map_cons, List.sum_cons, List.map_cons, List.sum_cons, List.length_cons]; omega
theorem zS (l : List Dc) : aN l ≤ (l.map aY).sum := by
 unfold aN
 induction l with
 |nil => simp
 |cons d r ih =>
  have e2 : aY d = au d.term + au d.read + au d.write + d.name.size + d.names.length + 10 * d.faults.length + d.proto.size + d.use.size := rfl
  rw [List.map_cons, List.sum_cons, List.map_cons, List.sum_cons]; split <;> omega
theorem Ef (l : List Dc) : (bQ l).length ≤ l.length := by
 unfold bQ
 induction l with
 |nil => simp
 |cons d r ih =>
  have h1 : (if d.kind = 2 then [d.name] else []).length ≤ 1 := by split <;> simp
  rw [List.flatMap_cons, List.length_append, List.length_cons]
  omega
theorem GK (pre r : List Dc) (d : Dc) : jb pre (d :: r) = if jv pre d ≠ 0 then (d.line, jv pre d) else jb (pre ++ [d]) r := rfl
theorem sum_takeF {α : Type} (f : α → Nat) (l : List α) (k : Nat) : ((l.take k).map f).sum ≤ (l.map f).sum := by
 conv => rhs; rw [← List.take_append_drop k l, List.map_append, List.sum_append]
 omega

set_option maxRecDepth 100000 in
set_option maxHeartbeats 4000000 in
theorem check_any (l : List Dc) (A : Option Addr) (c : Nat) (w : World) (S : Nat → Prop) (hl : aT (fo w S) w S 22 A l) (hS : ∀ g, S g → g < w.heap.size) (hsz : (l.map bE).sum ≤ 2000000) (oo : (l.map aY).sum ≤ 30000) (hll : l.length ≤ 1000000)
  (hv : Calls Tryz.prog 35 #[.slice A l.length c] w fun e w' => e = .returned (.int .i64 (bH l).2) ∧ Below w.heap.size w w') :
  Calls Tryz.prog 12 #[.slice A l.length c] w fun e w' => e = .returned (.tuple #[.int .i64 (dP l).1, .int .i64 (dP l).2]) ∧ Below w.heap.size w w' := by
 have HV := Lib.hid hv
 have HLS := Lib.hid hl
 obtain ⟨r, hr⟩ : ∃ r, r = dP l := ⟨_, rfl⟩
 rw [← hr]
 obtain ⟨r1, r2⟩ := r
 obtain ⟨fe, hfe⟩ : ∃ fe, fe = (bH l).2 := ⟨_, rfl⟩
 rw [← hfe] at HV
 unfold dP at hr
 rw [← hfe] at hr
 have HR := Lib.hid hr
 have HFE := Lib.hid hfe
 clear hl hv hr hfe
 go_enter Tryz.func12, Tryz.ntmps12
 go_wp2_with fail
 refine HV.out.mono ?_
 rintro e w1 ⟨rfl, hb1⟩
 have hs1 := hb1.size
 by_cases hf0 : fe = 0
 ·have hok : l.all jK = true := by
   have h0 := HFE.out.symm.trans hf0
   unfold bH at h0
   by_cases ho : l.all jK = true
   ·exact ho
   ·rw [if_neg ho] at h0; simp at h0
  have HOKS := Lib.hid (List.all_eq_true.1 hok)
  subst hf0
  have hr2 := HR.out
  rw [if_neg (by decide)] at hr2
  have HGO := Lib.hid hr2
  have HEM := Lib.hid (Gj w1 S (fun g hg => by have := hS g hg; omega))
  clear HFE hok hr2 HR HV
  go_wp2_with fail
  refine HEM.out.mono ?_
  rintro e w2 ⟨b, kb, db, wb, cb, zb, rfl, hsc, hb2, hlo⟩
  have HSC := Lib.hid hsc
  have hw2 : Below w.heap.size w w2 := hb1.trans (hb2.mono hs1)
  clear hsc
  go_wp2_with fail
  go_loopw [17] (fun x wr => ∃ k : Nat, k ≤ l.length ∧ x = .int .i64 k ∧ Below w.heap.size w wr ∧ Hid (∃ zn Z, Sc Tryz.prog 65 wr S b kb db wb cb zb (nb (l.take k)) zn (mY (l.take k)) (aN (l.take k)) (eT 4 (l.take k)) (eT 6 (l.take k)) (dA (l.take k)) (dw (l.take k)) (dO 5 (l.take k)) (dO 7 (l.take k)) Z ∧ qy (kN (l.take k)) (bQ (l.take k)) Z zn) ∧
   Hid (Jz (mY (l.take k)) (kN (l.take k)) (vE (bQ (l.take k))) (bQ (l.take k))) ∧ Hid ((r1, r2) = jb (l.take k) (l.drop k))) (fun x _ => l.length - (intOf x).toNat)
  case atStart => exact ⟨0, Nat.zero_le _, rfl, hw2, Lib.hid ⟨0, fun _ => none, HSC.out, MP⟩, Lib.hid byzOk_nil, Lib.hid (by simpa using HGO.out)⟩
  case round =>
   obtain ⟨k, hk, rfl, hbw, hst, hbo, hgo⟩ := hrel
   have hsr := hbw.size
   obtain ⟨zn, Z, hsc, hinv⟩ := hst.out
   by_cases hlt : k < l.length
   ·have hlr := HLS.out.keep (P' := fo wr S) (aA hbw hS) (fun _ _ h => h.keep (aA hbw hS))
    obtain ⟨g, o, v, rfl, hSg, htm, hcs⟩ := fJ (fun _ _ h => jE h) hlr hlt
    have hgs : g < wr.heap.size := by have := hS g hSg; omega
    obtain ⟨d, hd⟩ : ∃ d, d = l[k] := ⟨_, rfl⟩
    have hmem : d ∈ l := by rw [hd]; exact List.getElem_mem hlt
    rw [← hd] at htm
    have htk : l.take (k + 1) = l.take k ++ [d] := by rw [hd]; exact List.take_succ_eq_append_getElem hlt
    have hdr : l.drop k = d :: l.drop (k + 1) := by rw [hd]; exact List.drop_eq_getElem_cons hlt
    have hslim := dc_slim (HOKS.out d hmem) (by have := in_sum bE hmem; omega) (by have := in_sum aY hmem; omega)
    obtain ⟨lk, hlk⟩ : ∃ lk, lk = l.take k := ⟨_, rfl⟩
    have hlkf : (lk.map aY).sum ≤ 30000 := by rw [hlk]; have := sum_takeF aY l k; omega
    have hlkl : lk.length ≤ k := by rw [hlk, List.length_take]; omega
    rw [← hlk] at hsc hinv hbo hgo htk
    obtain ⟨cs, hcl, hone, rfl, hc1⟩ : ∃ cs : List Value, cs.length = 22 ∧ (∀ u ∈ cs, u.oneCell' = true) ∧ v = .agg cs.toArray ∧ cs[1]? = some (.int .i64 d.line) := by
     obtain ⟨nA, nc, fA, fc, o1, m1, d1, wA1, wn1, wc1, kA1, kn1, kc1, o2, m2, d2, wA2, wn2, wc2, kA2, kn2, kc2, o3, m3, d3, wA3, wn3, wc3, kA3, kn3, kc3, hv⟩ := uQ htm
     refine ⟨_, rfl, ?_, hv, rfl⟩
     intro u hu
     simp only [List.mem_cons, List.not_mem_nil, or_false] at hu
     rcases hu with rfl | rfl | rfl | rfl | rfl | rfl | rfl | rfl | rfl | rfl | rfl | rfl | rfl | rfl | rfl | rfl | rfl | rfl | rfl | rfl | rfl | rfl <;> rfl
    have hrange : wr.rangeAt g (o + k * 22) cs := fun j u hu => hcs j u (by simpa [cellsOf, Value.cells] using hu)
    have ru : (Tryz.prog.info? 41).map (·.size) = some cs.length := by rw [hcl]; exact dJ
    have hone2 : cs.toArray.all (·.oneCell') = true := all_oneCell_toArray hone
    have hcs2 : cs.toArray.size = 22 := by simpa using hcl
    clear hcs
    have HTM := Lib.hid htm
    have yA := Lib.hid hone2
    have HCS := Lib.hid hcs2
    have HC1 := Lib.hid hc1
    have HSL := Lib.hid hslim
    have HSC1 := Lib.hid hsc
    have HINV := Lib.hid hinv
    have HTK := Lib.hid htk
    have HLK := Lib.hid hlk
    have HGG := Lib.hid (show (r1, r2) = if jv lk d ≠ 0 then (d.line, jv lk d) else jb (lk ++ [d]) (l.drop (k + 1)) by rw [hgo.out, hdr, GK])
    have hkI : (k : Int) < (l.length : Int) := by omega
    have hk0 : (0 : Int) ≤ (k : Int) := by omega
    have hbA : ∀ o, Below wr.heap.size wr (wr.alloc o) := fun o => (Below.refl _ _).alloc (Nat.le_refl _) o
    have hln := hsc.lt.1
    have hwl := hsc.wit.lt
    have hcl2 := hsc.con.lt
    have hzl := hsc.byz.lt
    have hkl := hsc.kinds.lt
    have hdl : db < wr.heap.size := by obtain ⟨g, hg, -⟩ := hsc.decls; exact hg.lt
    clear htm hd hlr hone hone2 hcs2 hc1 hslim hsc hinv hst hgo htk hlk hdr
    go_wp2_with (first | (with_reducible refine wpList_load_mid rfl 41 (.tmp 19) rfl g (o + k * 22) rfl cs _ hrange Tryz.underlying41 rfl ru ?_) | (with_reducible refine eU _ rfl rfl (.tmp 7) (.tmp 20) rfl wr.heap.size cs.toArray rfl rfl _ (heap_alloc_new wr _) rfl HCS.out yA.out ?_; intro W5 hr5 hg5) | (with_reducible refine eD _ rfl (.tmp 7) rfl wr.heap.size rfl _ hr5 HCS.out ?_))
    have hb5 : Below wr.heap.size wr W5 := (hbA _).trans (below_grown hg5 (Nat.le_refl _) (by simp))
    have hs5 := hb5.size
    have hz5 : wr.heap.size < W5.heap.size := by have := hg5.size; rw [show (wr.alloc _).heap.size = wr.heap.size + 1 by simp] at this; omega
    have Cg : Below w.heap.size w W5 := hbw.trans (hb5.mono hsr)
    have HR5 := Lib.hid hr5
    have HDC := Lib.hid (Mv lk d _ W5 S b kb db wb cb zb (nb lk) zn Z (vE (bQ lk)) (bQ lk) (HSC1.out.below hb5) (HTM.out.keep (aP hb5)) HSL.out ⟨by have := nb_le lk; omega, by have := zS lk; omega, by unfold eT; have := List.countP_le_length (p := fun d : Dc => decide (d.kind = 4)) (l := lk); omega, by unfold eT; have := List.countP_le_length (p := fun d : Dc => decide (d.kind = 6)) (l := lk); omega⟩ hbo.out HINV.out)
    clear hr5 hg5 hrange
    refine HDC.out.mono ?_
    rintro e w6 ⟨rfl, hbt6, hfin6⟩
    have hr6 := (hbt6.block wr.heap.size (by unfold jW; omega) hz5).trans HR5.out
    have yc : Below w.heap.size w w6 := Cg.trans (hbt6.below (fun g hg => by unfold jW at hg; omega) (by omega))
    obtain ⟨de, hde⟩ : ∃ de, de = jv lk d := ⟨_, rfl⟩
    rw [← hde] at HGG hfin6
    rw [← hde]
    have HDE := Lib.hid hde
    have HF6 := Lib.hid hfin6
    clear hde hfin6
    by_cases hd0 : de = 0
    ·subst hd0
     obtain ⟨zn', Z', hsc6, hinv6⟩ := HF6.out rfl
     have HR6 := Lib.hid hr6
     have HAD := Lib.hid (add_any hsc6 d _ (HTM.out.keep (w' := w6) (fun g hg hl => (hbt6.block g (by have := (HSC1.out.out g hg); unfold jW; omega) (by omega)).trans (hb5.block g hl))) ⟨by have := HSL.out.1; omega, by have := HSL.out.1; omega⟩ HSL.out.2.1 HSL.out.2.2.2.1 (by have := nb_le lk; have := HSL.out.2.2.2.2.1; omega) (by have := zS lk; have := HSL.out.2.2.2.2.1; omega) (by unfold eT; have := List.countP_le_length (p := fun d : Dc => decide (d.kind = 4)) (l := lk); omega) (by unfold eT; have := List.countP_le_length (p := fun d : Dc => decide (d.kind = 6)) (l := lk); omega))
     have HI6 := Lib.hid hinv6
     clear hsc6 hinv6 hr6
     go_wp2_with (with_reducible refine eD _ rfl (.tmp 7) rfl wr.heap.size rfl _ HR6.out HCS.out ?_)
     refine HAD.out.mono ?_
     rintro e w7 ⟨rfl, hsc7, hbt7⟩
     have HS7 := Lib.hid hsc7
     have hbw7 : Below w.heap.size w w7 := yc.trans (hbt7.below (fun g hg => by unfold AddT at hg; omega) (by have := yc.size; omega))
     clear hsc7
     go_wp2
     go_roundw
     case rel =>
      refine ⟨k + 1, by omega, by go_num, hbw7, Lib.hid ⟨zn', Z', ?_, ?_⟩, Lib.hid ?_, Lib.hid ?_⟩
      ·rw [HTK.out, nb_snoc, vz, vO, sS, sS, ve, rE]
       exact HS7.out.mono (by omega)
      ·rw [HTK.out]
       exact Jq HI6.out (by rw [← HTK.out]; have := Ef (l.take (k + 1)); rw [List.length_take] at this; omega)
      ·rw [HTK.out]
       exact MO hbo.out HDE.out.symm HSL.out.2.1 HSL.out.2.2.2.2.2.1
      ·rw [HTK.out, HGG.out, if_neg (by decide)]
     case measure => simp [intOf]; omega
    ·have hqn : ((de : Int) != 0) = true := gY hd0
     have hli : w6.cell? ⟨wr.heap.size, 1, none⟩ = some (.int .i64 d.line) := by
      rw [cell_of_row w6 _ 1 _ _ _ hr6]
      have := HC1.out
      simpa using this
     have hg2 := HGG.out
     rw [if_pos hd0] at hg2
     have HG1 := Lib.hid (congrArg Prod.fst hg2)
     have HG2 := Lib.hid (congrArg Prod.snd hg2)
     clear hr6 hd0 hg2
     go_wp2
     go_ret2
     have q1 : r1 = d.line := HG1.out
     have q2 : r2 = de := HG2.out
     exact ⟨by rw [q1, q2]; rfl, yc⟩
   ·obtain rfl : k = l.length := by omega
    have hkI : ¬ (l.length : Int) < (l.length : Int) := by omega
    have hg3 := hgo.out
    rw [List.drop_length, List.take_length] at hg3
    rw [List.take_length] at hsc
    have hcg : jb l [] = if aN l = 0 ∨ eT 4 l = 0 then (0, 9) else (0, 0) := rfl
    rw [hcg] at hg3
    obtain ⟨-, -, e2, e3, -, -, -, -, -, -, -⟩ := Bb hsc.row
    clear hgo hbo hst hsc hinv hcg
    by_cases hns : aN l = 0
    ·have hnb : ((aN l : Int) == 0) = true := by rw [hns]; rfl
     rw [if_pos (Or.inl hns)] at hg3
     have HG1 := Lib.hid (congrArg Prod.fst hg3)
     have HG2 := Lib.hid (congrArg Prod.snd hg3)
     clear hns hg3
     go_wp2
     go_ret2
     have q1 : r1 = 0 := HG1.out
     have q2 : r2 = 9 := HG2.out
     exact ⟨by rw [q1, q2]; rfl, hbw⟩
    ·have hnb : ((aN l : Int) == 0) = false := by rw [beq_eq_false_iff_ne]; omega
     by_cases hnk : eT 4 l = 0
     ·have hnc : ((eT 4 l : Int) == 0) = true := by rw [hnk]; rfl
      rw [if_pos (Or.inr hnk)] at hg3
      have HG1 := Lib.hid (congrArg Prod.fst hg3)
      have HG2 := Lib.hid (congrArg Prod.snd hg3)
      clear hns hg3 hnk
      go_wp2
      go_ret2
      have q1 : r1 = 0 := HG1.out
      have q2 : r2 = 9 := HG2.out
      exact ⟨by rw [q1, q2]; rfl, hbw⟩
     ·have hnc : ((eT 4 l : Int) == 0) = false := by rw [beq_eq_false_iff_ne]; omega
      rw [if_neg (by omega)] at hg3
      have HG1 := Lib.hid (congrArg Prod.fst hg3)
      have HG2 := Lib.hid (congrArg Prod.snd hg3)
      clear hns hg3 hnk
      go_wp2
      go_ret2
      have q1 : r1 = 0 := HG1.out
      have q2 : r2 = 0 := HG2.out
      exact ⟨by rw [q1, q2]; rfl, hbw⟩
 ·have hqn : ((fe : Int) != 0) = true := gY hf0
  have hr2 := HR.out
  rw [if_pos hf0] at hr2
  have HG1 := Lib.hid (congrArg Prod.fst hr2)
  have HG2 := Lib.hid (congrArg Prod.snd hr2)
  clear hf0 hr2
  go_wp2
  go_ret2
  have q1 : r1 = 0 := HG1.out
  have q2 : r2 = fe := HG2.out
  exact ⟨by rw [q1, q2]; rfl, hb1⟩
end Go.Proofs.YtbmglebipepdmaaGreatDoor
