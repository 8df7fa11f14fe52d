/- The walk of the statement TypingText: it returns true. Declarations of a size up to a bound. TypingText: declarations that are written and read again have the same error, in the line of the same declaration, for all declarations; up to a bulk of 1048576 (the second form), the listed tables as the program's text lays them. -/
import Derived.Test.YtbmglebipepdmaaGreatDoorPkPlain
import Derived.Test.YtbmglebipepdmaaGreatDoorPkRound
import Derived.Test.YtbmglebipepdmaaGreatDoorPkTyp
import Derived.Test.YtbmglebipepdmaaGreatDoorPkMem
import Derived.Test.YtbmglebipepdmaaGreatDoorPkPara
import Derived.Test.YtbmglebipepdmaaGreatDoorPkParb
import Derived.Test.YtbmglebipepdmaaGreatDoorPkLex
import Derived.Test.YtbmglebipepdmaaGreatDoorPkPare
import Derived.Test.YtbmglebipepdmaaGreatDoorPkVala
import Derived.Test.YtbmglebipepdmaaGreatDoorPkValb
import Derived.Test.YtbmglebipepdmaaGreatDoorPkValc
import Derived.Test.YtbmglebipepdmaaGreatDoorPkFmta
import Derived.Test.YtbmglebipepdmaaGreatDoorPkFmtb
import Derived.Test.YtbmglebipepdmaaGreatDoorPkNms
import Derived.Test.YtbmglebipepdmaaGreatDoorPkTya
import Derived.Test.YtbmglebipepdmaaGreatDoorPkTyb
import Derived.Test.YtbmglebipepdmaaGreatDoorPkOpen
import Derived.Test.YtbmglebipepdmaaGreatDoorPkCheck
import Derived.Test.YtbmglebipepdmaaGreatDoorPkRefl
import Derived.Test.YtbmglebipepdmaaGreatDoorPkRefa
import Derived.Test.YtbmglebipepdmaaGreatDoorPkRefb
import Derived.Test.YtbmglebipepdmaaGreatDoorPkRefc
import Derived.Test.YtbmglebipepdmaaGreatDoorPkRefd
import Derived.Test.YtbmglebipepdmaaGreatDoorPkEq
import Derived.Test.YtbmglebipepdmaaGreatDoorPkHead
import Derived.Test.YtbmglebipepdmaaGreatDoorPkUses
import Derived.Test.YtbmglebipepdmaaGreatDoorPkAwt
import Derived.Test.YtbmglebipepdmaaGreatDoorRemTyX3
namespace Go.Proofs.YtbmglebipepdmaaGreatDoor
open Go.RowKit

theorem DL (l : List Dc) : ∀ n t : Nat, (numbered n l)[t]? = l[t]?.map fun d : Dc => ({ d with line := ((n + t : Nat) : Int) } : Dc) := by
 induction l with
 |nil => intro n t; rfl
 |cons d r ih =>
  intro n t
  cases t with
  |zero => rfl
  |succ t => rw [numbered, List.getElem?_cons_succ, List.getElem?_cons_succ, ih, show n + 1 + t = n + (t + 1) by omega]
def F4 (k : Nat) (l : List Dc) : List Dc := l.mapIdx fun t d => if t < k then { d with line := ((t + 1 : Nat) : Int) } else d
theorem uw (k : Nat) (l : List Dc) (t : Nat) : (F4 k l)[t]? = l[t]?.map fun d => if t < k then { d with line := ((t + 1 : Nat) : Int) } else d := by
 unfold F4; rw [List.getElem?_mapIdx]
theorem Jt (l : List Dc) : F4 0 l = l := List.ext_getElem? fun t => by rw [uw]; cases l[t]? <;> rfl
theorem numTo_all (l : List Dc) : F4 l.length l = numbered 1 l := List.ext_getElem? fun t => by
 rw [uw, DL]
 cases e : l[t]? with
 |none => rfl
 |some d =>
  have := (List.getElem?_eq_some_iff.1 e).1
  rw [Option.map_some, Option.map_some, if_pos this, Nat.add_comm]
theorem uo (f : Dc → Nat) (hf : ∀ (d : Dc) (x : Int), f { d with line := x } = f d) (l : List Dc) : ∀ n, ((numbered n l).map f).sum = (l.map f).sum := by
 induction l with
 |nil => intro n; rfl
 |cons d r ih => intro n; rw [numbered, List.map_cons, List.map_cons, List.sum_cons, List.sum_cons, ih, hf]
theorem num_step {W : World} {S : Nat → Prop} {b k : Nat} {l : List Dc} (h : pI W S b (F4 k l)) (hth : W.there b 0 (l.length * 22)) (hk : k < l.length) (hSb : ∀ g, S g → g ≠ b) :
  pI (W.setCell ⟨b, k * 22 + 1, none⟩ (.int .i64 ((k : Int) + 1))) S b (F4 (k + 1) l) := by
 have hb := But.setCells (b := b) [.int .i64 ((k : Int) + 1)] (k * 22 + 1) W W (But.refl _ _)
 intro t d ht
 rw [uw] at ht
 obtain ⟨d0, h0, rfl⟩ := Option.map_eq_some_iff.1 ht
 obtain ⟨v, hv, hr⟩ := h t (if t < k then { d0 with line := ((t + 1 : Nat) : Int) } else d0) (by rw [uw, h0]; rfl)
 by_cases htk : t = k
 ·subst htk
  rw [if_neg (Nat.lt_irrefl _)] at hv
  rw [if_pos (Nat.lt_succ_self _)]
  obtain ⟨nA, nc, fA, fc, vt, vr, vw, rfl, h1⟩ := hv
  have hv : fC W S { d0 with line := ((t + 1 : Nat) : Int) } _ := ⟨nA, nc, fA, fc, vt, vr, vw, rfl, h1⟩
  refine ⟨_, hv.keep (hb.kept hSb), fun j u hu => ?_⟩
  by_cases hj : j = 1
  ·subst hj
   have hu : some (Value.int .i64 ((t + 1 : Nat) : Int)) = some u := by simpa [cellsOf, Value.cells] using hu
   rw [← hu]
   have := hth (t * 22 + 1) (by omega)
   rw [Nat.zero_add] at this
   exact World.cell?_setCell_same' _ _ _ this.1
  ·refine Eq.trans (World.cell?_setCell_other _ _ _ _ (fun e => ?_)) (hr j u ?_)
   ·injection e with _ e _; omega
   match j, hj with
   |0, _ => simpa [cellsOf, Value.cells] using hu
   |n + 2, _ => simpa [cellsOf, Value.cells] using hu
 ·rw [show (if t < k + 1 then ({ d0 with line := ((t + 1 : Nat) : Int) } : Dc) else d0) = if t < k then { d0 with line := ((t + 1 : Nat) : Int) } else d0 by by_cases h9 : t < k; rw [if_pos h9, if_pos (by omega)]; rw [if_neg h9, if_neg (by omega)]]
  exact ⟨v, hv.keep (hb.kept hSb), World.rangeAt_setCells_apart hr b (k * 22 + 1) [.int .i64 ((k : Int) + 1)] (Or.inr (by rw [jv hv, List.length_singleton]; omega))⟩

theorem dc_ilim {d : Dc} (hs : bQ d ≤ 1100000) (hf : bI d ≤ 10000) : ILim d := by
 have n1 := iM d.names
 have e1 : bQ d = d.name.size + dP d.names + (d.faults.map ic).sum + av d.term + d.proto.size + av d.read + av d.write + d.use.size + 1 := rfl
 have e2 : bI d = av d.term + av d.read + av d.write + d.name.size + d.names.length + 10 * d.faults.length + d.proto.size + d.use.size := rfl
 exact ⟨by omega, by omega, fun f h => by have := qx f; have := Eh h; exact ⟨by omega, by omega⟩, by omega, by omega, by omega⟩
set_option maxRecDepth 100000 in
theorem KA (A : Option Addr) (c : Nat) (w : World) :
  Calls Tryz.prog 15 #[.slice A 0 c] w fun e w' => ∃ B c', e = .returned (.slice B 0 c') ∧ Below w.heap.size w w' := by
 have heq := fun (W : World) => Lib.run_eql_slice_nil (P := Tryz.prog) W 22 41 A 0 c 0 0 Tryz.underlying22
 rcases A with _ | ad
 all_goals
  go_enter Tryz.func15, Tryz.ntmps15
  go_wp2
  go_ret
  refine ⟨_, _, rfl, ?_⟩
  first | exact Below.refl _ _ | exact (Below.refl _ _).alloc (Nat.le_refl _) _
def NumAt (n : Nat) (W : World) (S : Nat → Prop) (l : List Dc) (A : Option Addr) (k : Nat) : Prop :=
 l = [] ∨ ∃ b, A = some ⟨b, 0, none⟩ ∧ n ≤ b ∧ b < W.heap.size ∧ pI W S b (F4 k l) ∧ W.there b 0 (l.length * 22)
theorem clone_num (l : List Dc) (A : Option Addr) (c : Nat) (w : World) (S : Nat → Prop) (hl : aU (fC w S) w S 22 A l) (hS : ∀ g, S g → g < w.heap.size) (hll : l.length ≤ 10000000) :
  Calls Tryz.prog 15 #[.slice A l.length c] w fun e w' => ∃ B c', e = .returned (.slice B l.length c') ∧ NumAt w.heap.size w' S l B 0 ∧ Below w.heap.size w w' := by
 cases l with
 |nil => exact (KA A c w).mono fun e w' ⟨B, c', h, hb⟩ => ⟨B, c', h, .inl rfl, hb⟩
 |cons d r => exact (EY _ A c w S hl hS (by simp) hll).mono fun e w' ⟨b, c', h, _, h1, h2, h3, h4, hb⟩ => ⟨_, c', h, .inr ⟨b, rfl, h1, h2, by rw [Jt]; exact h3, h4⟩, hb⟩
theorem NumAt.list {n : Nat} {W : World} {S : Nat → Prop} {l : List Dc} {A : Option Addr} (h : NumAt n W S l A l.length) (hS : ∀ g, S g → g < W.heap.size) :
  ∃ T : Nat → Prop, aU (fC W T) W T 22 A (numbered 1 l) ∧ ∀ g, T g → g < W.heap.size := by
 rcases h with rfl | ⟨b, rfl, -, h2, h3, -⟩
 ·exact ⟨fun _ => False, aU.empty _ _ _ _ _, fun _ h => h.elim⟩
 ·rw [numTo_all] at h3
  exact ⟨fun g => S g ∨ g = b, (xH h3).mono (fun g hg _ => Or.inr hg) (by decide) (fun _ _ h => h.mono fun g hg _ => Or.inl hg), fun g hg => hg.elim (hS g) (fun h => by omega)⟩
theorem BK (l : List Dc) : (cB l).2 = 0 → ∀ tx, tx = (cB l).1 → dH 5 tx = (numbered 1 l, 0, 0) := fun h tx e => by rw [e]; exact FW 5 h
set_option maxRecDepth 100000 in
set_option maxHeartbeats 8000000 in
theorem text_law (l : List Dc) (A : Option Addr) (c : Nat) (w : World) (S : Nat → Prop) (hl : aU (fC w S) w S 22 A l) (hS : ∀ g, S g → g < w.heap.size) (hsz : (l.map bQ).sum ≤ 1100000) (hpw : Pow w) :
  Calls Tryz.prog 4 #[.slice A l.length c] w fun e w' => e = .returned (.bool true) ∧ Below w.heap.size w w' := by
 have HP := Lib.hid hpw
 have hll := jH l
 have hL := fun (W : World) (hW : Below w.heap.size w W) => (⟨hl.keep (P' := fC W S) (aA hW hS) (fun _ _ h => h.keep (aA hW hS)), fun g hg => by have := hS g hg; have := hW.size; omega⟩ : aU (fC W S) W S 22 A l ∧ ∀ g, S g → g < W.heap.size)
 have HFW := Lib.hid (fun (W : World) (hW : Below w.heap.size w W) => vK l A c W S (hL W hW).1 (hL W hW).2 hsz)
 have HAW := Lib.hid (fun (W : World) (hW : Below w.heap.size w W) => kM W (hpw.below hW))
 have HFO := Lib.hid (fun (h : decide ((l.map bI).sum ≤ 10000) = true) (W : World) (hW : Below w.heap.size w W) => JY l A c W S (hL W hW).1 (hL W hW).2 hsz (fun d hd => by have := yO hd; have := Ar hd; rw [decide_eq_true_eq] at h; exact ⟨dc_tlim (by omega) (by omega), dc_ilim (by omega) (by omega)⟩) (hpw.below hW))
 have HCL := Lib.hid (fun (W : World) (hW : Below w.heap.size w W) => clone_num l A c W S (hL W hW).1 (hL W hW).2 (by omega))
 have HCK := Lib.hid (fun (h : decide ((l.map bI).sum ≤ 10000) = true) (hn : ¬ (20 : Int) < (l.length : Int)) (W : World) (hW : Below w.heap.size w W) B c' T (h1 : aU (fC W T) W T 22 B (numbered 1 l)) (h2 : ∀ g, T g → g < W.heap.size) => oG (numbered 1 l) B c' W T h1 h2 (by rw [uo bQ (fun _ _ => rfl)]; exact hsz) (by rw [uo bI (fun _ _ => rfl)]; exact of_decide_eq_true h) (by rw [qg]; omega) (hpw.below hW))
 have HPA := Lib.hid (BK l)
 generalize decide ((l.map bI).sum ≤ 10000) = z at HFW HFO HCK
 obtain ⟨⟨tx, e0⟩, hr⟩ : ∃ r, cB l = r := ⟨_, rfl⟩
 rw [hr] at HPA HFO
 have HPR := Lib.hid (fun (h : e0 = 0) (W : World) => show Calls Tryz.prog 14 #[.string (bs tx)] W (Fh (numbered 1 l, 0, 0) W) by have h1 := BH (bs tx) W; rw [gm, HPA.out h _ rfl] at h1; exact h1)
 obtain ⟨⟨ck, ek⟩, hck⟩ : ∃ r, fw (numbered 1 l) = r := ⟨_, rfl⟩
 rw [hck] at HCK
 have hnl := qg l 1
 unfold Fh at HPR
 rw [hnl] at HPR HCK
 have HS := Lib.hid hS
 have hw := Below.refl w.heap.size w
 clear hl hsz hL hpw HPA hr hck hnl hS
 have G := Lib.hid (fun W (hW : Below w.heap.size w W) g (hg : S g) => Nat.lt_of_lt_of_le (HS.out g hg) hW.size)
 go_enter Tryz.func4, Tryz.ntmps4
 rcases (by omega : (20 : Int) < (l.length : Int) ∨ ¬ (20 : Int) < (l.length : Int)) with h20 | h20
 case' inr => cases z
 case' inl | inr.false =>
  go_wp2_with (first
   |((with_reducible refine (HAW.out _ hw).mono ?_); rintro e W1 ⟨rfl, h⟩; have hw := hw.trans (h.mono hw.size))
   |((with_reducible refine (HFW.out _ hw).mono ?_); rintro e W1 ⟨rfl, h⟩; have hw := hw.trans (h.mono hw.size)))
  go_ret
  exact ⟨rfl, hw⟩
 go_upto_region 4 with (first
   |((with_reducible refine (HAW.out _ hw).mono ?_); rintro e W1 ⟨rfl, h⟩; have hw := hw.trans (h.mono hw.size))
   |((with_reducible refine (HFW.out _ hw).mono ?_); rintro e W1 ⟨rfl, h⟩; have hw := hw.trans (h.mono hw.size))
   |((with_reducible refine (HFO.out (by trivial) _ hw).mono ?_); rintro e W1 ⟨rfl, h⟩; have hw := hw.trans (h.mono hw.size)))
 by_cases he : e0 = 0
 case neg =>
  have hne : ((e0 : Int) != 0) = true := gL he
  go_wp2
  go_ret
  exact ⟨rfl, hw⟩
 have hP := Lib.hid (HPR.out he)
 subst he
 clear HPR HFO HFW HAW
 go_upto_region 7 with ((with_reducible refine (hP.out _).mono ?_); rintro e W6 ⟨A6, c6, rfl, hc6, hl6, h6⟩; have hw6 := hw.trans (h6.mono hw.size))
 have HL6 := Lib.hid (show aU (fC W6 (fun g => g < W6.heap.size)) W6 (fun g => g < W6.heap.size) 22 A6 (numbered 1 l) from hl6.mono (fun g _ h => h) (by decide) (fun _ _ h => h.mono fun g _ h => h))
 clear hl6 h6 hw
 have hw := hw6
 go_upto_region 9 with ((with_reducible refine (HCL.out _ hw6).mono ?_); rintro e W7 ⟨B, c7, rfl, hn7, h7⟩; have hw := hw6.trans (h7.mono hw6.size))
 have HN7 := Lib.hid hn7
 clear hn7
 go_loopw [44] (fun x wr => ∃ k : Nat, k ≤ l.length ∧ x = .int .i64 k ∧ Hid (NumAt W6.heap.size wr S l B k) ∧ But (fun g => W6.heap.size ≤ g) W7 wr) (fun x _ => l.length - (intOf x).toNat)
 case atStart => exact ⟨0, Nat.zero_le _, rfl, HN7, But.refl _ _⟩
 case round =>
 obtain ⟨k, hk, rfl, hn, hbt⟩ := hrel
 by_cases hlt : k < l.length
 ·rcases hn.out with rfl | ⟨b, rfl, hb1, hb2, hre, hth⟩
  ·exact absurd hlt (by simp)
  have hkI : (k : Int) < (l.length : Int) := by omega
  have hk0 : (0 : Int) ≤ (k : Int) := by omega
  have h9 := hth (k * 22 + 1) (by omega)
  rw [Nat.zero_add] at h9
  obtain ⟨u9, hu9⟩ := Option.isSome_iff_exists.1 h9.1
  have hf9 := h9.2
  have HS9 := Lib.hid (num_step hre hth hlt (fun g hg e => by have := HS.out g hg; have := hw6.size; omega))
  have HTH := Lib.hid hth
  clear hre hth h9
  go_wp2
  go_roundw
  case rel => exact ⟨k + 1, by omega, by go_num, Lib.hid (.inr ⟨b, rfl, hb1, by simpa using hb2, HS9.out, World.there_setCells HTH.out b (k * 22 + 1) [_]⟩), hbt.setCell hb1 _ _⟩
  case measure => simp [intOf]; omega
 obtain rfl : k = l.length := by omega
 have hkI : ¬ (l.length : Int) < (l.length : Int) := by omega
 have hwr : Below w.heap.size w wr := hw.trans (hbt.below (fun g h => Nat.le_trans hw6.size h) hw.size)
 obtain ⟨T, hT, hTl⟩ := hn.out.list (G.out wr hwr)
 have HK1 := Lib.hid (HCK.out (by trivial) h20 wr hwr B c7 T hT hTl)
 have hk8 : Kept (fun g => g < W6.heap.size) W6 wr := (Ag h7).trans (hbt.kept (fun g hg h => by omega)) h7.size
 have HL8 := Lib.hid (HL6.out.keep (P' := fC wr (fun g => g < W6.heap.size)) hk8 (fun _ _ h => h.keep hk8))
 have hz6 : W6.heap.size ≤ wr.heap.size := Nat.le_trans h7.size hbt.size
 clear hT hTl hn HN7 hk8
 go_wp2_with (first
  |((with_reducible refine HK1.out.mono ?_); rintro e W8 ⟨rfl, h8⟩; have hw8 := hwr.trans (h8.mono hwr.size); have HK2 := Lib.hid (HCK.out (by trivial) h20 W8 hw8 A6 c6 (fun g => g < W6.heap.size) (HL8.out.keep (aQ h8) (fun _ _ h => h.keep (aQ h8))) (fun g hg => by have := h8.size; omega)); clear HK1)
  |((with_reducible refine HK2.out.mono ?_); rintro e W9 ⟨rfl, h9⟩))
 go_ret
 exact ⟨by simp, hw8.trans (h9.mono hw8.size)⟩
end Go.Proofs.YtbmglebipepdmaaGreatDoor
namespace Go.Proofs.YtbmglebipepdmaaGreatDoor.tytext
open Go.ChangeShapes Go.WideShapes Go.ChangeAt Go.RowKit

set_option maxRecDepth 100000 in
theorem contract (H : Type) (enc : TypeId × Value → H) (W : World) (base : Nat) (args : Array Value) (ds gs : List (DataW H)) (before : List MemPlace)
  (hval : ∀ (j : Nat) t v, Tryz.f4.params[j]? = some t → args[j]? = some v → Value.okWide Tryz.prog W .any base t v)
  (hW : DataW.Whole enc Tryz.prog Tryz.f4.params.toList Rows.typingTextSpec.vars false W args.toList ds gs before) (hL : laidMetH Tryz.prog Rows.typingTextUptoRow.laid W) (hk : Rows.uptoSmall H (ds ++ gs) = true) :
  Calls Tryz.prog 4 args W fun e W' => ∃ v, e = .returned v ∧ Rows.typingTextSpec.post enc Tryz.prog Tryz.f4 false true false false W args v W' := by
 have hW' := hW
 obtain ⟨p, q, hA0, hV, rfl, hfz, hnd⟩ := hW
 have hA : DataW.TrodAll enc Tryz.prog W 0 (fun _ => true) true Tryz.f4.params.toList args.toList ds p := hA0
 rw [Tryz.params4] at hA hval
 obtain ⟨v0, vs0, d0, ds0, p0, q0, hargs, rfl, rfl, h0, r0⟩ := trodAll_cons hA
 obtain ⟨rfl, rfl, rfl⟩ := trodAll_nil r0
 obtain rfl : args = #[v0] := by cases args; simp_all
 obtain ⟨rfl, rfl⟩ := trodVars_none hV
 clear hA0
 have o0 := hval 0 22 v0 rfl rfl
 obtain ⟨A, c, l, rfl, hl, hlc, hsz⟩ := qP o0 h0
 have hbk := mD hk
 simp only [List.append_nil, Rows.uptoBulkAll] at hbk
 refine (text_law l A c W (· < W.heap.size) hl (fun g h => h) (by omega) (kz hL)).mono fun e W' hh => ?_
 rw [hh.1]
 exact ⟨_, rfl, oD (by kernel_rfl) rfl rfl hW' rfl hh.2⟩

set_option maxRecDepth 100000 in
theorem reads (os : Os) {H : Type} (enc : TypeId × Value → H) : ∃ places, DataW.whole enc Tryz.prog ((gY os).forCall (fun _ _ => 0) ⟨#[], #[.slice none 0 0], []⟩).memory Tryz.f4.params.toList Rows.typingTextSpec.vars false (#[.slice none 0 0] : Array Value).toList 8 = some ([.nil], [], places) :=
 ⟨[], by kernel_rfl⟩

set_option maxRecDepth 100000 in
theorem lifted (os : Os) (started : os.Started) (H : Type) (enc : TypeId × Value → H) (F : Stop.Interp) :
  ReturnsInHanded {} Tryz.checked os 4 .any ((Rows.OpenSpec.upto Rows.typingTextSpec).preRow enc Tryz.prog Tryz.f4 Rows.typingTextUptoRow.domain false Rows.typingTextUptoRow.laid) (((Rows.OpenSpec.upto Rows.typingTextSpec).at F).post enc Tryz.prog Tryz.f4 false true false false) := by
 obtain ⟨places, hx⟩ := reads os enc
 refine returnsInHanded_of_row (C := Tryz.checked) (s := Rows.OpenSpec.upto Rows.typingTextSpec) qN started (by kernel_rfl) Tryz.func4
  (witness_row_at (enc := enc) (C := Tryz.checked) false (gY os) #[.slice none 0 0] rfl (by kernel_rfl) (by kernel_rfl) (by kernel_rfl)
   (OpenSpec.preRow_of_cond 8 hx (by kernel_rfl) (fun k hk => by cases hk; kernel_rfl) (by kernel_rfl) (qX os _))) ?_
 intro W base args ds gs before hval hW _ hcond _ hL _ _
 exact contract H enc W base args ds gs before hval hW hL (hcond _ rfl)

theorem said : Rows.TypingTextUptoSaid :=
 OpenClaim.holds_of_cond 4 Tryz.f4 rfl rfl rfl rfl rfl rfl rfl ⟨rfl, rfl, rfl, rfl, rfl⟩ rfl rfl rfl rfl rfl (by kernel_rfl) Tryz.func4 (by kernel_rfl)
  (of_decide_eq_true (by kernel_rfl)) (by unfold Func.isWrapper; first | (rw [if_pos (by decide +kernel)]; kernel_rfl) | (rw [if_neg (by decide +kernel)]; exact ⟨rfl, rfl⟩))
  (fun os started H enc _ F => by rw [OpenClaim.pre_eq_preRow]; exact lifted os started H enc F)

set_option maxRecDepth 100000 in
theorem plain (f : FuncId) (fn : Func) (hf : Tryz.pinned.checked.prog.funcNamed "sederunt/sederuntlaw24.TypingText" = some f) (hfn : Tryz.pinned.checked.prog.funcs[f]? = some fn) :
  false = Tryz.pinned.checked.prog.looks [] ∧ ∀ (j : Nat) t, fn.params[j]? = some t → Tryz.pinned.checked.prog.wantsStandIn t = false := by
 obtain rfl : f = 4 := Option.some.inj ((show Tryz.prog.funcNamed "sederunt/sederuntlaw24.TypingText" = some 4 by kernel_rfl).symm.trans hf) |>.symm
 obtain rfl : fn = Tryz.f4 := (Option.some.inj (Tryz.func4.symm.trans hfn)).symm
 refine ⟨by kernel_rfl, fun j t ht => ?_⟩
 rw [Tryz.params4] at ht
 have hm : t ∈ [22] := by simpa using Array.mem_of_getElem? ht
 have hall : ([22].all fun u => !Tryz.prog.wantsStandIn u) = true := by kernel_rfl
 exact (show Tryz.prog.wantsStandIn t = false by simpa using List.all_eq_true.1 hall t hm)

theorem card : Rows.TypingTextUptoCardSaid :=
 Claim7.holds_tied_plain_at .later [] _ _ _ _ said (fun _ h => by cases h) (by kernel_rfl) (fun _ h => by cases h) typingTextUpto_row_tie rfl ⟨rfl, rfl⟩ (by kernel_rfl) rfl plain (by kernel_rfl)
#print axioms card
end Go.Proofs.YtbmglebipepdmaaGreatDoor.tytext
