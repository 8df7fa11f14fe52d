/- The contracts of the reference's tests of names and numbers: IsName of both packages, small, all, blank. The contract of the reference's test of terms, IsTerm. Printed by gen_isterm.py. -/
import Derived.Test.YtipicaoinnblpaaGreatDoorPkRefl
import Derived.Test.YtipicaoinnblpaaGreatDoorPkRes
import Derived.Test.YtipicaoinnblpaaGreatDoorPkValb
import Derived.Test.YtipicaoinnblpaaGreatDoorPkFmta
namespace Go.Proofs.YtipicaoinnblpaaGreatDoor
open Go.RowKit

theorem lexName_eq (s : ByteArray) (h0 : 0 < s.size) : lexName s.data.toList = (decide (s.size ≤ 24) && isLetter s[0].toNat && decide (pre isCont s.data.toList = s.size)) := by
  have e : s.data.toList = s[0] :: s.data.toList.drop 1 := drop_get s 0 h0
  have hl : s.data.toList.length = s.size := by simp
  rw [← hl]
  generalize s.data.toList.drop 1 = r at e
  rw [e]
  rw [Bool.eq_iff_iff]
  simp [lexName]

set_option maxRecDepth 100000 in
set_option maxHeartbeats 4000000 in
theorem isName6 (s : ByteArray) (w : World) : Calls Tryz.prog 137 #[.string s] w fun e w' => e = .returned (.bool (lexName s.data.toList)) ∧ w = w' := by
  by_cases h0 : 0 < s.size
  · have hne := toList_isEmpty h0
    have hEq := lexName_eq s h0
    by_cases h24 : 24 < s.size
    · have h24I : (24 : Int) < (s.size : Int) := by omega
      have E := Lib.hid (show lexName s.data.toList = false by rw [hEq]; simp; omega)
      clear hEq
      go_enter Tryz.func137, Tryz.ntmps137
      go_wp2
      go_ret
      exact ⟨by rw [E.out]; rfl, rfl⟩
    · have h24I : ¬ (24 : Int) < (s.size : Int) := by omega
      have h0I : (0 : Int) < (s.size : Int) := by omega
      have hl0 := letter_ref s[0].toNat w
      cases hl : isLetter s[0].toNat
      · rw [hl] at hl0
        have HC := Lib.hid hl0
        have E := Lib.hid (show lexName s.data.toList = false by rw [hEq, hl]; simp)
        clear hEq hl hl0
        go_enter Tryz.func137, Tryz.ntmps137
        go_wp2_with fail
        refine HC.out.mono ?_
        rintro e w' ⟨rfl, rfl⟩
        go_wp2
        go_ret
        exact ⟨by rw [E.out]; rfl, rfl⟩
      · rw [hl] at hl0
        have HC := Lib.hid hl0
        obtain ⟨n, hn⟩ : ∃ n, n = pre isCont s.data.toList := ⟨_, rfl⟩
        have hplen := pre_le isCont s.data.toList
        rw [show s.data.toList.length = s.size by simp, ← hn] at hplen
        have E := Lib.hid (show lexName s.data.toList = decide (n = s.size) by rw [hEq, hl, ← hn]; simp; omega)
        have HPN := Lib.hid hn
        have HCA := Lib.hid (fun k (h : k < s.size) (hk : n = k + pre isCont (s.data.toList.drop k)) => (show k < n ↔ isCont s[k].toNat = true by rw [hn] at hk ⊢; exact cont_at s k h hk))
        have HYES := Lib.hid (fun k (h : k < s.size) (hc : isCont s[k].toNat = true) => pre_drop_yes isCont s k h hc)
        clear hEq hl hl0 hn
        go_enter Tryz.func137, Tryz.ntmps137
        go_wp2_with fail
        refine HC.out.mono ?_
        rintro e w' ⟨rfl, rfl⟩
        go_wp2
        go_loop [3] (fun x => ∃ k : Nat, k ≤ n ∧ x = .int .i64 k ∧ Hid (n = k + pre isCont (s.data.toList.drop k))) (fun x => s.size - (intOf x).toNat)
        case atStart => exact ⟨0, Nat.zero_le _, rfl, by show n = 0 + pre isCont (s.data.toList.drop 0); rw [HPN.out]; simp⟩
        case round =>
          obtain ⟨k, hk, rfl, hpre⟩ := hrel
          by_cases hlt : k < s.size
          · have hkI : (k : Int) < (s.size : Int) := by omega
            have hk0 : (0 : Int) ≤ (k : Int) := by omega
            have hlc := letter_ref s[k].toNat w
            have hdc := digit_ref s[k].toNat w
            have hcc := HCA.out k hlt hpre.out
            cases hc : isCont s[k].toNat
            · have hkn : ¬ k < n := fun h => by rw [hcc.1 h] at hc; simp at hc
              have E2 := Lib.hid (show lexName s.data.toList = false by rw [E.out]; simp; omega)
              unfold isCont at hc
              rw [Bool.or_eq_false_iff] at hc
              rw [hc.1] at hlc
              rw [hc.2] at hdc
              have HLC := Lib.hid hlc
              have HDC := Lib.hid hdc
              clear hc hlc hdc hcc
              go_wp2_with fail
              refine HLC.out.mono ?_
              rintro e w' ⟨rfl, rfl⟩
              go_wp2_with fail
              refine HDC.out.mono ?_
              rintro e w' ⟨rfl, rfl⟩
              go_wp2
              go_ret
              exact ⟨by rw [E2.out]; rfl, rfl⟩
            · have hkn := hcc.2 hc
              have HPY := Lib.hid (HYES.out k hlt hc)
              unfold isCont at hc
              cases hll : isLetter s[k].toNat
              · rw [hll] at hc hlc
                rw [Bool.false_or] at hc
                rw [hc] at hdc
                have HLC := Lib.hid hlc
                have HDC := Lib.hid hdc
                clear hlc hdc hc hll hcc
                go_wp2_with fail
                refine HLC.out.mono ?_
                rintro e w' ⟨rfl, rfl⟩
                go_wp2_with fail
                refine HDC.out.mono ?_
                rintro e w' ⟨rfl, rfl⟩
                go_wp2
                go_round
                case rel =>
                  refine ⟨k + 1, by omega, by go_num, ?_⟩
                  show n = k + 1 + pre isCont (s.data.toList.drop (k + 1))
                  have := HPY.out; have := hpre.out; omega
                case measure => simp [intOf]; omega
              · rw [hll] at hlc
                have HLC := Lib.hid hlc
                clear hlc hdc hc hll hcc
                go_wp2_with fail
                refine HLC.out.mono ?_
                rintro e w' ⟨rfl, rfl⟩
                go_wp2
                go_round
                case rel =>
                  refine ⟨k + 1, by omega, by go_num, ?_⟩
                  show n = k + 1 + pre isCont (s.data.toList.drop (k + 1))
                  have := HPY.out; have := hpre.out; omega
                case measure => simp [intOf]; omega
          · have hkI : ¬ (k : Int) < (s.size : Int) := by omega
            have E2 := Lib.hid (show lexName s.data.toList = true by rw [E.out]; simp; omega)
            go_wp2
            go_ret
            exact ⟨by rw [E2.out]; rfl, rfl⟩
  · obtain rfl := size_zero (show s.size = 0 by omega)
    go_enter Tryz.func137, Tryz.ntmps137
    go_wp2
    go_ret
    exact ⟨rfl, rfl⟩

set_option maxHeartbeats 1000000 in
theorem isName_ref (s : ByteArray) (w : World) : Calls Tryz.prog 92 #[.string s] w fun e w' => e = .returned (.bool (okName s)) ∧ Below w.heap.size w w' := by
  have hl := isName6 s w
  have hr := reserved_rd s w
  unfold okName
  cases h : lexName s.data.toList
  · rw [h] at hl
    have HL := Lib.hid hl
    clear hl hr h
    go_enter Tryz.func92, Tryz.ntmps92
    go_wp2_with fail
    refine HL.out.mono ?_
    rintro e w' ⟨rfl, rfl⟩
    go_wp2
    go_ret
    exact ⟨rfl, Below.refl _ _⟩
  · rw [h] at hl
    have HL := Lib.hid hl
    have HR := Lib.hid hr
    clear hl hr h
    go_enter Tryz.func92, Tryz.ntmps92
    go_wp2_with fail
    refine HL.out.mono ?_
    rintro e w' ⟨rfl, rfl⟩
    go_wp2_with fail
    refine HR.out.mono ?_
    rintro e w' ⟨rfl, hb⟩
    go_wp2
    go_ret
    exact ⟨by rw [Bool.true_and]; rfl, hb⟩

set_option maxHeartbeats 1000000 in
theorem small_ref (n : Int) (w : World) : Calls Tryz.prog 91 #[.int .i64 n] w fun e w' => e = .returned (.bool (small n)) ∧ w = w' := by
  have key : ∀ r : Bool, (r = true ↔ (0 ≤ n ∧ n ≤ 100000)) → r = small n := by
    intro r h
    rw [Bool.eq_iff_iff, h]
    simp [small]
  have HK := Lib.hid key
  clear key
  go_enter Tryz.func91, Tryz.ntmps91
  go_wp2
  all_goals go_ret
  all_goals refine ⟨congrArg (fun b => Ending.returned (.bool b)) (HK.out _ ?_), rfl⟩
  all_goals simp
  all_goals omega

set_option maxRecDepth 100000 in
set_option maxHeartbeats 1000000 in
theorem all_ref (l : List ByteArray) (A : Option Addr) (c : Nat) (w : World) (S : Nat → Prop) (h : SeesIn w S 1 A l.length (l.map Value.string)) (hS : ∀ g, S g → g < w.heap.size) (hl : l.length ≤ 1000000000000) :
    Calls Tryz.prog 107 #[.slice A l.length c] w fun e w' => e = .returned (.bool (okNames l)) ∧ Below w.heap.size w w' := by
  have H := Lib.hid h
  clear h
  go_enter Tryz.func107, Tryz.ntmps107
  go_wp2
  go_loopw [3] (fun x wr => ∃ k : Nat, k ≤ l.length ∧ x = .int .i64 k ∧ Below w.heap.size w wr ∧ Hid (okNames l = okNames (l.drop k))) (fun x _ => l.length - (intOf x).toNat)
  case atStart => exact ⟨0, Nat.zero_le _, rfl, Below.refl _ _, rfl⟩
  case round =>
    obtain ⟨k, hk, rfl, hb, hd⟩ := hrel
    by_cases hlt : k < l.length
    · obtain ⟨g1, o1, rfl, hS1, k1⟩ := one_cell (H.out.keep (kept_of hb hS)) hlt
      have hg1 : g1 < wr.heap.size := World.block_lt_of_cell? wr _ k1
      have hdk : okNames (l.drop k) = (okName l[k] && okNames (l.drop (k + 1))) := by rw [List.drop_eq_getElem_cons hlt]; rfl
      generalize l[k] = u at k1 hdk
      have hn := isName_ref u wr
      have hkI : (k : Int) < (l.length : Int) := by omega
      have hk0 : (0 : Int) ≤ (k : Int) := by omega
      cases hu : okName u
      · rw [hu] at hn hdk
        have HN := Lib.hid hn
        have E := Lib.hid (show okNames l = false by rw [hd.out, hdk]; rfl)
        clear hn hdk hu
        go_wp2_with fail
        refine HN.out.mono ?_
        rintro e w' ⟨rfl, hb2⟩
        go_wp2
        go_ret
        exact ⟨by rw [E.out]; rfl, hb.trans (hb2.mono hb.size)⟩
      · rw [hu] at hn hdk
        have HN := Lib.hid hn
        have E := Lib.hid (show okNames l = okNames (l.drop (k + 1)) by rw [hd.out, hdk]; rfl)
        clear hn hdk hu
        go_wp2_with fail
        refine HN.out.mono ?_
        rintro e w' ⟨rfl, hb2⟩
        go_wp2
        go_roundw
        case rel => exact ⟨k + 1, by omega, by go_num, hb.trans (hb2.mono hb.size), E.out⟩
        case measure => simp [intOf]; omega
    · obtain rfl : k = l.length := by omega
      have hkI : ¬ (l.length : Int) < (l.length : Int) := by omega
      have E := Lib.hid (show okNames l = true by rw [hd.out, List.drop_length]; rfl)
      go_wp2
      go_ret
      exact ⟨by rw [E.out]; rfl, hb⟩

set_option maxHeartbeats 2000000 in
theorem blank_ref (op need : Int) (nm : ByteArray) (wA kA : Option Addr) (wn wc kn kc : Nat) (w : World) (hw : wn ≤ 1000000000000) (hk : kn ≤ 1000000000000) :
    Calls Tryz.prog 108 #[.agg #[.int .i64 op, .string nm, .int .i64 need, .slice wA wn wc, .slice kA kn kc]] w fun e w' => e = .returned (.bool (decide (op = 0) && decide (nm.size = 0) && (decide (need = 0) && decide (wn + kn = 0)))) ∧ Below w.heap.size w w' := by
  have hb : ∀ o, Below w.heap.size w (w.alloc o) := fun o => (Below.refl _ _).alloc (Nat.le_refl _) o
  by_cases ho : op = 0
  · subst ho
    by_cases hm : nm.size = 0
    · obtain rfl := size_zero hm
      by_cases h0 : need = 0
      · subst h0
        have hz : (((wn : Int) + (kn : Int)) == 0) = decide (wn + kn = 0) := by rw [Bool.eq_iff_iff]; simp; omega
        have e : (decide ((0 : Int) = 0) && decide ((⟨#[]⟩ : ByteArray).size = 0) && (decide ((0 : Int) = 0) && decide (wn + kn = 0))) = decide (wn + kn = 0) := rfl
        have HZ := Lib.hid hz
        rw [e]
        clear e hz
        go_enter Tryz.func108, Tryz.ntmps108
        go_wp2
        go_ret
        refine ⟨?_, hb _⟩
        rw [← HZ.out]; rfl
      · have hz : (need == 0) = false := by rw [beq_eq_false_iff_ne]; exact h0
        have e : (decide ((0 : Int) = 0) && decide ((⟨#[]⟩ : ByteArray).size = 0) && (decide (need = 0) && decide (wn + kn = 0))) = false := by simp [h0]
        rw [e]
        clear e h0
        go_enter Tryz.func108, Tryz.ntmps108
        go_wp2
        go_ret
        exact ⟨rfl, hb _⟩
    · have hne := toList_isEmpty (show 0 < nm.size by omega)
      have e : (decide ((0 : Int) = 0) && decide (nm.size = 0) && (decide (need = 0) && decide (wn + kn = 0))) = false := by simp [hm]
      rw [e]
      clear e
      go_enter Tryz.func108, Tryz.ntmps108
      go_wp2
      go_ret
      exact ⟨rfl, hb _⟩
  · have hz : (op == 0) = false := by rw [beq_eq_false_iff_ne]; exact ho
    have e : (decide (op = 0) && decide (nm.size = 0) && (decide (need = 0) && decide (wn + kn = 0))) = false := by simp [ho]
    rw [e]
    clear e
    go_enter Tryz.func108, Tryz.ntmps108
    go_wp2
    go_ret
    exact ⟨rfl, hb _⟩
end Go.Proofs.YtipicaoinnblpaaGreatDoor
namespace Go.Proofs.YtipicaoinnblpaaGreatDoor
open Go.RowKit

theorem hd1 (nm : ByteArray) (nd : Int) (ws : List Int) (ks : List Tm) : okHead (.mk 1 nm nd ws ks) = (okName nm && (decide (nd = 0) && decide (ws.length + ks.length = 0))) := rfl
theorem hd6 (nm : ByteArray) (nd : Int) (ws : List Int) (ks : List Tm) : okHead (.mk 6 nm nd ws ks) = ((okName nm || nm == (⟨#[115, 101, 114, 118, 101, 114, 115]⟩ : ByteArray)) && (decide (nd = 0) && decide (ws.length + ks.length = 0))) := rfl
theorem hd7 (nm : ByteArray) (nd : Int) (ws : List Int) (ks : List Tm) : okHead (.mk 7 nm nd ws ks) = ((okName nm || nm == (⟨#[115, 101, 114, 118, 101, 114, 115]⟩ : ByteArray)) && (decide (nd = 0) && decide (ws.length + ks.length = 0))) := rfl
theorem hd8 (nm : ByteArray) (nd : Int) (ws : List Int) (ks : List Tm) : okHead (.mk 8 nm nd ws ks) = ((okName nm || nm == (⟨#[115, 101, 114, 118, 101, 114, 115]⟩ : ByteArray)) && (decide (nd = 0) && decide (ws.length + ks.length = 0))) := rfl
theorem hd2 (nm : ByteArray) (nd : Int) (ws : List Int) (ks : List Tm) : okHead (.mk 2 nm nd ws ks) = (decide (nm.size = 0) && small nd && decide (0 < ks.length) && (decide (ws.length = 0) || decide (ws.length = ks.length))) := rfl
theorem hd3 (nm : ByteArray) (nd : Int) (ws : List Int) (ks : List Tm) : okHead (.mk 3 nm nd ws ks) = (decide (nm.size = 0) && decide (nd = 0) && decide (ws.length = 0) && decide (2 ≤ ks.length)) := rfl
theorem hd4 (nm : ByteArray) (nd : Int) (ws : List Int) (ks : List Tm) : okHead (.mk 4 nm nd ws ks) = (decide (nm.size = 0) && decide (nd = 0) && decide (ws.length = 0) && decide (2 ≤ ks.length)) := rfl
theorem hd5 (nm : ByteArray) (nd : Int) (ws : List Int) (ks : List Tm) : okHead (.mk 5 nm nd ws ks) = (decide (nm.size = 0) && decide (nd = 0) && decide (ws.length = 0) && decide (ks.length = 1)) := rfl
theorem hd0 {op : Int} (nm : ByteArray) (nd : Int) (ws : List Int) (ks : List Tm) (h : ¬ (1 ≤ op ∧ op ≤ 8)) : okHead (.mk op nm nd ws ks) = false := by
 unfold okHead
 have e : (Tm.mk op nm nd ws ks).op = op := rfl
 rw [e, if_neg (by omega), if_neg (by omega), if_neg (by omega), if_neg (by omega), if_neg (by omega)]
/-- Which terms IsTerm takes. -/
def ITOk (t : Tm) : Prop := ∀ (v : Value) (w : World) (S : Nat → Prop), TmAt w S t v → (∀ g, S g → g < w.heap.size) → tmSize t ≤ 1000000000000 →
 Calls Tryz.prog 47 #[v] w fun e w' => e = .returned (.bool (okTm t)) ∧ Below w.heap.size w w'

set_option maxRecDepth 100000 in
set_option maxHeartbeats 16000000 in
theorem isTerm_step (t : Tm) (ih : ∀ k ∈ t.kids, ITOk k) : ITOk t := by
 intro v w S hv hS hsz
 have HSS0 := Lib.hid (tmsSize_kids t)
 cases hv with
 | mk op nm need ws kids wA kA cw kc vs hw hwc hk hkc hl h =>
 have hss : tmSize (.mk op nm need ws kids) = 1 + nm.size + ws.length + tmsSize kids := HSS0.out
 have hkl := tms_length kids
 have IH := Lib.hid (show ∀ k ∈ kids, ITOk k from ih)
 have HL := Lib.hid (show ListAt (TmAt w S) w S 5 kA kids from ⟨vs, hl, hk, h⟩)
 have HWS := Lib.hid hw
 have hkw : kids.length + ws.length < 1000000000000 := by omega
 have HKS := Lib.hid (show ∀ k ∈ kids, tmSize k ≤ 1000000000000 from fun k hk => by have := tm_size_mem hk; omega)
 have HOK := Lib.hid (show okTm (.mk op nm need ws kids) = (okHead (.mk op nm need ws kids) && ws.all small && kids.all okTm) from okTm_eq _)
 clear ih hw hk hl h hss hkl hsz
 obtain ⟨w0, hw0⟩ : ∃ w0 : World, w0 = w.alloc (.cells #[.int .i64 op, .string nm, .int .i64 need, .slice wA ws.length cw, .slice kA kids.length kc] 32) := ⟨_, rfl⟩
 have hb0 : Below w.heap.size w w0 := by rw [hw0]; exact (Below.refl _ _).alloc (Nat.le_refl _) _
 have hz0 : w0.heap.size = w.heap.size + 1 := by rw [hw0]; simp
 have hr0 : w0.heap[w.heap.size]? = some (.cells #[.int .i64 op, .string nm, .int .i64 need, .slice wA ws.length cw, .slice kA kids.length kc] 32 (0, 0)) := by rw [hw0]; exact heap_alloc_new w _
 have hlt0 : w.heap.size + 1 ≤ w0.heap.size := by omega
 have HR0 := Lib.hid hr0
 have HW0 := Lib.hid hw0
 clear hz0 hr0 hw0
 go_enter Tryz.func47, Tryz.ntmps47
 go_wp2
 rw [← HW0.out]
 go_loopw [3] (fun x wr => ∃ k : Nat, k ≤ kids.length ∧ x = .int .i64 k ∧ Below (w.heap.size + 1) w0 wr ∧ Hid (kids.all okTm = (kids.drop k).all okTm)) (fun x _ => kids.length - (intOf x).toNat)
 case atStart => exact ⟨0, Nat.zero_le _, rfl, Below.refl _ _, rfl⟩
 case round =>
  obtain ⟨k, hk, rfl, hb, hd⟩ := hrel
  have hsr := hb.size
  have hbw : Below w.heap.size w wr := hb0.trans (hb.mono (by omega))
  have hr1 := (hb.block _ (by omega)).trans HR0.out
  obtain ⟨c0, c1, c2, c3, c4, -⟩ := row5 hr1
  clear hr1
  by_cases hlt : k < kids.length
  ·have hlr := HL.out.keep (P' := TmAt wr S) (kept_of hbw hS) (fun _ _ h => h.keep (kept_of hbw hS))
   obtain ⟨g, o, op1, nm1, nd1, wA1, wn1, wc1, kA1, kn1, kc1, rfl, hSg, htm, k0, k1, k2, k3, k4, -⟩ := term_cells hlr hlt
   have hgs : g < wr.heap.size := World.block_lt_of_cell? wr _ k0
   have hkI : (k : Int) < (kids.length : Int) := by omega
   have hk0 : (0 : Int) ≤ (k : Int) := by omega
   have hmem : kids[k] ∈ kids := List.getElem_mem hlt
   have hC := IH.out _ hmem _ wr S htm (fun g hg => by have := hS g hg; have := hbw.size; omega) (HKS.out _ hmem)
   have hdk : (kids.drop k).all okTm = (okTm kids[k] && (kids.drop (k + 1)).all okTm) := by rw [List.drop_eq_getElem_cons hlt, List.all_cons]
   cases hu : okTm kids[k]
   ·rw [hu] at hC hdk
    have HC := Lib.hid hC
    have E := Lib.hid (show okTm (.mk op nm need ws kids) = false by rw [HOK.out, hd.out, hdk, Bool.false_and, Bool.and_false])
    clear hC hdk hu htm hlr
    go_wp2_with fail
    refine HC.out.mono ?_
    rintro e W2 ⟨rfl, hb2⟩
    go_wp2
    go_ret
    exact ⟨by rw [E.out]; rfl, hbw.trans (hb2.mono hbw.size)⟩
   ·rw [hu] at hC hdk
    have HC := Lib.hid hC
    have E := Lib.hid (show kids.all okTm = (kids.drop (k + 1)).all okTm by rw [hd.out, hdk, Bool.true_and])
    clear hC hdk hu htm hlr
    go_wp2_with fail
    refine HC.out.mono ?_
    rintro e W2 ⟨rfl, hb2⟩
    go_wp2
    go_roundw
    case rel => exact ⟨k + 1, by omega, by go_num, hb.trans (hb2.mono (by omega)), E.out⟩
    case measure => simp [intOf]; omega
  ·obtain rfl : k = kids.length := by omega
   have hkI : ¬ (kids.length : Int) < (kids.length : Int) := by omega
   have HOK2 := Lib.hid (show okTm (.mk op nm need ws kids) = (okHead (.mk op nm need ws kids) && ws.all small) by rw [HOK.out, hd.out, List.drop_length]; simp)
   obtain ⟨w1, hw1⟩ : ∃ w1 : World, w1 = wr := ⟨_, rfl⟩
   rw [← hw1] at hb hsr hbw c0 c1 c2 c3 c4
   rw [← hw1]
   clear hd HOK hw1
   go_wp2
   go_loopw [4] (fun x wr => ∃ k : Nat, k ≤ ws.length ∧ x = .int .i64 k ∧ wr = w1 ∧ Hid (ws.all small = (ws.drop k).all small)) (fun x _ => ws.length - (intOf x).toNat)
   case atStart => exact ⟨0, Nat.zero_le _, rfl, by trivial, by trivial⟩
   case round =>
    obtain ⟨k, hk, rfl, rfl, hd⟩ := hrel
    by_cases hlt : k < ws.length
    ·obtain ⟨g1, o1, rfl, hS1, k1⟩ := one_cell (HWS.out.keep (kept_of hbw hS)) hlt
     have hg1 : g1 < wr.heap.size := World.block_lt_of_cell? wr _ k1
     have hdk : (ws.drop k).all small = (small ws[k] && (ws.drop (k + 1)).all small) := by rw [List.drop_eq_getElem_cons hlt, List.all_cons]
     generalize ws[k] = u at k1 hdk
     have hn := small_ref u wr
     have hkI2 : (k : Int) < (ws.length : Int) := by omega
     have hk0 : (0 : Int) ≤ (k : Int) := by omega
     cases hu : small u
     ·rw [hu] at hn hdk
      have HN := Lib.hid hn
      have E := Lib.hid (show okTm (.mk op nm need ws kids) = false by rw [HOK2.out, hd.out, hdk, Bool.false_and, Bool.and_false])
      clear hn hdk hu
      go_wp2_with fail
      refine HN.out.mono ?_
      rintro e w' ⟨rfl, rfl⟩
      go_wp2
      go_ret
      exact ⟨by rw [E.out]; rfl, hbw⟩
     ·rw [hu] at hn hdk
      have HN := Lib.hid hn
      have E := Lib.hid (show ws.all small = (ws.drop (k + 1)).all small by rw [hd.out, hdk, Bool.true_and])
      clear hn hdk hu
      go_wp2_with fail
      refine HN.out.mono ?_
      rintro e w' ⟨rfl, rfl⟩
      go_wp2
      go_roundw
      case rel => exact ⟨k + 1, by omega, by go_num, by trivial, E.out⟩
      case measure => simp [intOf]; omega
    ·obtain rfl : k = ws.length := by omega
     have hkI2 : ¬ (ws.length : Int) < (ws.length : Int) := by omega
     have EH := Lib.hid (show okTm (.mk op nm need ws kids) = okHead (.mk op nm need ws kids) by rw [HOK2.out, hd.out, List.drop_length]; simp)
     have hbs := hbw.size
     clear hd HOK2
     by_cases h1 : op = 1
     ·subst h1
      cases hok : okName nm
      ·have HN := Lib.hid (by have h := isName_ref nm wr; rw [hok] at h; exact h)
       have EL := Lib.hid (show okTm (.mk 1 nm need ws kids) = false by rw [EH.out, hd1, hok]; rfl)
       clear hok
       go_wp2_with fail
       refine HN.out.mono ?_
       rintro e W2 ⟨rfl, hb2⟩
       obtain ⟨e0, e1, e2, e3, e4, -⟩ := row5 ((hb2.block _ (by omega)).trans ((hb.block _ (by omega)).trans HR0.out))
       clear c0 c1 c2 c3 c4
       go_wp2
       go_ret
       exact ⟨by rw [EL.out]; rfl, hbw.trans (hb2.mono hbs)⟩
      ·have HN := Lib.hid (by have h := isName_ref nm wr; rw [hok] at h; exact h)
       by_cases hnd : need = 0
       ·have dnd : decide (need = 0) = true := decide_eq_true hnd
        have znd : (need == 0) = true := by rw [hnd]; rfl
        by_cases hsm : ws.length + kids.length = 0
        ·have dsm : decide (ws.length + kids.length = 0) = true := decide_eq_true hsm
         have zsm : (((ws.length : Int) + (kids.length : Int)) == 0) = true := by rw [beq_iff_eq]; omega
         have EL := Lib.hid (show okTm (.mk 1 nm need ws kids) = true by rw [EH.out, hd1, hok, dnd, dsm]; rfl)
         clear hok dnd dsm hnd hsm
         go_wp2_with fail
         refine HN.out.mono ?_
         rintro e W2 ⟨rfl, hb2⟩
         obtain ⟨e0, e1, e2, e3, e4, -⟩ := row5 ((hb2.block _ (by omega)).trans ((hb.block _ (by omega)).trans HR0.out))
         clear c0 c1 c2 c3 c4
         go_wp2
         go_ret
         exact ⟨by rw [EL.out]; rfl, hbw.trans (hb2.mono hbs)⟩
        ·have dsm : decide (ws.length + kids.length = 0) = false := decide_eq_false hsm
         have zsm : (((ws.length : Int) + (kids.length : Int)) == 0) = false := by rw [beq_eq_false_iff_ne]; omega
         have EL := Lib.hid (show okTm (.mk 1 nm need ws kids) = false by rw [EH.out, hd1, hok, dnd, dsm]; rfl)
         clear hok dnd dsm hnd hsm
         go_wp2_with fail
         refine HN.out.mono ?_
         rintro e W2 ⟨rfl, hb2⟩
         obtain ⟨e0, e1, e2, e3, e4, -⟩ := row5 ((hb2.block _ (by omega)).trans ((hb.block _ (by omega)).trans HR0.out))
         clear c0 c1 c2 c3 c4
         go_wp2
         go_ret
         exact ⟨by rw [EL.out]; rfl, hbw.trans (hb2.mono hbs)⟩
       ·have dnd : decide (need = 0) = false := decide_eq_false hnd
        have znd : (need == 0) = false := by rw [beq_eq_false_iff_ne]; exact hnd
        have EL := Lib.hid (show okTm (.mk 1 nm need ws kids) = false by rw [EH.out, hd1, hok, dnd]; rfl)
        clear hok dnd hnd
        go_wp2_with fail
        refine HN.out.mono ?_
        rintro e W2 ⟨rfl, hb2⟩
        obtain ⟨e0, e1, e2, e3, e4, -⟩ := row5 ((hb2.block _ (by omega)).trans ((hb.block _ (by omega)).trans HR0.out))
        clear c0 c1 c2 c3 c4
        go_wp2
        go_ret
        exact ⟨by rw [EL.out]; rfl, hbw.trans (hb2.mono hbs)⟩
     have q1 : (op == 1) = false := by rw [beq_eq_false_iff_ne]; exact h1
     by_cases h2 : op = 2
     ·subst h2
      by_cases hnm : nm.size = 0
      ·obtain rfl := size_zero hnm
       have dnm : decide ((⟨#[]⟩ : ByteArray).size = 0) = true := rfl
       cases hsl : small need
       ·have HM := Lib.hid (by have h := small_ref need wr; rw [hsl] at h; exact h)
        have EL := Lib.hid (show okTm (.mk 2 ⟨#[]⟩ need ws kids) = false by rw [EH.out, hd2, dnm, hsl]; rfl)
        clear dnm hsl hnm
        go_wp2_with fail
        refine HM.out.mono ?_
        rintro e W3 ⟨rfl, rfl⟩
        go_wp2
        go_ret
        exact ⟨by rw [EL.out]; rfl, hbw⟩
       ·have HM := Lib.hid (by have h := small_ref need wr; rw [hsl] at h; exact h)
        by_cases hn0 : 0 < kids.length
        ·have dn0 : decide (0 < kids.length) = true := decide_eq_true hn0
         have zn0 : (0 : Int) < (kids.length : Int) := by omega
         by_cases hws : ws.length = 0
         ·have dws : decide (ws.length = 0) = true := decide_eq_true hws
          have zws : ((ws.length : Int) == 0) = true := by rw [beq_iff_eq]; omega
          have EL := Lib.hid (show okTm (.mk 2 ⟨#[]⟩ need ws kids) = true by rw [EH.out, hd2, dnm, hsl, dn0, dws]; rfl)
          clear dnm hsl dn0 dws hnm hn0 hws
          go_wp2_with fail
          refine HM.out.mono ?_
          rintro e W3 ⟨rfl, rfl⟩
          go_wp2
          go_ret
          exact ⟨by rw [EL.out]; rfl, hbw⟩
         ·have dws : decide (ws.length = 0) = false := decide_eq_false hws
          have zws : ((ws.length : Int) == 0) = false := by rw [beq_eq_false_iff_ne]; omega
          by_cases hwn : ws.length = kids.length
          ·have dwn : decide (ws.length = kids.length) = true := decide_eq_true hwn
           have zwn : ((ws.length : Int) == (kids.length : Int)) = true := by rw [beq_iff_eq]; omega
           have EL := Lib.hid (show okTm (.mk 2 ⟨#[]⟩ need ws kids) = true by rw [EH.out, hd2, dnm, hsl, dn0, dws, dwn]; rfl)
           clear dnm hsl dn0 dws dwn hnm hn0 hws hwn
           go_wp2_with fail
           refine HM.out.mono ?_
           rintro e W3 ⟨rfl, rfl⟩
           go_wp2
           go_ret
           exact ⟨by rw [EL.out]; rfl, hbw⟩
          ·have dwn : decide (ws.length = kids.length) = false := decide_eq_false hwn
           have zwn : ((ws.length : Int) == (kids.length : Int)) = false := by rw [beq_eq_false_iff_ne]; omega
           have EL := Lib.hid (show okTm (.mk 2 ⟨#[]⟩ need ws kids) = false by rw [EH.out, hd2, dnm, hsl, dn0, dws, dwn]; rfl)
           clear dnm hsl dn0 dws dwn hnm hn0 hws hwn
           go_wp2_with fail
           refine HM.out.mono ?_
           rintro e W3 ⟨rfl, rfl⟩
           go_wp2
           go_ret
           exact ⟨by rw [EL.out]; rfl, hbw⟩
        ·have dn0 : decide (0 < kids.length) = false := decide_eq_false hn0
         have zn0 : ¬ (0 : Int) < (kids.length : Int) := by omega
         have EL := Lib.hid (show okTm (.mk 2 ⟨#[]⟩ need ws kids) = false by rw [EH.out, hd2, dnm, hsl, dn0]; rfl)
         clear dnm hsl dn0 hnm hn0
         go_wp2_with fail
         refine HM.out.mono ?_
         rintro e W3 ⟨rfl, rfl⟩
         go_wp2
         go_ret
         exact ⟨by rw [EL.out]; rfl, hbw⟩
      ·have dnm : decide (nm.size = 0) = false := decide_eq_false hnm
       have hne := toList_isEmpty (show 0 < nm.size by omega)
       have EL := Lib.hid (show okTm (.mk 2 nm need ws kids) = false by rw [EH.out, hd2, dnm]; rfl)
       clear dnm hnm
       go_wp2
       go_ret
       exact ⟨by rw [EL.out]; rfl, hbw⟩
     have q2 : (op == 2) = false := by rw [beq_eq_false_iff_ne]; exact h2
     by_cases h3 : op = 3
     ·subst h3
      by_cases hnm : nm.size = 0
      ·obtain rfl := size_zero hnm
       have dnm : decide ((⟨#[]⟩ : ByteArray).size = 0) = true := rfl
       by_cases hnd : need = 0
       ·have dnd : decide (need = 0) = true := decide_eq_true hnd
        have znd : (need == 0) = true := by rw [hnd]; rfl
        by_cases hws : ws.length = 0
        ·have dws : decide (ws.length = 0) = true := decide_eq_true hws
         have zws : ((ws.length : Int) == 0) = true := by rw [beq_iff_eq]; omega
         by_cases hn2 : 2 ≤ kids.length
         ·have dn2 : decide (2 ≤ kids.length) = true := decide_eq_true hn2
          have zn2 : (2 : Int) ≤ (kids.length : Int) := by omega
          have EL := Lib.hid (show okTm (.mk 3 ⟨#[]⟩ need ws kids) = true by rw [EH.out, hd3, dnm, dnd, dws, dn2]; rfl)
          clear dnm dnd dws dn2 hnm hnd hws hn2
          go_wp2
          go_ret
          exact ⟨by rw [EL.out]; rfl, hbw⟩
         ·have dn2 : decide (2 ≤ kids.length) = false := decide_eq_false hn2
          have zn2 : ¬ (2 : Int) ≤ (kids.length : Int) := by omega
          have EL := Lib.hid (show okTm (.mk 3 ⟨#[]⟩ need ws kids) = false by rw [EH.out, hd3, dnm, dnd, dws, dn2]; rfl)
          clear dnm dnd dws dn2 hnm hnd hws hn2
          go_wp2
          go_ret
          exact ⟨by rw [EL.out]; rfl, hbw⟩
        ·have dws : decide (ws.length = 0) = false := decide_eq_false hws
         have zws : ((ws.length : Int) == 0) = false := by rw [beq_eq_false_iff_ne]; omega
         have EL := Lib.hid (show okTm (.mk 3 ⟨#[]⟩ need ws kids) = false by rw [EH.out, hd3, dnm, dnd, dws]; rfl)
         clear dnm dnd dws hnm hnd hws
         go_wp2
         go_ret
         exact ⟨by rw [EL.out]; rfl, hbw⟩
       ·have dnd : decide (need = 0) = false := decide_eq_false hnd
        have znd : (need == 0) = false := by rw [beq_eq_false_iff_ne]; exact hnd
        have EL := Lib.hid (show okTm (.mk 3 ⟨#[]⟩ need ws kids) = false by rw [EH.out, hd3, dnm, dnd]; rfl)
        clear dnm dnd hnm hnd
        go_wp2
        go_ret
        exact ⟨by rw [EL.out]; rfl, hbw⟩
      ·have dnm : decide (nm.size = 0) = false := decide_eq_false hnm
       have hne := toList_isEmpty (show 0 < nm.size by omega)
       have EL := Lib.hid (show okTm (.mk 3 nm need ws kids) = false by rw [EH.out, hd3, dnm]; rfl)
       clear dnm hnm
       go_wp2
       go_ret
       exact ⟨by rw [EL.out]; rfl, hbw⟩
     have q3 : (op == 3) = false := by rw [beq_eq_false_iff_ne]; exact h3
     by_cases h4 : op = 4
     ·subst h4
      by_cases hnm : nm.size = 0
      ·obtain rfl := size_zero hnm
       have dnm : decide ((⟨#[]⟩ : ByteArray).size = 0) = true := rfl
       by_cases hnd : need = 0
       ·have dnd : decide (need = 0) = true := decide_eq_true hnd
        have znd : (need == 0) = true := by rw [hnd]; rfl
        by_cases hws : ws.length = 0
        ·have dws : decide (ws.length = 0) = true := decide_eq_true hws
         have zws : ((ws.length : Int) == 0) = true := by rw [beq_iff_eq]; omega
         by_cases hn2 : 2 ≤ kids.length
         ·have dn2 : decide (2 ≤ kids.length) = true := decide_eq_true hn2
          have zn2 : (2 : Int) ≤ (kids.length : Int) := by omega
          have EL := Lib.hid (show okTm (.mk 4 ⟨#[]⟩ need ws kids) = true by rw [EH.out, hd4, dnm, dnd, dws, dn2]; rfl)
          clear dnm dnd dws dn2 hnm hnd hws hn2
          go_wp2
          go_ret
          exact ⟨by rw [EL.out]; rfl, hbw⟩
         ·have dn2 : decide (2 ≤ kids.length) = false := decide_eq_false hn2
          have zn2 : ¬ (2 : Int) ≤ (kids.length : Int) := by omega
          have EL := Lib.hid (show okTm (.mk 4 ⟨#[]⟩ need ws kids) = false by rw [EH.out, hd4, dnm, dnd, dws, dn2]; rfl)
          clear dnm dnd dws dn2 hnm hnd hws hn2
          go_wp2
          go_ret
          exact ⟨by rw [EL.out]; rfl, hbw⟩
        ·have dws : decide (ws.length = 0) = false := decide_eq_false hws
         have zws : ((ws.length : Int) == 0) = false := by rw [beq_eq_false_iff_ne]; omega
         have EL := Lib.hid (show okTm (.mk 4 ⟨#[]⟩ need ws kids) = false by rw [EH.out, hd4, dnm, dnd, dws]; rfl)
         clear dnm dnd dws hnm hnd hws
         go_wp2
         go_ret
         exact ⟨by rw [EL.out]; rfl, hbw⟩
       ·have dnd : decide (need = 0) = false := decide_eq_false hnd
        have znd : (need == 0) = false := by rw [beq_eq_false_iff_ne]; exact hnd
        have EL := Lib.hid (show okTm (.mk 4 ⟨#[]⟩ need ws kids) = false by rw [EH.out, hd4, dnm, dnd]; rfl)
        clear dnm dnd hnm hnd
        go_wp2
        go_ret
        exact ⟨by rw [EL.out]; rfl, hbw⟩
      ·have dnm : decide (nm.size = 0) = false := decide_eq_false hnm
       have hne := toList_isEmpty (show 0 < nm.size by omega)
       have EL := Lib.hid (show okTm (.mk 4 nm need ws kids) = false by rw [EH.out, hd4, dnm]; rfl)
       clear dnm hnm
       go_wp2
       go_ret
       exact ⟨by rw [EL.out]; rfl, hbw⟩
     have q4 : (op == 4) = false := by rw [beq_eq_false_iff_ne]; exact h4
     by_cases h5 : op = 5
     ·subst h5
      by_cases hnm : nm.size = 0
      ·obtain rfl := size_zero hnm
       have dnm : decide ((⟨#[]⟩ : ByteArray).size = 0) = true := rfl
       by_cases hnd : need = 0
       ·have dnd : decide (need = 0) = true := decide_eq_true hnd
        have znd : (need == 0) = true := by rw [hnd]; rfl
        by_cases hws : ws.length = 0
        ·have dws : decide (ws.length = 0) = true := decide_eq_true hws
         have zws : ((ws.length : Int) == 0) = true := by rw [beq_iff_eq]; omega
         by_cases hn1 : kids.length = 1
         ·have dn1 : decide (kids.length = 1) = true := decide_eq_true hn1
          have zn1 : ((kids.length : Int) == 1) = true := by rw [beq_iff_eq]; omega
          have EL := Lib.hid (show okTm (.mk 5 ⟨#[]⟩ need ws kids) = true by rw [EH.out, hd5, dnm, dnd, dws, dn1]; rfl)
          clear dnm dnd dws dn1 hnm hnd hws hn1
          go_wp2
          go_ret
          exact ⟨by rw [EL.out]; rfl, hbw⟩
         ·have dn1 : decide (kids.length = 1) = false := decide_eq_false hn1
          have zn1 : ((kids.length : Int) == 1) = false := by rw [beq_eq_false_iff_ne]; omega
          have EL := Lib.hid (show okTm (.mk 5 ⟨#[]⟩ need ws kids) = false by rw [EH.out, hd5, dnm, dnd, dws, dn1]; rfl)
          clear dnm dnd dws dn1 hnm hnd hws hn1
          go_wp2
          go_ret
          exact ⟨by rw [EL.out]; rfl, hbw⟩
        ·have dws : decide (ws.length = 0) = false := decide_eq_false hws
         have zws : ((ws.length : Int) == 0) = false := by rw [beq_eq_false_iff_ne]; omega
         have EL := Lib.hid (show okTm (.mk 5 ⟨#[]⟩ need ws kids) = false by rw [EH.out, hd5, dnm, dnd, dws]; rfl)
         clear dnm dnd dws hnm hnd hws
         go_wp2
         go_ret
         exact ⟨by rw [EL.out]; rfl, hbw⟩
       ·have dnd : decide (need = 0) = false := decide_eq_false hnd
        have znd : (need == 0) = false := by rw [beq_eq_false_iff_ne]; exact hnd
        have EL := Lib.hid (show okTm (.mk 5 ⟨#[]⟩ need ws kids) = false by rw [EH.out, hd5, dnm, dnd]; rfl)
        clear dnm dnd hnm hnd
        go_wp2
        go_ret
        exact ⟨by rw [EL.out]; rfl, hbw⟩
      ·have dnm : decide (nm.size = 0) = false := decide_eq_false hnm
       have hne := toList_isEmpty (show 0 < nm.size by omega)
       have EL := Lib.hid (show okTm (.mk 5 nm need ws kids) = false by rw [EH.out, hd5, dnm]; rfl)
       clear dnm hnm
       go_wp2
       go_ret
       exact ⟨by rw [EL.out]; rfl, hbw⟩
     have q5 : (op == 5) = false := by rw [beq_eq_false_iff_ne]; exact h5
     by_cases h6 : op = 6
     ·subst h6
      cases hok : okName nm
      ·have HN := Lib.hid (by have h := isName_ref nm wr; rw [hok] at h; exact h)
       cases hsv : (nm == (⟨#[115, 101, 114, 118, 101, 114, 115]⟩ : ByteArray))
       ·have hs2 : (nm.toList == ((⟨#[115, 101, 114, 118, 101, 114, 115]⟩ : ByteArray)).toList) = false := by rw [str_beq]; exact hsv
        have hs6 : ¬ nm = (⟨#[115, 101, 114, 118, 101, 114, 115]⟩ : ByteArray) := fun e9 => by rw [(str_iff _ _).2 e9] at hsv; exact absurd hsv (by simp)
        have hs3 : ¬ nm.toList = [115, 101, 114, 118, 101, 114, 115] := fun e9 => hs6 (by rw [ByteArray.toList_eq] at e9; rw [← bs_of nm, e9]; rfl)
        have hs4 : (nm.toList == [115, 101, 114, 118, 101, 114, 115]) = false := by rw [beq_eq_false_iff_ne]; exact hs3
        have EL := Lib.hid (show okTm (.mk 6 nm need ws kids) = false by rw [EH.out, hd6, hok, hsv]; rfl)
        clear hok hsv
        go_wp2_with fail
        refine HN.out.mono ?_
        rintro e W2 ⟨rfl, hb2⟩
        obtain ⟨e0, e1, e2, e3, e4, -⟩ := row5 ((hb2.block _ (by omega)).trans ((hb.block _ (by omega)).trans HR0.out))
        clear c0 c1 c2 c3 c4
        go_wp2
        go_ret
        exact ⟨by rw [EL.out]; rfl, hbw.trans (hb2.mono hbs)⟩
       ·have hs2 : (nm.toList == ((⟨#[115, 101, 114, 118, 101, 114, 115]⟩ : ByteArray)).toList) = true := by rw [str_beq]; exact hsv
        have hs3 : nm.toList = [115, 101, 114, 118, 101, 114, 115] := by rw [ByteArray.toList_eq, (str_iff _ _).1 hsv]
        by_cases hnd : need = 0
        ·have dnd : decide (need = 0) = true := decide_eq_true hnd
         have znd : (need == 0) = true := by rw [hnd]; rfl
         by_cases hsm : ws.length + kids.length = 0
         ·have dsm : decide (ws.length + kids.length = 0) = true := decide_eq_true hsm
          have zsm : (((ws.length : Int) + (kids.length : Int)) == 0) = true := by rw [beq_iff_eq]; omega
          have EL := Lib.hid (show okTm (.mk 6 nm need ws kids) = true by rw [EH.out, hd6, hok, hsv, dnd, dsm]; rfl)
          clear hok hsv dnd dsm hnd hsm
          go_wp2_with fail
          refine HN.out.mono ?_
          rintro e W2 ⟨rfl, hb2⟩
          obtain ⟨e0, e1, e2, e3, e4, -⟩ := row5 ((hb2.block _ (by omega)).trans ((hb.block _ (by omega)).trans HR0.out))
          clear c0 c1 c2 c3 c4
          go_wp2
          go_ret
          exact ⟨by rw [EL.out]; rfl, hbw.trans (hb2.mono hbs)⟩
         ·have dsm : decide (ws.length + kids.length = 0) = false := decide_eq_false hsm
          have zsm : (((ws.length : Int) + (kids.length : Int)) == 0) = false := by rw [beq_eq_false_iff_ne]; omega
          have EL := Lib.hid (show okTm (.mk 6 nm need ws kids) = false by rw [EH.out, hd6, hok, hsv, dnd, dsm]; rfl)
          clear hok hsv dnd dsm hnd hsm
          go_wp2_with fail
          refine HN.out.mono ?_
          rintro e W2 ⟨rfl, hb2⟩
          obtain ⟨e0, e1, e2, e3, e4, -⟩ := row5 ((hb2.block _ (by omega)).trans ((hb.block _ (by omega)).trans HR0.out))
          clear c0 c1 c2 c3 c4
          go_wp2
          go_ret
          exact ⟨by rw [EL.out]; rfl, hbw.trans (hb2.mono hbs)⟩
        ·have dnd : decide (need = 0) = false := decide_eq_false hnd
         have znd : (need == 0) = false := by rw [beq_eq_false_iff_ne]; exact hnd
         have EL := Lib.hid (show okTm (.mk 6 nm need ws kids) = false by rw [EH.out, hd6, hok, hsv, dnd]; rfl)
         clear hok hsv dnd hnd
         go_wp2_with fail
         refine HN.out.mono ?_
         rintro e W2 ⟨rfl, hb2⟩
         obtain ⟨e0, e1, e2, e3, e4, -⟩ := row5 ((hb2.block _ (by omega)).trans ((hb.block _ (by omega)).trans HR0.out))
         clear c0 c1 c2 c3 c4
         go_wp2
         go_ret
         exact ⟨by rw [EL.out]; rfl, hbw.trans (hb2.mono hbs)⟩
      ·have HN := Lib.hid (by have h := isName_ref nm wr; rw [hok] at h; exact h)
       by_cases hnd : need = 0
       ·have dnd : decide (need = 0) = true := decide_eq_true hnd
        have znd : (need == 0) = true := by rw [hnd]; rfl
        by_cases hsm : ws.length + kids.length = 0
        ·have dsm : decide (ws.length + kids.length = 0) = true := decide_eq_true hsm
         have zsm : (((ws.length : Int) + (kids.length : Int)) == 0) = true := by rw [beq_iff_eq]; omega
         have EL := Lib.hid (show okTm (.mk 6 nm need ws kids) = true by rw [EH.out, hd6, hok, dnd, dsm]; rfl)
         clear hok dnd dsm hnd hsm
         go_wp2_with fail
         refine HN.out.mono ?_
         rintro e W2 ⟨rfl, hb2⟩
         obtain ⟨e0, e1, e2, e3, e4, -⟩ := row5 ((hb2.block _ (by omega)).trans ((hb.block _ (by omega)).trans HR0.out))
         clear c0 c1 c2 c3 c4
         go_wp2
         go_ret
         exact ⟨by rw [EL.out]; rfl, hbw.trans (hb2.mono hbs)⟩
        ·have dsm : decide (ws.length + kids.length = 0) = false := decide_eq_false hsm
         have zsm : (((ws.length : Int) + (kids.length : Int)) == 0) = false := by rw [beq_eq_false_iff_ne]; omega
         have EL := Lib.hid (show okTm (.mk 6 nm need ws kids) = false by rw [EH.out, hd6, hok, dnd, dsm]; rfl)
         clear hok dnd dsm hnd hsm
         go_wp2_with fail
         refine HN.out.mono ?_
         rintro e W2 ⟨rfl, hb2⟩
         obtain ⟨e0, e1, e2, e3, e4, -⟩ := row5 ((hb2.block _ (by omega)).trans ((hb.block _ (by omega)).trans HR0.out))
         clear c0 c1 c2 c3 c4
         go_wp2
         go_ret
         exact ⟨by rw [EL.out]; rfl, hbw.trans (hb2.mono hbs)⟩
       ·have dnd : decide (need = 0) = false := decide_eq_false hnd
        have znd : (need == 0) = false := by rw [beq_eq_false_iff_ne]; exact hnd
        have EL := Lib.hid (show okTm (.mk 6 nm need ws kids) = false by rw [EH.out, hd6, hok, dnd]; rfl)
        clear hok dnd hnd
        go_wp2_with fail
        refine HN.out.mono ?_
        rintro e W2 ⟨rfl, hb2⟩
        obtain ⟨e0, e1, e2, e3, e4, -⟩ := row5 ((hb2.block _ (by omega)).trans ((hb.block _ (by omega)).trans HR0.out))
        clear c0 c1 c2 c3 c4
        go_wp2
        go_ret
        exact ⟨by rw [EL.out]; rfl, hbw.trans (hb2.mono hbs)⟩
     have q6 : (op == 6) = false := by rw [beq_eq_false_iff_ne]; exact h6
     by_cases h7 : op = 7
     ·subst h7
      cases hok : okName nm
      ·have HN := Lib.hid (by have h := isName_ref nm wr; rw [hok] at h; exact h)
       cases hsv : (nm == (⟨#[115, 101, 114, 118, 101, 114, 115]⟩ : ByteArray))
       ·have hs2 : (nm.toList == ((⟨#[115, 101, 114, 118, 101, 114, 115]⟩ : ByteArray)).toList) = false := by rw [str_beq]; exact hsv
        have hs6 : ¬ nm = (⟨#[115, 101, 114, 118, 101, 114, 115]⟩ : ByteArray) := fun e9 => by rw [(str_iff _ _).2 e9] at hsv; exact absurd hsv (by simp)
        have hs3 : ¬ nm.toList = [115, 101, 114, 118, 101, 114, 115] := fun e9 => hs6 (by rw [ByteArray.toList_eq] at e9; rw [← bs_of nm, e9]; rfl)
        have hs4 : (nm.toList == [115, 101, 114, 118, 101, 114, 115]) = false := by rw [beq_eq_false_iff_ne]; exact hs3
        have EL := Lib.hid (show okTm (.mk 7 nm need ws kids) = false by rw [EH.out, hd7, hok, hsv]; rfl)
        clear hok hsv
        go_wp2_with fail
        refine HN.out.mono ?_
        rintro e W2 ⟨rfl, hb2⟩
        obtain ⟨e0, e1, e2, e3, e4, -⟩ := row5 ((hb2.block _ (by omega)).trans ((hb.block _ (by omega)).trans HR0.out))
        clear c0 c1 c2 c3 c4
        go_wp2
        go_ret
        exact ⟨by rw [EL.out]; rfl, hbw.trans (hb2.mono hbs)⟩
       ·have hs2 : (nm.toList == ((⟨#[115, 101, 114, 118, 101, 114, 115]⟩ : ByteArray)).toList) = true := by rw [str_beq]; exact hsv
        have hs3 : nm.toList = [115, 101, 114, 118, 101, 114, 115] := by rw [ByteArray.toList_eq, (str_iff _ _).1 hsv]
        by_cases hnd : need = 0
        ·have dnd : decide (need = 0) = true := decide_eq_true hnd
         have znd : (need == 0) = true := by rw [hnd]; rfl
         by_cases hsm : ws.length + kids.length = 0
         ·have dsm : decide (ws.length + kids.length = 0) = true := decide_eq_true hsm
          have zsm : (((ws.length : Int) + (kids.length : Int)) == 0) = true := by rw [beq_iff_eq]; omega
          have EL := Lib.hid (show okTm (.mk 7 nm need ws kids) = true by rw [EH.out, hd7, hok, hsv, dnd, dsm]; rfl)
          clear hok hsv dnd dsm hnd hsm
          go_wp2_with fail
          refine HN.out.mono ?_
          rintro e W2 ⟨rfl, hb2⟩
          obtain ⟨e0, e1, e2, e3, e4, -⟩ := row5 ((hb2.block _ (by omega)).trans ((hb.block _ (by omega)).trans HR0.out))
          clear c0 c1 c2 c3 c4
          go_wp2
          go_ret
          exact ⟨by rw [EL.out]; rfl, hbw.trans (hb2.mono hbs)⟩
         ·have dsm : decide (ws.length + kids.length = 0) = false := decide_eq_false hsm
          have zsm : (((ws.length : Int) + (kids.length : Int)) == 0) = false := by rw [beq_eq_false_iff_ne]; omega
          have EL := Lib.hid (show okTm (.mk 7 nm need ws kids) = false by rw [EH.out, hd7, hok, hsv, dnd, dsm]; rfl)
          clear hok hsv dnd dsm hnd hsm
          go_wp2_with fail
          refine HN.out.mono ?_
          rintro e W2 ⟨rfl, hb2⟩
          obtain ⟨e0, e1, e2, e3, e4, -⟩ := row5 ((hb2.block _ (by omega)).trans ((hb.block _ (by omega)).trans HR0.out))
          clear c0 c1 c2 c3 c4
          go_wp2
          go_ret
          exact ⟨by rw [EL.out]; rfl, hbw.trans (hb2.mono hbs)⟩
        ·have dnd : decide (need = 0) = false := decide_eq_false hnd
         have znd : (need == 0) = false := by rw [beq_eq_false_iff_ne]; exact hnd
         have EL := Lib.hid (show okTm (.mk 7 nm need ws kids) = false by rw [EH.out, hd7, hok, hsv, dnd]; rfl)
         clear hok hsv dnd hnd
         go_wp2_with fail
         refine HN.out.mono ?_
         rintro e W2 ⟨rfl, hb2⟩
         obtain ⟨e0, e1, e2, e3, e4, -⟩ := row5 ((hb2.block _ (by omega)).trans ((hb.block _ (by omega)).trans HR0.out))
         clear c0 c1 c2 c3 c4
         go_wp2
         go_ret
         exact ⟨by rw [EL.out]; rfl, hbw.trans (hb2.mono hbs)⟩
      ·have HN := Lib.hid (by have h := isName_ref nm wr; rw [hok] at h; exact h)
       by_cases hnd : need = 0
       ·have dnd : decide (need = 0) = true := decide_eq_true hnd
        have znd : (need == 0) = true := by rw [hnd]; rfl
        by_cases hsm : ws.length + kids.length = 0
        ·have dsm : decide (ws.length + kids.length = 0) = true := decide_eq_true hsm
         have zsm : (((ws.length : Int) + (kids.length : Int)) == 0) = true := by rw [beq_iff_eq]; omega
         have EL := Lib.hid (show okTm (.mk 7 nm need ws kids) = true by rw [EH.out, hd7, hok, dnd, dsm]; rfl)
         clear hok dnd dsm hnd hsm
         go_wp2_with fail
         refine HN.out.mono ?_
         rintro e W2 ⟨rfl, hb2⟩
         obtain ⟨e0, e1, e2, e3, e4, -⟩ := row5 ((hb2.block _ (by omega)).trans ((hb.block _ (by omega)).trans HR0.out))
         clear c0 c1 c2 c3 c4
         go_wp2
         go_ret
         exact ⟨by rw [EL.out]; rfl, hbw.trans (hb2.mono hbs)⟩
        ·have dsm : decide (ws.length + kids.length = 0) = false := decide_eq_false hsm
         have zsm : (((ws.length : Int) + (kids.length : Int)) == 0) = false := by rw [beq_eq_false_iff_ne]; omega
         have EL := Lib.hid (show okTm (.mk 7 nm need ws kids) = false by rw [EH.out, hd7, hok, dnd, dsm]; rfl)
         clear hok dnd dsm hnd hsm
         go_wp2_with fail
         refine HN.out.mono ?_
         rintro e W2 ⟨rfl, hb2⟩
         obtain ⟨e0, e1, e2, e3, e4, -⟩ := row5 ((hb2.block _ (by omega)).trans ((hb.block _ (by omega)).trans HR0.out))
         clear c0 c1 c2 c3 c4
         go_wp2
         go_ret
         exact ⟨by rw [EL.out]; rfl, hbw.trans (hb2.mono hbs)⟩
       ·have dnd : decide (need = 0) = false := decide_eq_false hnd
        have znd : (need == 0) = false := by rw [beq_eq_false_iff_ne]; exact hnd
        have EL := Lib.hid (show okTm (.mk 7 nm need ws kids) = false by rw [EH.out, hd7, hok, dnd]; rfl)
        clear hok dnd hnd
        go_wp2_with fail
        refine HN.out.mono ?_
        rintro e W2 ⟨rfl, hb2⟩
        obtain ⟨e0, e1, e2, e3, e4, -⟩ := row5 ((hb2.block _ (by omega)).trans ((hb.block _ (by omega)).trans HR0.out))
        clear c0 c1 c2 c3 c4
        go_wp2
        go_ret
        exact ⟨by rw [EL.out]; rfl, hbw.trans (hb2.mono hbs)⟩
     have q7 : (op == 7) = false := by rw [beq_eq_false_iff_ne]; exact h7
     by_cases h8 : op = 8
     ·subst h8
      cases hok : okName nm
      ·have HN := Lib.hid (by have h := isName_ref nm wr; rw [hok] at h; exact h)
       cases hsv : (nm == (⟨#[115, 101, 114, 118, 101, 114, 115]⟩ : ByteArray))
       ·have hs2 : (nm.toList == ((⟨#[115, 101, 114, 118, 101, 114, 115]⟩ : ByteArray)).toList) = false := by rw [str_beq]; exact hsv
        have hs6 : ¬ nm = (⟨#[115, 101, 114, 118, 101, 114, 115]⟩ : ByteArray) := fun e9 => by rw [(str_iff _ _).2 e9] at hsv; exact absurd hsv (by simp)
        have hs3 : ¬ nm.toList = [115, 101, 114, 118, 101, 114, 115] := fun e9 => hs6 (by rw [ByteArray.toList_eq] at e9; rw [← bs_of nm, e9]; rfl)
        have hs4 : (nm.toList == [115, 101, 114, 118, 101, 114, 115]) = false := by rw [beq_eq_false_iff_ne]; exact hs3
        have EL := Lib.hid (show okTm (.mk 8 nm need ws kids) = false by rw [EH.out, hd8, hok, hsv]; rfl)
        clear hok hsv
        go_wp2_with fail
        refine HN.out.mono ?_
        rintro e W2 ⟨rfl, hb2⟩
        obtain ⟨e0, e1, e2, e3, e4, -⟩ := row5 ((hb2.block _ (by omega)).trans ((hb.block _ (by omega)).trans HR0.out))
        clear c0 c1 c2 c3 c4
        go_wp2
        go_ret
        exact ⟨by rw [EL.out]; rfl, hbw.trans (hb2.mono hbs)⟩
       ·have hs2 : (nm.toList == ((⟨#[115, 101, 114, 118, 101, 114, 115]⟩ : ByteArray)).toList) = true := by rw [str_beq]; exact hsv
        have hs3 : nm.toList = [115, 101, 114, 118, 101, 114, 115] := by rw [ByteArray.toList_eq, (str_iff _ _).1 hsv]
        by_cases hnd : need = 0
        ·have dnd : decide (need = 0) = true := decide_eq_true hnd
         have znd : (need == 0) = true := by rw [hnd]; rfl
         by_cases hsm : ws.length + kids.length = 0
         ·have dsm : decide (ws.length + kids.length = 0) = true := decide_eq_true hsm
          have zsm : (((ws.length : Int) + (kids.length : Int)) == 0) = true := by rw [beq_iff_eq]; omega
          have EL := Lib.hid (show okTm (.mk 8 nm need ws kids) = true by rw [EH.out, hd8, hok, hsv, dnd, dsm]; rfl)
          clear hok hsv dnd dsm hnd hsm
          go_wp2_with fail
          refine HN.out.mono ?_
          rintro e W2 ⟨rfl, hb2⟩
          obtain ⟨e0, e1, e2, e3, e4, -⟩ := row5 ((hb2.block _ (by omega)).trans ((hb.block _ (by omega)).trans HR0.out))
          clear c0 c1 c2 c3 c4
          go_wp2
          go_ret
          exact ⟨by rw [EL.out]; rfl, hbw.trans (hb2.mono hbs)⟩
         ·have dsm : decide (ws.length + kids.length = 0) = false := decide_eq_false hsm
          have zsm : (((ws.length : Int) + (kids.length : Int)) == 0) = false := by rw [beq_eq_false_iff_ne]; omega
          have EL := Lib.hid (show okTm (.mk 8 nm need ws kids) = false by rw [EH.out, hd8, hok, hsv, dnd, dsm]; rfl)
          clear hok hsv dnd dsm hnd hsm
          go_wp2_with fail
          refine HN.out.mono ?_
          rintro e W2 ⟨rfl, hb2⟩
          obtain ⟨e0, e1, e2, e3, e4, -⟩ := row5 ((hb2.block _ (by omega)).trans ((hb.block _ (by omega)).trans HR0.out))
          clear c0 c1 c2 c3 c4
          go_wp2
          go_ret
          exact ⟨by rw [EL.out]; rfl, hbw.trans (hb2.mono hbs)⟩
        ·have dnd : decide (need = 0) = false := decide_eq_false hnd
         have znd : (need == 0) = false := by rw [beq_eq_false_iff_ne]; exact hnd
         have EL := Lib.hid (show okTm (.mk 8 nm need ws kids) = false by rw [EH.out, hd8, hok, hsv, dnd]; rfl)
         clear hok hsv dnd hnd
         go_wp2_with fail
         refine HN.out.mono ?_
         rintro e W2 ⟨rfl, hb2⟩
         obtain ⟨e0, e1, e2, e3, e4, -⟩ := row5 ((hb2.block _ (by omega)).trans ((hb.block _ (by omega)).trans HR0.out))
         clear c0 c1 c2 c3 c4
         go_wp2
         go_ret
         exact ⟨by rw [EL.out]; rfl, hbw.trans (hb2.mono hbs)⟩
      ·have HN := Lib.hid (by have h := isName_ref nm wr; rw [hok] at h; exact h)
       by_cases hnd : need = 0
       ·have dnd : decide (need = 0) = true := decide_eq_true hnd
        have znd : (need == 0) = true := by rw [hnd]; rfl
        by_cases hsm : ws.length + kids.length = 0
        ·have dsm : decide (ws.length + kids.length = 0) = true := decide_eq_true hsm
         have zsm : (((ws.length : Int) + (kids.length : Int)) == 0) = true := by rw [beq_iff_eq]; omega
         have EL := Lib.hid (show okTm (.mk 8 nm need ws kids) = true by rw [EH.out, hd8, hok, dnd, dsm]; rfl)
         clear hok dnd dsm hnd hsm
         go_wp2_with fail
         refine HN.out.mono ?_
         rintro e W2 ⟨rfl, hb2⟩
         obtain ⟨e0, e1, e2, e3, e4, -⟩ := row5 ((hb2.block _ (by omega)).trans ((hb.block _ (by omega)).trans HR0.out))
         clear c0 c1 c2 c3 c4
         go_wp2
         go_ret
         exact ⟨by rw [EL.out]; rfl, hbw.trans (hb2.mono hbs)⟩
        ·have dsm : decide (ws.length + kids.length = 0) = false := decide_eq_false hsm
         have zsm : (((ws.length : Int) + (kids.length : Int)) == 0) = false := by rw [beq_eq_false_iff_ne]; omega
         have EL := Lib.hid (show okTm (.mk 8 nm need ws kids) = false by rw [EH.out, hd8, hok, dnd, dsm]; rfl)
         clear hok dnd dsm hnd hsm
         go_wp2_with fail
         refine HN.out.mono ?_
         rintro e W2 ⟨rfl, hb2⟩
         obtain ⟨e0, e1, e2, e3, e4, -⟩ := row5 ((hb2.block _ (by omega)).trans ((hb.block _ (by omega)).trans HR0.out))
         clear c0 c1 c2 c3 c4
         go_wp2
         go_ret
         exact ⟨by rw [EL.out]; rfl, hbw.trans (hb2.mono hbs)⟩
       ·have dnd : decide (need = 0) = false := decide_eq_false hnd
        have znd : (need == 0) = false := by rw [beq_eq_false_iff_ne]; exact hnd
        have EL := Lib.hid (show okTm (.mk 8 nm need ws kids) = false by rw [EH.out, hd8, hok, dnd]; rfl)
        clear hok dnd hnd
        go_wp2_with fail
        refine HN.out.mono ?_
        rintro e W2 ⟨rfl, hb2⟩
        obtain ⟨e0, e1, e2, e3, e4, -⟩ := row5 ((hb2.block _ (by omega)).trans ((hb.block _ (by omega)).trans HR0.out))
        clear c0 c1 c2 c3 c4
        go_wp2
        go_ret
        exact ⟨by rw [EL.out]; rfl, hbw.trans (hb2.mono hbs)⟩
     have q8 : (op == 8) = false := by rw [beq_eq_false_iff_ne]; exact h8
     have HO := Lib.hid (show ¬ (1 ≤ op ∧ op ≤ 8) by omega)
     have EL := Lib.hid (show okTm (.mk op nm need ws kids) = false by rw [EH.out, hd0 _ _ _ _ HO.out])
     go_wp2
     go_ret
     exact ⟨by rw [EL.out]; rfl, hbw⟩
theorem isTerm_ref (t : Tm) : ITOk t := by
 have : ∀ (n : Nat) (t : Tm), tmSize t ≤ n → ITOk t := by
  intro n
  induction n with
  | zero => intro t ht; exact absurd ht (by cases t; rw [tmSize]; omega)
  | succ n ih => intro t ht; exact isTerm_step t (fun k hk => ih k (by have := tm_kid_size hk; omega))
 exact this _ t (Nat.le_refl _)
end Go.Proofs.YtipicaoinnblpaaGreatDoor
