/- The contract of the reference's Format. Printed by gen_tform.py. -/
import Derived.Test.YtipicaoinnblpaaGreatDoorPkTxd
import Derived.Test.YtipicaoinnblpaaGreatDoorPkTxc
import Derived.Test.YtipicaoinnblpaaGreatDoorPkTxb
import Derived.Test.YtipicaoinnblpaaGreatDoorPkEqb
namespace Go.Proofs.YtipicaoinnblpaaGreatDoor
open Go.RowKit

theorem dc_agg {w : World} {S : Nat → Prop} {d : Dc} {v : Value} (h : DcAt w S d v) : ∃ Z : Array Value, v = .agg Z ∧ Z.size = 22 := by
  obtain ⟨nA, nc, fA, fc, o1, m1, d1, wA1, wn1, wc1, kA1, kn1, kc1, o2, m2, d2, wA2, wn2, wc2, kA2, kn2, kc2, o3, m3, d3, wA3, wn3, wc3, kA3, kn3, kc3, rfl⟩ := dc_form h
  exact ⟨_, rfl, rfl⟩
attribute [local go_sem ↓] exec_loadD in
set_option maxRecDepth 100000 in
set_option maxHeartbeats 4000000 in
theorem format_ref (l : List Dc) (A : Option Addr) (c : Nat) (w : World) (S : Nat → Prop) (hl : ListAt (DcAt w S) w S 22 A l) (hS : ∀ g, S g → g < w.heap.size) (hsz : (l.map dcSize).sum ≤ 1100000) (hz : ∀ d ∈ l, TLim d ∧ ILim d) (hpw : Pow w) :
    Calls Tryz.prog 23 #[.slice A l.length c] w fun e w' => e = .returned (.tuple #[.string (bs (formatOf l).1), .int .i64 (formatOf l).2]) ∧ Below w.heap.size w w' := by
  have HL := Lib.hid hl
  have HZ := Lib.hid hz
  have HP := Lib.hid hpw
  have hll := dcs_len_sum l
  have HLE := Lib.hid (show ∀ k, (l.take k).all okDc = true → (dcsText (l.take k)).length ≤ 300000000 from fun k h => by have := dcs_text_size _ h; have := sum_take l k; omega)
  have HDL := Lib.hid (show ∀ d ∈ l, okDc d = true → (dcText d).length ≤ 300000000 from fun d hd h => by have := dc_text_size h; have := dc_in_sum hd; omega)
  have hlb : l.length ≤ 1100000 := by omega
  have hno : l.all okDc = false → formatOf l = ([], 1) := fun h => by unfold formatOf; rw [h]; rfl
  have hyes : l.all okDc = true → formatOf l = sizedOf (dcsText l) := fun h => by unfold formatOf; rw [h]; rfl
  have HNO := Lib.hid hno
  have HYES := Lib.hid hyes
  clear hl hz hpw hsz hll hno hyes
  go_enter Tryz.func23, Tryz.ntmps23
  go_wp2
  go_loopw [4, 5] (fun o x wr => ∃ k : Nat, k ≤ l.length ∧ x = .int .i64 k ∧ o = .string (bs (dcsText (l.take k))) ∧ Below w.heap.size w wr ∧ Hid (l.all okDc = (l.drop k).all okDc) ∧ Hid ((l.take k).all okDc = true)) (fun _ x _ => l.length - (intOf x).toNat)
  case atStart => exact ⟨0, Nat.zero_le _, rfl, rfl, Below.refl _ _, rfl, rfl⟩
  case round =>
    obtain ⟨k, hk, rfl, rfl, hb, hd, htk⟩ := hrel
    have hsr := hb.size
    obtain ⟨X, hX⟩ : ∃ X, X = bs (dcsText (l.take k)) := ⟨_, rfl⟩
    have hXs : X.size ≤ 300000000 := by rw [hX, bs_size]; exact HLE.out k htk.out
    rw [← hX]
    have HX := Lib.hid hX
    clear hX
    by_cases hlt : k < l.length
    · obtain ⟨g, o, v, rfl, hSg, hp, hc⟩ := el_cells (fun _ _ h => dc_len h) (HL.out.keep (P' := DcAt wr S) (kept_of hb hS) (fun _ _ h => h.keep (kept_of hb hS))) hlt
      obtain ⟨Z, rfl, hZ⟩ := dc_agg hp
      have hr : wr.rangeAt g (o + k * 22) Z.toList := fun j u hu => hc j u hu
      have hld := run_loadD wr g (o + k * 22) Z.toList hr (by simpa using hZ)
      rw [Array.toArray_toList] at hld
      have hgs : g < wr.heap.size := by have := hS g hSg; omega
      have hkI : (k : Int) < (l.length : Int) := by omega
      have hk0 : (0 : Int) ≤ (k : Int) := by omega
      have hmem : l[k] ∈ l := List.getElem_mem hlt
      have hC := isDecl_ref _ _ wr S hp (fun g hg => by have := hS g hg; omega) (HZ.out _ hmem).2
      have hdk : (l.drop k).all okDc = (okDc l[k] && (l.drop (k + 1)).all okDc) := by rw [List.drop_eq_getElem_cons hlt, List.all_cons]
      cases hq : okDc l[k]
      · rw [hq] at hC hdk
        have HC := Lib.hid hC
        have E := Lib.hid (HNO.out (by rw [hd.out, hdk, Bool.false_and]))
        clear hC hdk hq hp hc hr
        go_wp2_with fail
        refine HC.out.mono ?_
        rintro e W2 ⟨rfl, hb2⟩
        go_wp2
        go_ret2
        exact ⟨by rw [E.out]; rfl, hb.trans (hb2.mono hsr)⟩
      · have HD := Lib.hid (fun (W : World) (hW : Below wr.heap.size wr W) => declText_ref _ _ W S (hp.keep (kept_all hW)) (fun g hg => by have := hS g hg; have := hW.size; omega) hq (HZ.out _ hmem).1 ((HP.out.below hb).below hW))
        have hus : (bs (dcText l[k])).size ≤ 300000000 := by rw [bs_size]; exact HDL.out _ hmem hq
        have HS := Lib.hid (dcs_take l k hlt)
        have HTK := Lib.hid (show (l.take (k + 1)).all okDc = true by rw [List.take_succ_eq_append_getElem hlt, List.all_append, htk.out, List.all_cons, hq]; rfl)
        rw [hq] at hC hdk
        have HC := Lib.hid hC
        have E := Lib.hid (show l.all okDc = (l.drop (k + 1)).all okDc by rw [hd.out, hdk, Bool.true_and])
        obtain ⟨U, hU⟩ : ∃ U, U = bs (dcText l[k]) := ⟨_, rfl⟩
        rw [← hU] at HD hus
        have HU := Lib.hid hU
        have HR := Lib.hid hr
        clear hC hdk hq hp hc hr hU hmem
        go_wp2_with fail
        refine HC.out.mono ?_
        rintro e W2 ⟨rfl, hb2⟩
        have hs2 := hb2.size
        have hld2 := run_loadD W2 g (o + k * 22) Z.toList (fun j u hu => (hb2.cell (p := ⟨g, o + k * 22 + j, none⟩) hgs).trans (HR.out j u hu)) (by simpa using hZ)
        rw [Array.toArray_toList] at hld2
        clear hld
        go_wp2_with fail
        refine (HD.out W2 hb2).mono ?_
        rintro e W3 ⟨rfl, hb3⟩
        go_wp2
        go_roundw
        case rel =>
          refine ⟨k + 1, by omega, by go_num, ?_, hb.trans ((hb2.trans (hb3.mono hs2)).mono hsr), E.out, HTK.out⟩
          rw [HS.out, HX.out, HU.out, show (⟨#[10]⟩ : ByteArray) = bs [10] from rfl]
          simp only [bs_append, List.append_assoc]
        case measure => simp [intOf]; omega
    · obtain rfl : k = l.length := by omega
      have hkI : ¬ (l.length : Int) < (l.length : Int) := by omega
      have hal : l.all okDc = true := by rw [hd.out, List.drop_length]; rfl
      have HZR := Lib.hid (sized_ref X wr)
      rw [show X = bs (dcsText l) by rw [HX.out, List.take_length]] at HZR
      rw [show X = bs (dcsText l) by rw [HX.out, List.take_length]]
      rw [bs_data, ← HYES.out hal] at HZR
      clear hal hXs HX
      go_wp2_with fail
      refine HZR.out.mono ?_
      rintro e W2 ⟨rfl, hb2⟩
      go_wp2
      go_ret2
      exact ⟨rfl, hb.trans (hb2.mono hsr)⟩
end Go.Proofs.YtipicaoinnblpaaGreatDoor
