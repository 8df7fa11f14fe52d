/- The contract of the reference's Config. -/
import Derived.Test.YtdclhgngjbneiaaDoorConfig
namespace Go.Proofs.YtdclhgngjbneiaaDoor
open Go.RowKit

set_option maxHeartbeats 8000000 in
set_option maxRecDepth 100000 in
theorem ref_config_any (A A1 A2 A3 A4 : Option Addr) (n c n1 c1 n2 c2 n3 c3 n4 c4 : Nat) (wit : Int) (ss : List ByteArray) (cfgs : List Cfg) (i : Int) (w : World)
    (hn : n = ss.length) (hsee : Sees w w.heap.size 1 A n (strVals ss)) (hlim : n ≤ 20) (htot : tot ss ≤ 2000)
    (hn2 : n2 = cfgs.length) (hl2 : n2 ≤ 9223372036854775807) (hsee2 : Sees w w.heap.size 6 A2 n2 (cfgVals cfgs)) (hcfg : ∀ x ∈ cfgs, x.ok w w.heap.size ∧ x.small) :
    Calls Tryd.prog 21 #[.agg #[.slice A n c, .slice A1 n1 c1, .int .u16 wit, .slice A2 n2 c2, .slice A3 n3 c3, .slice A4 n4 c4], .int .i64 i] w (CfgPost ss cfgs i w) := by
  have HN := Lib.hid hn
  have HN2 := Lib.hid hn2
  have HC := Lib.hid hcfg
  clear hn hn2 hcfg
  by_cases hi0 : i < 0
  · have hr1 : cfgS ss cfgs i = bs [] := by unfold cfgS; rw [if_neg (by omega)]
    have hr2 : cfgE ss cfgs i = 7 := by unfold cfgE; rw [if_neg (by omega)]
    have HR1 := Lib.hid hr1
    have HR2 := Lib.hid hr2
    clear hr1 hr2
    go_enter Tryd.func21, Tryd.ntmps21
    go_wp2
    go_ret2
    exact ⟨by rw [HR1.out, HR2.out]; rfl, (Below.refl _ _).alloc (Nat.le_refl _) _⟩
  by_cases hi2 : (n2 : Int) ≤ i
  · have hnone : cfgs[i.toNat]? = none := List.getElem?_eq_none (by have := HN2.out; omega)
    have hr1 : cfgS ss cfgs i = bs [] := by unfold cfgS; rw [if_pos (by omega), hnone]
    have hr2 : cfgE ss cfgs i = 7 := by unfold cfgE; rw [if_pos (by omega), hnone]
    have HR1 := Lib.hid hr1
    have HR2 := Lib.hid hr2
    clear hr1 hr2 hnone
    go_enter Tryd.func21, Tryd.ntmps21
    go_wp2
    go_ret2
    exact ⟨by rw [HR1.out, HR2.out]; rfl, (Below.refl _ _).alloc (Nat.le_refl _) _⟩
  obtain ⟨k, rfl⟩ := Int.eq_ofNat_of_zero_le (show 0 ≤ i by omega)
  have hkn : k < n2 := by omega
  have hkc : k < cfgs.length := by rw [← HN2.out]; exact hkn
  obtain ⟨x, hx⟩ : ∃ x, cfgs[k]? = some x := ⟨_, List.getElem?_eq_getElem hkc⟩
  obtain ⟨g, o, rfl, hg, k0, k1, k2, k3, k4, k5⟩ := cfg_cells hsee2 k x hx hkn
  have hxm : x ∈ cfgs := List.mem_of_getElem? hx
  obtain ⟨hok, hsm⟩ := HC.out x hxm
  have hr1 : cfgS ss cfgs (k : Int) = if cfgFits ss x then cfgStr ss x else bs [] := by unfold cfgS; rw [if_pos (by omega), Int.toNat_natCast, hx]
  have hr2 : cfgE ss cfgs (k : Int) = if cfgFits ss x then 0 else 7 := by unfold cfgE; rw [if_pos (by omega), Int.toNat_natCast, hx]
  have HR1 := Lib.hid hr1
  have HR2 := Lib.hid hr2
  clear hr1 hr2 hx hxm HC hkc
  obtain ⟨nm, kd, mb, rA, rn, rc, rd, wA, wn, wc, wt, fA, fn, fc, ft⟩ := x
  obtain ⟨hmb, ⟨hrn, hrs, hrb⟩, ⟨hwn, hws, hwb⟩, ⟨hfn, hfs, hfb⟩⟩ := hok
  obtain ⟨hs1, hs2, hs3, hs4⟩ := hsm
  simp only at k0 k1 k2 k3 k4 k5 hmb hrn hrs hrb hwn hws hwb hfn hfs hfb hs1 hs2 hs3 hs4
  have HMB := Lib.hid hmb
  have HRN := Lib.hid hrn
  have HRB := Lib.hid hrb
  have HWN := Lib.hid hwn
  have HWB := Lib.hid hwb
  have HFN := Lib.hid hfn
  have HFB := Lib.hid hfb
  clear hmb hrn hrb hwn hwb hfn hfb
  go_enter Tryd.func21, Tryd.ntmps21
  go_wp2_with fail
  have hbW : Below w.heap.size w ((w.alloc (.cells #[.slice A n c, .slice A1 n1 c1, .int .u16 wit, .slice (some ⟨g, o, none⟩) n2 c2, .slice A3 n3 c3, .slice A4 n4 c4] 33)).alloc (.cells #[.string nm, .int .i64 kd, .int .u16 mb, .slice rA rn rc, .slice wA wn wc, .slice fA fn fc] 63)) := ((Below.refl _ _).alloc (Nat.le_refl _) _).alloc (by simp) _
  obtain ⟨W, hW⟩ : ∃ W : World, W = (w.alloc (.cells #[.slice A n c, .slice A1 n1 c1, .int .u16 wit, .slice (some ⟨g, o, none⟩) n2 c2, .slice A3 n3 c3, .slice A4 n4 c4] 33)).alloc (.cells #[.string nm, .int .i64 kd, .int .u16 mb, .slice rA rn rc, .slice wA wn wc, .slice fA fn fc] 63) := ⟨_, rfl⟩
  have hWs : w.heap.size + 2 ≤ W.heap.size := by rw [hW]; simp
  have bx := fun (W' : World) (hb : Below W.heap.size W W') => box6 A A1 (some ⟨g, o, none⟩) A3 A4 n c n1 c1 n2 c2 n3 c3 n4 c4 wit (w := w) (wr := W') (B := w.heap.size + 1) (((Below.refl _ _).alloc (by simp) _).trans ((show Below W.heap.size ((w.alloc (.cells #[.slice A n c, .slice A1 n1 c1, .int .u16 wit, .slice (some ⟨g, o, none⟩) n2 c2, .slice A3 n3 c3, .slice A4 n4 c4] 33)).alloc (.cells #[.string nm, .int .i64 kd, .int .u16 mb, .slice rA rn rc, .slice wA wn wc, .slice fA fn fc] 63)) W' by rw [← hW]; exact hb).mono (by omega))) (by omega)
  have hsq : (w.alloc (.cells #[.slice A n c, .slice A1 n1 c1, .int .u16 wit, .slice (some ⟨g, o, none⟩) n2 c2, .slice A3 n3 c3, .slice A4 n4 c4] 33)).heap.size = w.heap.size + 1 := by simp
  have cx := fun (W' : World) (hb : Below W.heap.size W W') => cfgbox nm kd mb rA rn rc wA wn wc fA fn fc (w.alloc (.cells #[.slice A n c, .slice A1 n1 c1, .int .u16 wit, .slice (some ⟨g, o, none⟩) n2 c2, .slice A3 n3 c3, .slice A4 n4 c4] 33)) W' W.heap.size (by simp; omega) (by rw [← hW]; exact hb)
  rw [hsq] at cx
  rw [← hW] at hbW ⊢
  have BX := Lib.hid bx
  have CX := Lib.hid cx
  have hseeW := hsee.below hbW (Nat.le_refl _)
  have hrsW := hrs.below hbW (Nat.le_refl _)
  have hwsW := hws.below hbW (Nat.le_refl _)
  have hfsW := hfs.below hbW (Nat.le_refl _)
  clear bx cx hW hsq hsee hsee2 hrs hws hfs k0 k1 k2 k3 k4 k5
  have hlim' : n ≤ 1000000000000 := by omega
  refine (ref_set_val _ _ _ _ _ _ _ _ _ _ _ _ _ _ _ _ ss mb W HMB.out HN.out (hseeW.mono hbW.size) hlim' (by omega)).mono ?_
  rintro e w1 ⟨rfl, hb1⟩
  obtain ⟨b0, b1, b2, b3, b4, b5⟩ := BX.out w1 hb1
  obtain ⟨q0, q1, q2, q3, q4, q5⟩ := CX.out w1 hb1
  obtain ⟨T1, hT1⟩ : ∃ T, T = setStr ss mb := ⟨_, rfl⟩
  obtain ⟨E1, hE1⟩ : ∃ E, E = setErr ss mb := ⟨_, rfl⟩
  have hT1s : T1.size ≤ 40000 := by have := setStr_size ss mb; rw [hT1]; omega
  rw [← hT1, ← hE1]
  have HT1 := Lib.hid hT1
  have HE1 := Lib.hid hE1
  clear hT1 hE1
  go_wp2_with fail
  refine ((ref_family_any _ _ _ _ _ _ _ _ _ _ _ _ _ _ _ _ rA rn rc ss rd w1 HRB.out HN.out ((hseeW.below hb1 hbW.size).mono (Nat.le_trans hbW.size hb1.size)) hlim' (by omega) HRN.out ((hrsW.below hb1 hbW.size).mono (Nat.le_trans hbW.size hb1.size)) (by omega)).mono fun _ _ h => fam_post h).mono ?_
  rintro e w2 ⟨rfl, hb2⟩
  have hb2 : Below W.heap.size W w2 := hb1.trans (hb2.mono hb1.size)
  clear b0 b1 b2 b3 b4 b5 q0 q1 q2 q3 q4 q5
  obtain ⟨b0, b1, b2, b3, b4, b5⟩ := BX.out w2 hb2
  obtain ⟨q0, q1, q2, q3, q4, q5⟩ := CX.out w2 hb2
  obtain ⟨T2, hT2⟩ : ∃ T, T = famStr ss rd := ⟨_, rfl⟩
  obtain ⟨E2, hE2⟩ : ∃ E, E = famErr ss rd := ⟨_, rfl⟩
  have hT2s : T2.size ≤ 20000000 := by
    have h1 := famStr_size ss rd
    have h2 : rd.length * (16 * tot ss + 34) ≤ 420 * (16 * tot ss + 34) := Nat.mul_le_mul_right _ (by have := HRN.out; omega)
    have h3 := HRN.out
    rw [hT2]; omega
  rw [← hT2, ← hE2]
  have HT2 := Lib.hid hT2
  have HE2 := Lib.hid hE2
  clear hT2 hE2
  go_wp2_with fail
  refine ((ref_family_any _ _ _ _ _ _ _ _ _ _ _ _ _ _ _ _ wA wn wc ss wt w2 HWB.out HN.out ((hseeW.below hb2 hbW.size).mono (Nat.le_trans hbW.size hb2.size)) hlim' (by omega) HWN.out ((hwsW.below hb2 hbW.size).mono (Nat.le_trans hbW.size hb2.size)) (by omega)).mono fun _ _ h => fam_post h).mono ?_
  rintro e w3 ⟨rfl, hb3⟩
  have hb3 : Below W.heap.size W w3 := hb2.trans (hb3.mono hb2.size)
  clear b0 b1 b2 b3 b4 b5 q0 q1 q2 q3 q4 q5
  obtain ⟨b0, b1, b2, b3, b4, b5⟩ := BX.out w3 hb3
  obtain ⟨q0, q1, q2, q3, q4, q5⟩ := CX.out w3 hb3
  obtain ⟨T3, hT3⟩ : ∃ T, T = famStr ss wt := ⟨_, rfl⟩
  obtain ⟨E3, hE3⟩ : ∃ E, E = famErr ss wt := ⟨_, rfl⟩
  have hT3s : T3.size ≤ 20000000 := by
    have h1 := famStr_size ss wt
    have h2 : wt.length * (16 * tot ss + 34) ≤ 420 * (16 * tot ss + 34) := Nat.mul_le_mul_right _ (by have := HWN.out; omega)
    have h3 := HWN.out
    rw [hT3]; omega
  rw [← hT3, ← hE3]
  have HT3 := Lib.hid hT3
  have HE3 := Lib.hid hE3
  clear hT3 hE3
  go_wp2_with fail
  refine ((ref_faults_any _ _ _ _ _ _ _ _ _ _ _ _ _ _ _ _ fA fn fc ss ft w3 HFB.out HN.out ((hseeW.below hb3 hbW.size).mono (Nat.le_trans hbW.size hb3.size)) hlim' (by omega) HFN.out ((hfsW.below hb3 hbW.size).mono (Nat.le_trans hbW.size hb3.size)) (by omega)).mono fun _ _ h => faults_post h).mono ?_
  rintro e w4 ⟨rfl, hb4⟩
  have hb4 : Below W.heap.size W w4 := hb3.trans (hb4.mono hb3.size)
  clear b0 b1 b2 b3 b4 b5 q0 q1 q2 q3 q4 q5
  obtain ⟨q0, q1, q2, q3, q4, q5⟩ := CX.out w4 hb4
  obtain ⟨T4, hT4⟩ : ∃ T, T = faultsStr ss ft := ⟨_, rfl⟩
  obtain ⟨E4, hE4⟩ : ∃ E, E = faultsErr ss ft := ⟨_, rfl⟩
  have hT4s : T4.size ≤ 20000000 := by
    have h1 := faultsStr_size ss ft
    have h2 : ft.length * (32 * tot ss + 100) ≤ 110 * (32 * tot ss + 100) := Nat.mul_le_mul_right _ (by have := HFN.out; omega)
    have h3 := HFN.out
    rw [hT4]; omega
  rw [← hT4, ← hE4]
  have HT4 := Lib.hid hT4
  have HE4 := Lib.hid hE4
  have hbw4 := hbW.trans (hb4.mono hbW.size)
  clear hT4 hE4
  have bad : cfgFits ss ⟨nm, kd, mb, rA, rn, rc, rd, wA, wn, wc, wt, fA, fn, fc, ft⟩ = false → CfgPost ss cfgs (k : Int) w (.returned (.tuple #[.string ⟨#[]⟩, .int .i64 7])) w4 := by
    intro h
    refine ⟨?_, hbw4⟩
    rw [HR1.out, HR2.out, h]; rfl
  have BAD := Lib.hid bad
  clear bad
  cases hf1 : fitsB ss mb
  · have e1 : (E1 != 0) = true := by rw [HE1.out]; unfold setErr; rw [hf1]; rfl
    have HF1 := Lib.hid hf1
    clear hf1
    go_wp2
    go_ret2
    exact BAD.out (by unfold cfgFits; rw [HF1.out]; rfl)
  · have e1 : (E1 != 0) = false := by rw [HE1.out]; unfold setErr; rw [hf1]; rfl
    have HF1 := Lib.hid hf1
    clear hf1
    cases hf2 : famB ss rd
    · have e2 : (E2 != 0) = true := by rw [HE2.out]; unfold famErr; rw [hf2]; rfl
      have HF2 := Lib.hid hf2
      clear hf2
      go_wp2
      go_ret2
      exact BAD.out (by unfold cfgFits; rw [HF1.out, HF2.out]; rfl)
    · have e2 : (E2 != 0) = false := by rw [HE2.out]; unfold famErr; rw [hf2]; rfl
      have HF2 := Lib.hid hf2
      clear hf2
      cases hf3 : famB ss wt
      · have e3 : (E3 != 0) = true := by rw [HE3.out]; unfold famErr; rw [hf3]; rfl
        have HF3 := Lib.hid hf3
        clear hf3
        go_wp2
        go_ret2
        exact BAD.out (by unfold cfgFits; rw [HF1.out, HF2.out, HF3.out]; rfl)
      · have e3 : (E3 != 0) = false := by rw [HE3.out]; unfold famErr; rw [hf3]; rfl
        have HF3 := Lib.hid hf3
        clear hf3
        cases hf4 : faultsB ss ft
        · have e4 : (E4 != 0) = true := by rw [HE4.out]; unfold faultsErr; rw [hf4]; rfl
          have HF4 := Lib.hid hf4
          clear hf4
          go_wp2
          go_ret2
          exact BAD.out (by unfold cfgFits; rw [HF1.out, HF2.out, HF3.out, HF4.out]; rfl)
        · have e4 : (E4 != 0) = false := by rw [HE4.out]; unfold faultsErr; rw [hf4]; rfl
          have HF4 := Lib.hid hf4
          clear hf4
          have hps := protoStr_size kd
          have HP := Lib.hid fun W' => ref_protocol_any kd W'
          obtain ⟨Pk, hPk⟩ : ∃ Pk, Pk = protoStr kd := ⟨_, rfl⟩
          rw [← hPk] at hps HP
          have HPK := Lib.hid hPk
          clear hPk
          go_wp2
          go_quiet ((go_at_call 33; exact Calls.quiet_of_same (HP.out _)))
          go_wp2
          go_ret2
          refine ⟨?_, below_drewN hbw4 _⟩
          rw [HR1.out, HR2.out]
          have hall : cfgFits ss ⟨nm, kd, mb, rA, rn, rc, rd, wA, wn, wc, wt, fA, fn, fc, ft⟩ = true := by unfold cfgFits; rw [HF1.out, HF2.out, HF3.out, HF4.out]; rfl
          rw [if_pos hall, if_pos hall]
          unfold cfgStr
          simp only
          rw [← HPK.out, ← HT1.out, ← HT2.out, ← HT3.out, ← HT4.out]
          rfl
end Go.Proofs.YtdclhgngjbneiaaDoor
