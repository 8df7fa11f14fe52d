/- The contract of the reference's Faults. -/
import Derived.Test.YtdclhgngjbneiaaDoorFaults
namespace Go.Proofs.YtdclhgngjbneiaaDoor
open Go.RowKit

set_option maxHeartbeats 4000000 in
set_option maxRecDepth 100000 in
theorem ref_faults_any (A A1 A2 A3 A4 : Option Addr) (n c n1 c1 n2 c2 n3 c3 n4 c4 : Nat) (wit : Int) (Af : Option Addr) (nf cf : Nat) (ss : List ByteArray) (fs : List (Nat × Nat)) (w : World) (hfs : ∀ j, j < fs.length → (fs.getD j (0, 0)).1 < 65536 ∧ (fs.getD j (0, 0)).2 < 65536)
    (hn : n = ss.length) (hsee : Sees w w.heap.size 1 A n (strVals ss)) (hlim : n ≤ 1000000000000) (htot : tot ss ≤ 1000000)
    (hnf : nf = fs.length) (hseef : Sees w w.heap.size 2 Af nf (faultVals fs)) (hlimf : nf ≤ 5000) :
    Calls Tryd.prog 16 #[.agg #[.slice A n c, .slice A1 n1 c1, .int .u16 wit, .slice A2 n2 c2, .slice A3 n3 c3, .slice A4 n4 c4], .slice Af nf cf] w (FaultsPost ss fs w) := by
  have HN := Lib.hid hn
  have HS := Lib.hid hfs
  have HF := Lib.hid hnf
  clear hn hfs hnf
  go_enter Tryd.func16, Tryd.ntmps16
  go_wp2
  obtain ⟨W, hW⟩ : ∃ W, W = w.alloc (.cells #[.slice A n c, .slice A1 n1 c1, .int .u16 wit, .slice A2 n2 c2, .slice A3 n3 c3, .slice A4 n4 c4] 33) := ⟨_, rfl⟩
  have hWs : W.heap.size = w.heap.size + 1 := by rw [hW]; simp
  have hbW : Below w.heap.size w W := by rw [hW]; exact (Below.refl _ _).alloc (Nat.le_refl _) _
  rw [← hW]
  have HW := Lib.hid hW
  have HWs := Lib.hid hWs
  clear hW hWs
  go_loopw [6, 7] (fun v x wr => ∃ k : Nat, k ≤ nf ∧ x = .int .i64 k ∧ wr.ownsRow W.heap.size 9 1 v (fs.take k).length (strVals (faultTexts ss (fs.take k))) ∧ Below W.heap.size W wr ∧ ∀ j, j < k → faultFits ss (fs.getD j (0, 0))) (fun _ x _ => nf - (intOf x).toNat)
  case atStart => exact ⟨0, Nat.zero_le _, rfl, World.ownsRow_nil _ _ _ _, Below.refl _ _, fun j hj => absurd hj (by omega)⟩
  case round =>
    obtain ⟨k, hk, rfl, hown, hb, hall⟩ := hrel
    have HA := Lib.hid hall
    clear hall
    have hsz := hb.size
    obtain ⟨b0, b1, b2, b3, b4, b5⟩ := box6 A A1 A2 A3 A4 n c n1 c1 n2 c2 n3 c3 n4 c4 wit (w := w) (by rw [← HW.out]; exact hb) (by rw [HWs.out]; omega)
    have hbw : Below w.heap.size w wr := hbW.trans (hb.mono hbW.size)
    have hw0 : w.heap.size < wr.heap.size := by have := HWs.out; omega
    by_cases hlt : k < nf
    · obtain ⟨g, o, rfl, hg, hcell⟩ := (hseef.below hbw (Nat.le_refl _)).cells (by omega)
      have hkf : k < fs.length := by rw [← HF.out]; exact hlt
      have hck := hcell _ _ (faultVals_get fs k hkf).1
      have hck2 := hcell _ _ (faultVals_get fs k hkf).2
      have h16 := HS.out k hkf
      have hsn := take_snoc_pair fs k hkf
      clear hcell
      obtain ⟨p, hp⟩ : ∃ p, p = fs.getD k (0, 0) := ⟨_, rfl⟩
      rw [← hp] at hck hck2 h16 hsn
      have HM := Lib.hid hp
      have HSN := Lib.hid hsn
      have H16 := Lib.hid h16
      clear hp hsn h16
      obtain ⟨x, y⟩ := p
      simp only at hck hck2
      rw [← Nat.add_assoc] at hck2
      have hkI : (k : Int) < (nf : Int) := by omega
      have hsee2 := (hsee.below hbw (Nat.le_refl _)).mono hbw.size
      have HC := Lib.hid fun (s : Nat) (hs : s < 65536) (W' : World) (hbb : Below wr.heap.size wr W') => ref_set_val A A1 A2 A3 A4 n c n1 c1 n2 c2 n3 c3 n4 c4 wit ss s W' hs HN.out ((hsee2.below hbb (Nat.le_refl _)).mono hbb.size) hlim (by omega)
      go_wp2
      go_region_held3 (fun wr => wr.cell? ⟨w.heap.size, 0, none⟩ = some (.slice A n c) ∧ wr.cell? ⟨w.heap.size, 1, none⟩ = some (.slice A1 n1 c1) ∧ wr.cell? ⟨w.heap.size, 2, none⟩ = some (.int .u16 wit) ∧ wr.cell? ⟨w.heap.size, 3, none⟩ = some (.slice A2 n2 c2) ∧ wr.cell? ⟨w.heap.size, 4, none⟩ = some (.slice A3 n3 c3) ∧ wr.cell? ⟨w.heap.size, 5, none⟩ = some (.slice A4 n4 c4) ∧ wr.cell? ⟨g, o + k * 2, none⟩ = some (.int .u16 x) ∧ wr.cell? ⟨g, o + k * 2 + 1, none⟩ = some (.int .u16 y)) (first | go_keep | (refine ⟨?_, ?_, ?_, ?_, ?_, ?_, ?_, ?_⟩ <;> (rw [hb2.cell (by simp; omega)]; go_keep)))
        ((go_at_call 12; refine (HC.out x H16.out.1 _ (below_drewN (Below.refl _ _) _)).mono ?_; rintro e w2 ⟨rfl, hb2⟩))
      have hb2' : Below wr.heap.size wr w2 := (below_drewN (Below.refl _ _) _).trans hb2
      have hsz2 := hb2'.size
      rename_i hHeld
      obtain ⟨b0', b1', b2', b3', b4', b5', hck', hck2'⟩ := hHeld
      have HC2 := Lib.hid fun (W' : World) (hbb : Below w2.heap.size w2 W') => HC.out y H16.out.2 W' (hb2'.trans (hbb.mono hsz2))
      clear hb2 b0 b1 b2 b3 b4 b5 hck hck2 HC
      obtain ⟨T, hT⟩ : ∃ T, T = setStr ss x := ⟨_, rfl⟩
      obtain ⟨E, hE⟩ : ∃ E, E = setErr ss x := ⟨_, rfl⟩
      have hTs : T.size ≤ 200000000 := by have := setStr_size ss x; rw [hT]; omega
      rw [← hT, ← hE]
      have HT := Lib.hid hT
      have HE := Lib.hid hE
      clear hT hE
      go_wp2
      go_region_held3 (fun wr => wr.cell? ⟨w.heap.size, 0, none⟩ = some (.slice A n c) ∧ wr.cell? ⟨w.heap.size, 1, none⟩ = some (.slice A1 n1 c1) ∧ wr.cell? ⟨w.heap.size, 2, none⟩ = some (.int .u16 wit) ∧ wr.cell? ⟨w.heap.size, 3, none⟩ = some (.slice A2 n2 c2) ∧ wr.cell? ⟨w.heap.size, 4, none⟩ = some (.slice A3 n3 c3) ∧ wr.cell? ⟨w.heap.size, 5, none⟩ = some (.slice A4 n4 c4) ∧ wr.cell? ⟨g, o + k * 2, none⟩ = some (.int .u16 x) ∧ wr.cell? ⟨g, o + k * 2 + 1, none⟩ = some (.int .u16 y)) (first | go_keep | (refine ⟨?_, ?_, ?_, ?_, ?_, ?_, ?_, ?_⟩ <;> (rw [hb3.cell (by simp; omega)]; go_keep)))
        ((go_at_call 12; refine (HC2.out _ (below_drewN (Below.refl _ _) _)).mono ?_; rintro e w3 ⟨rfl, hb3⟩))
      have hb3' : Below wr.heap.size wr w3 := hb2'.trans (((below_drewN (Below.refl _ _) _).trans hb3).mono hsz2)
      have hsz3 := hb3'.size
      rename_i hHeld
      obtain ⟨_, _, _, _, _, _, hck3, hck4⟩ := hHeld
      have hown2 := own_below hown hb3' (Nat.le_refl _)
      have hlk : (fs.take k).length ≤ k := List.length_take_le _ _
      obtain ⟨U, hU⟩ : ∃ U, U = setStr ss y := ⟨_, rfl⟩
      obtain ⟨F, hF⟩ : ∃ F, F = setErr ss y := ⟨_, rfl⟩
      have hUs : U.size ≤ 200000000 := by have := setStr_size ss y; rw [hU]; omega
      rw [← hU, ← hF]
      have HU := Lib.hid hU
      have HE2 := Lib.hid hF
      clear hU hF hb3 b0' b1' b2' b3' b4' b5' hck' hck2' HC2
      by_cases hfx : fits ss x
      · have hE0 : (E != 0) = false := by rw [HE.out, setErr_yes hfx]; rfl
        have hTT : T = bs (setText ss x) := by rw [HT.out, setStr_yes hfx]
        have HFX := Lib.hid hfx
        have HTT := Lib.hid hTT
        clear hfx hTT
        by_cases hfy : fits ss y
        · have hF0 : (F != 0) = false := by rw [HE2.out, setErr_yes hfy]; rfl
          have hUU : U = bs (setText ss y) := by rw [HU.out, setStr_yes hfy]
          have HFY := Lib.hid hfy
          have HUU := Lib.hid hUU
          clear hfy hUU
          by_cases hx0 : x = 0
          · have HX0 := Lib.hid hx0
            have ex : ((x : Int) == 0) = true := by rw [beq_iff_eq]; omega
            by_cases hy0 : y = 0
            · have HY0 := Lib.hid hy0
              have ey : ((y : Int) == 0) = true := by rw [beq_iff_eq]; omega
              clear hx0 hy0
              go_wp2_with (at_builtin; refine push_str w3 rfl (.tmp 67) (.tmp 68) rfl W.heap.size _ _ _ hown2 rfl ⟨#[110, 111, 110, 101]⟩ rfl (by omega) (by omega) ?_; intro v' w4 hown4 hb4)
              go_roundw
              case rel =>
                refine ⟨k + 1, by omega, by go_num, ?_, (hb.trans (hb3'.mono (by omega))).trans (hb4 _ (Nat.le_refl _)), ?_⟩
                · rw [HSN.out, faultTexts_snoc, strVals_snoc, List.length_append]
                  have e : (⟨#[110, 111, 110, 101]⟩ : ByteArray) = bs (faultOf ss x y) := by unfold faultOf; rw [if_pos ⟨HX0.out, HY0.out⟩]; rfl
                  rw [← e]; exact hown4
                · intro j hj
                  by_cases e : j = k
                  · subst e; rw [← HM.out]; exact ⟨HFX.out, HFY.out⟩
                  · exact HA.out j (by omega)
              case measure => simp [intOf]; omega
            · have HY0 := Lib.hid hy0
              have ey : ((y : Int) == 0) = false := by rw [beq_eq_false_iff_ne]; omega
              clear hx0 hy0
              go_wp2_with (at_builtin; refine push_str w3 rfl (.tmp 89) (.tmp 92) rfl W.heap.size _ _ _ hown2 rfl ((⟨#[99, 114, 97, 115, 104, 32]⟩ : ByteArray) ++ U) rfl (by omega) (by omega) ?_; intro v' w4 hown4 hb4)
              go_roundw
              case rel =>
                refine ⟨k + 1, by omega, by go_num, ?_, (hb.trans (hb3'.mono (by omega))).trans (hb4 _ (Nat.le_refl _)), ?_⟩
                · rw [HSN.out, faultTexts_snoc, strVals_snoc, List.length_append]
                  have e : ((⟨#[99, 114, 97, 115, 104, 32]⟩ : ByteArray) ++ U) = bs (faultOf ss x y) := by unfold faultOf; rw [if_neg (fun h => HY0.out h.2), if_neg HY0.out, if_pos HX0.out, ← bs_append, ← HUU.out]; rfl
                  rw [← e]; exact hown4
                · intro j hj
                  by_cases e : j = k
                  · subst e; rw [← HM.out]; exact ⟨HFX.out, HFY.out⟩
                  · exact HA.out j (by omega)
              case measure => simp [intOf]; omega
          · have HX0 := Lib.hid hx0
            have ex : ((x : Int) == 0) = false := by rw [beq_eq_false_iff_ne]; omega
            by_cases hy0 : y = 0
            · have HY0 := Lib.hid hy0
              have ey : ((y : Int) == 0) = true := by rw [beq_iff_eq]; omega
              clear hx0 hy0
              go_wp2_with (at_builtin; refine push_str w3 rfl (.tmp 77) (.tmp 80) rfl W.heap.size _ _ _ hown2 rfl ((⟨#[98, 121, 122, 32]⟩ : ByteArray) ++ T) rfl (by omega) (by omega) ?_; intro v' w4 hown4 hb4)
              go_roundw
              case rel =>
                refine ⟨k + 1, by omega, by go_num, ?_, (hb.trans (hb3'.mono (by omega))).trans (hb4 _ (Nat.le_refl _)), ?_⟩
                · rw [HSN.out, faultTexts_snoc, strVals_snoc, List.length_append]
                  have e : ((⟨#[98, 121, 122, 32]⟩ : ByteArray) ++ T) = bs (faultOf ss x y) := by unfold faultOf; rw [if_neg (fun h => HX0.out h.1), if_pos HY0.out, ← bs_append, ← HTT.out]; rfl
                  rw [← e]; exact hown4
                · intro j hj
                  by_cases e : j = k
                  · subst e; rw [← HM.out]; exact ⟨HFX.out, HFY.out⟩
                  · exact HA.out j (by omega)
              case measure => simp [intOf]; omega
            · have HY0 := Lib.hid hy0
              have ey : ((y : Int) == 0) = false := by rw [beq_eq_false_iff_ne]; omega
              clear hx0 hy0
              go_wp2_with (at_builtin; refine push_str w3 rfl (.tmp 44) (.tmp 50) rfl W.heap.size _ _ _ hown2 rfl ((⟨#[98, 121, 122, 32]⟩ : ByteArray) ++ T ++ (⟨#[32, 99, 114, 97, 115, 104, 32]⟩ : ByteArray) ++ U) rfl (by omega) (by omega) ?_; intro v' w4 hown4 hb4)
              go_roundw
              case rel =>
                refine ⟨k + 1, by omega, by go_num, ?_, (hb.trans (hb3'.mono (by omega))).trans (hb4 _ (Nat.le_refl _)), ?_⟩
                · rw [HSN.out, faultTexts_snoc, strVals_snoc, List.length_append]
                  have e : ((⟨#[98, 121, 122, 32]⟩ : ByteArray) ++ T ++ (⟨#[32, 99, 114, 97, 115, 104, 32]⟩ : ByteArray) ++ U) = bs (faultOf ss x y) := by unfold faultOf; rw [if_neg (fun h => HX0.out h.1), if_neg HY0.out, if_neg HX0.out, ← bs_append, ← bs_append, ← bs_append, ← HTT.out, ← HUU.out]; rfl
                  rw [← e]; exact hown4
                · intro j hj
                  by_cases e : j = k
                  · subst e; rw [← HM.out]; exact ⟨HFX.out, HFY.out⟩
                  · exact HA.out j (by omega)
              case measure => simp [intOf]; omega
        · have hF0 : (F != 0) = true := by rw [HE2.out, setErr_no hfy]; rfl
          have HFY := Lib.hid hfy
          clear hfy
          go_wp2
          go_ret2
          refine ⟨hbw.trans (hb3'.mono hbw.size), fun h => ?_, fun _ => rfl⟩
          exact absurd (h k (by rw [← HF.out]; exact hlt)) (by rw [← HM.out]; exact fun h => HFY.out h.2)
      · have hE0 : (E != 0) = true := by rw [HE.out, setErr_no hfx]; rfl
        have HFX := Lib.hid hfx
        clear hfx
        go_wp2
        go_ret2
        refine ⟨hbw.trans (hb3'.mono hbw.size), fun h => ?_, fun _ => rfl⟩
        exact absurd (h k (by rw [← HF.out]; exact hlt)) (by rw [← HM.out]; exact fun h => HFX.out h.1)
    · obtain rfl : k = nf := by omega
      rw [List.take_of_length_le (by rw [← HF.out]; exact Nat.le_refl _), ← HF.out] at hown
      have hfin : faultsFit ss fs := fun j hj => HA.out j (by rw [HF.out]; exact hj)
      have HFIN := Lib.hid hfin
      clear hfin
      obtain ⟨Am, cm, rfl, hcm⟩ := own_slice hown
      have hsee1 := Sees.own hown
      clear hown
      go_wp2_with fail
      have htt := faultTexts_tot ss fs
      have hmul : fs.length * (32 * tot ss + 100) ≤ 5000 * (32 * tot ss + 100) := Nat.mul_le_mul_right _ (by rw [← HF.out]; exact hlimf)
      refine (ref_joined_any Am k cm (faultTexts ss fs) [32, 124, 32] _ rfl wr (by rw [faultTexts_length]; exact HF.out) hsee1 (by omega) (by decide) (by omega)).mono ?_
      rintro e w2 ⟨rfl, rfl⟩
      go_wp2
      go_ret2
      exact ⟨hbw, fun _ => rfl, fun h => absurd HFIN.out h⟩
end Go.Proofs.YtdclhgngjbneiaaDoor
