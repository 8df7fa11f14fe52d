/- The contract of the statement SyntaxFormatTerm: it returns true. Terms of a size up to a bound. -/
import Derived.Test.YtipicaoinnblpaaGreatDoorPkNms
import Derived.Test.YtipicaoinnblpaaGreatDoorPkTxb
import Derived.Test.YtipicaoinnblpaaGreatDoorPkEqa
import Derived.Test.YtipicaoinnblpaaGreatDoorPkRound
import Derived.Test.YtipicaoinnblpaaGreatDoorPkAw
namespace Go.Proofs.YtipicaoinnblpaaGreatDoor
open Go.RowKit

theorem formatTerm_ok {t : Tm} (h : (formatTermOf t).2 = 0) : (formatTermOf t).1 = tmText t ∧ termOf (tmText t) = (t, 0, 0) := by
  unfold formatTermOf at h ⊢
  by_cases ho : okTm t = true
  · rw [if_pos ho] at h ⊢
    unfold sizedOf at h ⊢
    by_cases hs : sizedOk (tmText t) = true
    · rw [if_pos hs]; exact ⟨rfl, term_round ho hs⟩
    · rw [if_neg hs] at h; simp at h
  · rw [if_neg ho] at h; simp at h

set_option maxRecDepth 100000 in
set_option maxHeartbeats 8000000 in
theorem formatTerm_law (t : Tm) (v : Value) (w : World) (S : Nat → Prop) (ht : TmAt w S t v) (hS : ∀ g, S g → g < w.heap.size) (hsz : tmSize t ≤ 1000000000) (hpw : Pow w) :
    Calls Tryz.prog 5 #[v] w fun e w' => e = .returned (.bool true) ∧ Below w.heap.size w w' := by
  have ht2 := ht
  obtain ⟨op, nm, nd, wA, wn, wc, kA, kn, kc, rfl⟩ := ht2.form
  obtain ⟨w0, hw0⟩ : ∃ w0 : World, w0 = w.alloc (.cells #[.int .i64 op, .string nm, .int .i64 nd, .slice wA wn wc, .slice kA kn kc] 32) := ⟨_, rfl⟩
  have hb0 : Below w.heap.size w w0 := by rw [hw0]; exact (Below.refl _ _).alloc (Nat.le_refl _) _
  have hz0 : w.heap.size < w0.heap.size := by rw [hw0]; simp
  have hr0 : w0.heap[w.heap.size]? = some (.cells #[.int .i64 op, .string nm, .int .i64 nd, .slice wA wn wc, .slice kA kn kc] 32 (0, 0)) := by rw [hw0]; exact heap_alloc_new w _
  have hT := (fun (W : World) (hW : Below w.heap.size w W) => (⟨ht.keep (kept_of hW hS), fun g hg => by have := hS g hg; have := hW.size; omega⟩ : TmAt W S t (.agg #[.int .i64 op, .string nm, .int .i64 nd, .slice wA wn wc, .slice kA kn kc]) ∧ ∀ g, S g → g < W.heap.size))
  have HT := Lib.hid hT
  have hpW := fun (W : World) (hW : Below w.heap.size w W) => hpw.below hW
  have HSZ := Lib.hid (size_ref t _ w0 S (hT w0 hb0).1 (hT w0 hb0).2 hsz)
  have hF := fun (W : World) (hW : Below w.heap.size w W) => formatTerm_any t _ W S (hT W hW).1 (hT W hW).2 hsz (hpW W hW)
  have hG := fun (W : World) (hW : Below w.heap.size w W) => formatTerm_ref t _ W S (hT W hW).1 (hT W hW).2 hsz (hpW W hW)
  have HET := Lib.hid (show ∀ (W : World) (v2 : Value) (S2 : Nat → Prop), Below w.heap.size w W → TmAt W S2 t v2 → Calls Tryz.prog 17 #[v2, .agg #[.int .i64 op, .string nm, .int .i64 nd, .slice wA wn wc, .slice kA kn kc]] W fun e w' => e = .returned (.bool true) ∧ Below W.heap.size W w' from fun W v2 S2 hW h2 => equalTerm_true t _ _ W S2 S h2 (hT W hW).1 hsz)
  have hok := formatTerm_ok (t := t)
  obtain ⟨r, hr⟩ : ∃ r, r = formatTermOf t := ⟨_, rfl⟩
  rw [← hr] at hok
  simp only [← hr] at hF hG
  obtain ⟨x, er⟩ := r
  simp only at hF hG hok
  obtain ⟨X, hX⟩ : ∃ X, X = bs x := ⟨_, rfl⟩
  rw [← hX] at hF hG
  have HX := Lib.hid hX
  have HF := Lib.hid hF
  have HG := Lib.hid hG
  have HOK := Lib.hid hok
  have hdl := tmDepth_le t
  obtain ⟨n, hn⟩ : ∃ n, n = tmSize t := ⟨_, rfl⟩
  obtain ⟨d, hd⟩ : ∃ d, d = tmDepth t := ⟨_, rfl⟩
  rw [← hn, ← hd] at HSZ
  have hnb : n ≤ 1000000000 := by omega
  have hdb : d ≤ 1000000000 := by omega
  have HP := Lib.hid hpw
  have HR0 := Lib.hid hr0
  have HW0 := Lib.hid hw0
  clear ht ht2 hn hd hpw hpW hr0 hw0 hsz hdl hT hF hG hok hX hr
  go_enter Tryz.func5, Tryz.ntmps5
  go_wp2_with fail
  rw [← HW0.out]
  refine HSZ.out.mono ?_
  rintro e W1 ⟨rfl, hb1⟩
  have hs1 := hb1.size
  have hbw1 := hb0.trans (hb1.mono (by omega))
  have hr1 := (hb1.block _ hz0).trans HR0.out
  go_wp2_with fail
  refine (awake23_any W1 (HP.out.below hbw1)).mono ?_
  rintro e W2 ⟨rfl, hb2⟩
  have hs2 := hb2.size
  have hbw2 := hbw1.trans (hb2.mono (by omega))
  have hr2 := (hb2.block _ (by omega)).trans hr1
  have HR2 := Lib.hid hr2
  clear hr1 hr2 HW0
  by_cases hbig : 3000 < n ∨ 100 < d
  · have HA := Lib.hid (awake23_any W2 (HP.out.below hbw2))
    by_cases h3 : 3000 < n
    · have hI : (3000 : Int) < (n : Int) := by omega
      clear hbig
      go_wp2_with fail
      refine HA.out.mono ?_
      rintro e W3 ⟨rfl, hb3⟩
      go_wp2
      go_ret
      exact ⟨rfl, hbw2.trans (hb3.mono (by omega))⟩
    · have hI : ¬ (3000 : Int) < (n : Int) := by omega
      have hJ : (100 : Int) < (d : Int) := by omega
      clear hbig
      go_wp2_with fail
      refine HA.out.mono ?_
      rintro e W3 ⟨rfl, hb3⟩
      go_wp2
      go_ret
      exact ⟨rfl, hbw2.trans (hb3.mono (by omega))⟩
  · have hI : ¬ (3000 : Int) < (n : Int) := by omega
    have hJ : ¬ (100 : Int) < (d : Int) := by omega
    clear hbig
    obtain ⟨c0, c1, c2, c3, c4, -⟩ := row5 HR2.out
    have hlt2 : w.heap.size < W2.heap.size := by omega
    go_wp2_with fail
    refine (HF.out W2 hbw2).mono ?_
    rintro e W3 ⟨rfl, hb3⟩
    have hs3 := hb3.size
    have hbw3 := hbw2.trans (hb3.mono (by omega))
    have HR3 := Lib.hid ((hb3.block _ hlt2).trans HR2.out)
    obtain ⟨e0, e1, e2, e3, e4, -⟩ := row5 HR3.out
    clear c0 c1 c2 c3 c4
    go_wp2_with fail
    refine (HG.out W3 hbw3).mono ?_
    rintro e W4 ⟨rfl, hb4⟩
    have hs4 := hb4.size
    have hbw4 := hbw3.trans (hb4.mono (by omega))
    have HR4 := Lib.hid ((hb4.block _ (by omega)).trans HR3.out)
    clear e0 e1 e2 e3 e4
    by_cases he : er = 0
    · subst he
      have HTF := Lib.hid (show Calls Tryz.prog 15 #[.string X] W4 (TfPost (t, 0, 0) W4) by
        have h := termF_any X W4
        rw [HX.out, bs_data, (HOK.out rfl).1, (HOK.out rfl).2] at h
        rw [HX.out, (HOK.out rfl).1]; exact h)
      go_wp2_with fail
      refine HTF.out.mono ?_
      rintro e W5 ⟨o2, m2, d2, wA2, wn2, wc2, kA2, kn2, kc2, rfl, ht5, hb5⟩
      simp only at ht5
      have hs5 := hb5.size
      have hbw5 := hbw4.trans (hb5.mono (by omega))
      have hr5 := (hb5.block _ (by omega)).trans HR4.out
      obtain ⟨W6, hW6⟩ : ∃ W6 : World, W6 = W5.alloc (.cells #[.int .i64 o2, .string m2, .int .i64 d2, .slice wA2 wn2 wc2, .slice kA2 kn2 kc2] 32) := ⟨_, rfl⟩
      have hb6 : Below W5.heap.size W5 W6 := by rw [hW6]; exact (Below.refl _ _).alloc (Nat.le_refl _) _
      have hn6 : W6.heap[W5.heap.size]? = some (.cells #[.int .i64 o2, .string m2, .int .i64 d2, .slice wA2 wn2 wc2, .slice kA2 kn2 kc2] 32 (0, 0)) := by rw [hW6]; exact heap_alloc_new W5 _
      have hbw6 := hbw5.trans (hb6.mono (by omega))
      have hr6 := (hb6.block _ (by omega)).trans hr5
      have HE := Lib.hid (HET.out W6 _ _ hbw6 (ht5.keep (kept_all hb6)))
      obtain ⟨a0, a1, a2, a3, a4, -⟩ := row5 hr6
      obtain ⟨b0, b1, b2, b3, b4, -⟩ := row5 hn6
      have HW6 := Lib.hid hW6
      clear hW6 hr5 hr6 hn6 ht5
      go_upto_region 9 with fail
      rw [← HW6.out]
      go_wp2_with fail
      refine HE.out.mono ?_
      rintro e W7 ⟨rfl, hb7⟩
      go_wp2
      go_ret
      exact ⟨rfl, hbw6.trans (hb7.mono hbw6.size)⟩
    · have hz : ((er : Int) != 0) = true := natNeq he
      clear he
      go_wp2
      go_ret
      exact ⟨rfl, hbw4⟩
end Go.Proofs.YtipicaoinnblpaaGreatDoor
