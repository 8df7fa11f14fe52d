/- The contract of the statement SyntaxFormat: it returns true. Declarations of a size up to a bound. -/
import Derived.Test.YtipicaoinnblpaaGreatDoorPkTxe
import Derived.Test.YtipicaoinnblpaaGreatDoorPkTxc
import Derived.Test.YtipicaoinnblpaaGreatDoorPkRound
import Derived.Test.YtipicaoinnblpaaGreatDoorPkAw
namespace Go.Proofs.YtipicaoinnblpaaGreatDoor
open Go.RowKit

theorem dc_limits {d : Dc} (hs : dcSize d ≤ 1100000) (hf : fewSize d ≤ 10000) : TLim d ∧ ILim d ∧ QLim d := by
  have n1 := names_few_size d.names
  have e1 : dcSize d = d.name.size + nameSize d.names + (d.faults.map ftSize).sum + tmSize d.term + d.proto.size + tmSize d.read + tmSize d.write + d.use.size + 1 := rfl
  have e2 : fewSize d = tmSize d.term + tmSize d.read + tmSize d.write + d.name.size + d.names.length + 10 * d.faults.length + d.proto.size + d.use.size := rfl
  have hft : ∀ f ∈ d.faults, f.byzNames.length + f.crashNames.length ≤ 1100000 := fun f h => by
    have := ftSize_ge f
    have := ft_in_sum h
    omega
  exact ⟨⟨by omega, by omega, fun f h => by have := hft f h; omega, by omega, by omega, by omega⟩, ⟨by omega, by omega, fun f h => by have := hft f h; exact ⟨by omega, by omega⟩, by omega, by omega, by omega⟩, ⟨by omega, by omega, fun f h => by have := hft f h; exact ⟨by omega, by omega⟩, by omega, by omega, by omega⟩⟩
theorem format_ok {l : List Dc} (h : (formatOf l).2 = 0) : ∃ l', parseOf 4 (formatOf l).1 = (l', 0, 0) ∧ l'.map unline = l.map unline := by
  unfold formatOf at h ⊢
  by_cases ho : l.all okDc = true
  · rw [if_pos ho] at h ⊢
    unfold sizedOf at h ⊢
    by_cases hs : sizedOk (dcsText l) = true
    · rw [if_pos hs]; exact parse_round 4 ho hs
    · rw [if_neg hs] at h; simp at h
  · rw [if_neg ho] at h; simp at h
theorem lims_unline {l l' : List Dc} (h : l'.map unline = l.map unline) (hq : ∀ d ∈ l, QLim d) : ∀ d ∈ l', QLim d := by
  intro d hd
  have hm : unline d ∈ l.map unline := by rw [← h]; exact List.mem_map.2 ⟨d, hd, rfl⟩
  obtain ⟨d2, h2, e⟩ := List.mem_map.1 hm
  have a : QLim (unline d2) := hq d2 h2
  rw [e] at a
  exact a

set_option maxRecDepth 100000 in
set_option maxHeartbeats 8000000 in
theorem format_law (l : List Dc) (A : Option Addr) (c : Nat) (w : World) (S : Nat → Prop) (hl : ListAt (DcAt w S) w S 22 A l) (hS : ∀ g, S g → g < w.heap.size) (hsz : (l.map dcSize).sum ≤ 1100000) (hpw : Pow w) :
    Calls Tryz.prog 7 #[.slice A l.length c] w fun e w' => e = .returned (.bool true) ∧ Below w.heap.size w w' := by
  have HP := Lib.hid hpw
  have hL := fun (W : World) (hW : Below w.heap.size w W) => (⟨hl.keep (P' := DcAt W S) (kept_of hW hS) (fun _ _ h => h.keep (kept_of hW hS)), fun g hg => by have := hS g hg; have := hW.size; omega⟩ : ListAt (DcAt W S) W S 22 A l ∧ ∀ g, S g → g < W.heap.size)
  have HFW := Lib.hid (fun (W : World) (hW : Below w.heap.size w W) => few_ref l A c W S (hL W hW).1 (hL W hW).2 hsz)
  go_enter Tryz.func7, Tryz.ntmps7
  go_wp2_with fail
  refine (awake23_any w HP.out).mono ?_
  rintro e W1 ⟨rfl, hb1⟩
  by_cases hfew : (l.map fewSize).sum ≤ 10000
  · rw [decide_eq_true hfew] at HFW
    have hlims : ∀ d ∈ l, TLim d ∧ ILim d ∧ QLim d := fun d hd => dc_limits (by have := dc_in_sum hd; omega) (by have := few_in_sum hd; omega)
    have hll := dcs_len_sum l
    have HF := Lib.hid (fun (W : World) (hW : Below w.heap.size w W) => format_any l A c W S (hL W hW).1 (hL W hW).2 (by omega) (fun d hd => (hlims d hd).1) (fun h => by have := dcs_text_size l h; omega) (hpw.below hW))
    have HV := Lib.hid (fun (W : World) (hW : Below w.heap.size w W) => valid_any l A c W S (hL W hW).1 (hL W hW).2 (by omega) (fun d hd => (hlims d hd).1) (fun h => by have := dcs_text_size l h; omega) (hpw.below hW))
    have HG := Lib.hid (fun (W : World) (hW : Below w.heap.size w W) => format_ref l A c W S (hL W hW).1 (hL W hW).2 hsz (fun d hd => ⟨(hlims d hd).1, (hlims d hd).2.1⟩) (hpw.below hW))
    have HEQ := Lib.hid (show ∀ (W : World) (l' : List Dc) (A2 : Option Addr) (c2 : Nat) (S2 : Nat → Prop), Below w.heap.size w W → ListAt (DcAt W S2) W S2 22 A2 l' → l'.map unline = l.map unline →
        Calls Tryz.prog 14 #[.slice A2 l'.length c2, .slice A l.length c, .bool false] W fun e w' => e = .returned (.bool true) ∧ Below W.heap.size W w' from
      fun W l' A2 c2 S2 hW h2 hun => equal_true l' l false A2 A c2 c W S2 S h2 (hL W hW).1 hun (fun h => by cases h) (by have := congrArg List.length hun; simp only [List.length_map] at this; omega) (lims_unline hun fun d hd => (hlims d hd).2.2))
    have hok := format_ok (l := l)
    obtain ⟨r, hr⟩ : ∃ r, r = formatOf l := ⟨_, rfl⟩
    rw [← hr] at hok HF HV HG
    obtain ⟨x, er⟩ := r
    simp only at hok HF HV HG
    obtain ⟨X, hX⟩ : ∃ X, X = bs x := ⟨_, rfl⟩
    rw [← hX] at HF HG
    have HX := Lib.hid hX
    have HOK := Lib.hid hok
    clear hl hsz hpw hL hlims hll hok hr hX hfew
    go_wp2_with fail
    refine (HFW.out W1 hb1).mono ?_
    rintro e W2 ⟨rfl, hb2⟩
    have hw2 := hb1.trans (hb2.mono hb1.size)
    go_wp2_with fail
    refine (HF.out W2 hw2).mono ?_
    rintro e W3 ⟨rfl, hb3⟩
    have hw3 := hw2.trans (hb3.mono hw2.size)
    go_wp2_with fail
    refine (HG.out W3 hw3).mono ?_
    rintro e W4 ⟨rfl, hb4⟩
    have hw4 := hw3.trans (hb4.mono hw3.size)
    go_wp2_with fail
    refine (HV.out W4 hw4).mono ?_
    rintro e W5 ⟨rfl, hb5⟩
    have hw5 := hw4.trans (hb5.mono hw4.size)
    by_cases he : er = 0
    · subst he
      obtain ⟨l', hp, hun⟩ := HOK.out rfl
      have HPA := Lib.hid (show Calls Tryz.prog 12 #[.string X] W5 (PfPost (l', 0, 0) W5) by
        have h := parse_any X W5
        rw [HX.out, bs_data, hp] at h
        rw [HX.out]; exact h)
      have HUN := Lib.hid hun
      clear hp hun
      go_wp2_with fail
      refine HPA.out.mono ?_
      rintro e W6 ⟨A6, c6, rfl, hc6, hl6, hb6⟩
      simp only at hc6 hl6
      have hw6 := hw5.trans (hb6.mono hw5.size)
      have HE := Lib.hid (HEQ.out W6 l' A6 c6 _ hw6 hl6 HUN.out)
      clear hl6
      go_wp2_with fail
      refine HE.out.mono ?_
      rintro e W7 ⟨rfl, hb7⟩
      go_wp2
      go_ret
      exact ⟨rfl, hw6.trans (hb7.mono hw6.size)⟩
    · have hz : ((er : Int) != 0) = true := natNeq he
      clear he
      go_wp2_with fail
      refine (HV.out W5 hw5).mono ?_
      rintro e W6 ⟨rfl, hb6⟩
      go_wp2
      go_ret
      exact ⟨rfl, hw5.trans (hb6.mono hw5.size)⟩
  · rw [decide_eq_false hfew] at HFW
    clear hl hsz hpw hL hfew
    go_wp2_with fail
    refine (HFW.out W1 hb1).mono ?_
    rintro e W2 ⟨rfl, hb2⟩
    have hw2 := hb1.trans (hb2.mono hb1.size)
    go_wp2_with fail
    refine (awake23_any W2 (HP.out.below hw2)).mono ?_
    rintro e W3 ⟨rfl, hb3⟩
    go_wp2
    go_ret
    exact ⟨rfl, hw2.trans (hb3.mono hw2.size)⟩
end Go.Proofs.YtipicaoinnblpaaGreatDoor
