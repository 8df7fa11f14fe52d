/- The contracts of the reference's joined, and of both functions Set: the text of a set, or the error ErrRange. -/
import Derived.Test.YtdclhgngjbneiaaDoorNames
import Derived.Test.YtdclhgngjbneiaaDoorShelf
namespace Go.Proofs.YtdclhgngjbneiaaDoor
open Go.RowKit

/-- Strings in memory, joined by the reference. -/
theorem ref_joined_any (A : Option Addr) (n c : Nat) (ss : List ByteArray) (sep : List UInt8) (S : ByteArray) (hS : S = bs sep) (w : World) (hn : n = ss.length) (hsee : Sees w w.heap.size 1 A n (strVals ss))
    (hl1 : n ≤ 1000000000000) (hl2 : sep.length ≤ 100) (hl3 : tot ss ≤ 1000000000000) :
    Calls Tryd.prog 29 #[.slice A n c, .string S] w fun e w' => e = .returned (.string (bs (joined ss sep))) ∧ w = w' := by
  have HN := Lib.hid hn
  have hS2 : S.size ≤ 100 := by rw [hS, bs_size]; exact hl2
  have HS := Lib.hid hS
  clear hn hS
  go_enter Tryd.func29, Tryd.ntmps29
  go_wp2
  go_loop [5, 6] (fun t i => ∃ k : Nat, k ≤ n ∧ i = .int .i64 k ∧ t = .string (bs (joined (ss.take k) sep))) (fun _ i => n - (intOf i).toNat)
  case atStart => exact ⟨0, Nat.zero_le _, rfl, rfl⟩
  case round =>
    obtain ⟨k, hk, rfl, rfl⟩ := hrel
    have hj := joined_length (ss.take k) sep
    have ht := tot_take ss k
    have hm : sep.length * (ss.take k).length ≤ 100 * n := Nat.mul_le_mul hl2 (by rw [List.length_take]; have := HN.out; omega)
    obtain ⟨T, hT⟩ : ∃ T, T = bs (joined (ss.take k) sep) := ⟨_, rfl⟩
    have hTs : T.size ≤ 200000000000000 := by rw [hT, bs_size]; omega
    rw [← hT]
    have HT := Lib.hid hT
    clear hT hj ht hm
    by_cases hlt : k < n
    · obtain ⟨g, o, rfl, hg, hcell⟩ := hsee.cells (by omega)
      have hks : k < ss.length := by rw [← HN.out]; exact hlt
      have hck := hcell k _ (strVals_get ss k hks)
      have hxs := getD_tot ss k
      have hsn : ss.take (k + 1) = ss.take k ++ [ss.getD k ByteArray.empty] := by rw [List.take_succ_eq_append_getElem hks]; simp [hks]
      obtain ⟨X, hX⟩ : ∃ X, X = ss.getD k ByteArray.empty := ⟨_, rfl⟩
      rw [← hX] at hck hxs hsn
      have hXs : X.size ≤ 1000000000000 := by have e : X.data.toList.length = X.size := by rw [Array.length_toList]; rfl
                                              omega
      have HX := Lib.hid hsn
      clear hcell hsn hX hxs hks
      by_cases h0 : k = 0
      · subst h0
        rw [Nat.add_zero] at hck
        go_wp2
        go_round
        case rel =>
          refine ⟨1, by omega, by go_num, ?_⟩
          have e : joined (ss.take (0 + 1)) sep = X.data.toList := by rw [HX.out]; simp [joined_one]
          rw [e, bs_of, HT.out]
          have : (ss.take 0) = [] := rfl
          rw [this, joined_nil]
          show Value.string (bs [] ++ X) = _
          rw [← bs_of X, bs_append, List.nil_append]
        case measure => simp [intOf]; omega
      · go_wp2
        go_round
        case rel =>
          refine ⟨k + 1, by omega, by go_num, ?_⟩
          have hne : ss.take k ≠ [] := by
            intro e
            have := congrArg List.length e
            rw [List.length_take, List.length_nil, ← HN.out] at this
            omega
          rw [HX.out, joined_snoc _ _ _ hne, HT.out, HS.out, bs_append, ← bs_of X, bs_append, bs_data]
        case measure => simp [intOf]; omega
    · go_wp2
      go_ret
      refine ⟨?_, rfl⟩
      rw [List.take_of_length_le (by rw [← HN.out]; omega)] at HT
      show Ending.returned (.string T) = _
      rw [HT.out]

/-- Join of strings in memory. -/
theorem join_any (A : Option Addr) (n c : Nat) (ss : List ByteArray) (sep : List UInt8) (S : ByteArray) (hS : S = bs sep) (w : World) (hn : n = ss.length) (hc : n ≤ c) (hsee : Sees w w.heap.size 1 A n (strVals ss))
    (hl1 : n ≤ 1000000000000) (hl2 : sep.length ≤ 100) (hl3 : tot ss ≤ 1000000000000) :
    Calls Tryd.prog 23 #[.slice A n c, .string S] w fun e w' => e = .returned (.string (bs (joined ss sep))) ∧ Below w.heap.size w w' := by
  subst hS
  by_cases h0 : n = 0
  · subst h0
    obtain rfl : ss = [] := List.eq_nil_of_length_eq_zero hn.symm
    refine (Tryd.strings_Join_none A c _ w).mono fun e w' ⟨he, hw⟩ => ⟨he, ?_⟩
    rw [hw]; exact Below.refl _ _
  · obtain ⟨g, o, rfl, hg, hcell⟩ := hsee.cells (by omega)
    subst hn
    have hj := joined_length ss sep
    have hm : sep.length * ss.length ≤ 100 * ss.length := Nat.mul_le_mul_right _ hl2
    refine (Tryd.strings_Join g o c ss (bs sep) w (fun j x hx => hcell j _ (by simp [strVals, hx])) hg (by omega) hc ?_).mono fun e w' ⟨he, hw⟩ => ⟨?_, hw⟩
    · rw [bs_data]; show (joined ss sep).length ≤ _; omega
    · rw [he, bs_data]; rfl

/-- What Set returns. -/
def SetPost (ss : List ByteArray) (s : Nat) (w : World) (e : Ending) (w' : World) : Prop :=
  Below w.heap.size w w' ∧ (fits ss s → e = .returned (.tuple #[.string (bs (setText ss s)), .int .i64 0])) ∧ (¬ fits ss s → e = .returned (.tuple #[.string (bs []), .int .i64 7]))

theorem fits_not {ss : List ByteArray} {s : Nat} (h : ¬ fits ss s) : ∃ i ∈ mem s, ss.length ≤ i := by
  unfold fits at h
  simp only [Classical.not_forall] at h
  obtain ⟨i, hi, h⟩ := h
  exact ⟨i, hi, by omega⟩

set_option maxHeartbeats 1000000 in
theorem set_any (A A1 A2 A3 A4 : Option Addr) (n c n1 c1 n2 c2 n3 c3 n4 c4 : Nat) (wit : Int) (ss : List ByteArray) (s : Nat) (w : World) (hs : s < 65536) (ht : Tz w)
    (hn : n = ss.length) (hsee : Sees w w.heap.size 1 A n (strVals ss)) (hlim : n ≤ 1000000000000) (htot : tot ss ≤ 10000000000) :
    Calls Tryd.prog 11 #[.agg #[.slice A n c, .slice A1 n1 c1, .int .u16 wit, .slice A2 n2 c2, .slice A3 n3 c3, .slice A4 n4 c4], .int .u16 s] w (SetPost ss s w) := by
  have HN := Lib.hid hn
  have HS := Lib.hid hs
  clear hn hs
  go_enter Tryd.func11, Tryd.ntmps11
  go_wp2_with fail
  refine (names_any _ _ _ _ _ _ _ _ _ _ _ _ _ _ _ _ ss s _ HS.out (ht.below (w' := w.alloc _) ((Below.refl _ _).alloc (Nat.le_refl _) _) (Nat.le_refl _)) HN.out ((hsee.alloc (Nat.le_refl _) _).mono (by simp)) hlim).mono ?_
  rintro e w1 ⟨hb, hyes, hno⟩
  have hbw : Below w.heap.size w w1 := ((Below.refl _ _).alloc (Nat.le_refl _) _).trans (hb.mono (by simp))
  by_cases hf : fits ss s
  · obtain ⟨v, rfl, hown⟩ := hyes hf
    obtain ⟨Am, cm, rfl, hcm⟩ := own_slice hown
    have HF := Lib.hid hf
    have hsee1 := Sees.own hown
    clear hyes hno hf hown
    have h16 := mem_length s
    have htn := nameAt_tot ss (mem s)
    have hln : (nameAt ss (mem s)).length = (mem s).length := by simp [nameAt]
    have hmul : (mem s).length * tot ss ≤ 16 * tot ss := Nat.mul_le_mul_right _ h16
    have hst := setText_length ss s
    obtain ⟨N, hN⟩ : ∃ N, N = nameAt ss (mem s) := ⟨_, rfl⟩
    rw [← hN] at hsee1 hcm htn hln ⊢
    have HNN := Lib.hid hN
    have hl1 : N.length ≤ 16 := by omega
    have hl3 : tot N ≤ 160000000000 := by omega
    obtain ⟨m, hm⟩ : ∃ m, m = N.length := ⟨_, rfl⟩
    rw [← hm] at hsee1 hcm hl1 ⊢
    have HM := Lib.hid hm
    clear hN hm hln htn hmul
    go_wp2_with fail
    refine (join_any Am m cm N [44, 32] _ rfl w1 HM.out hcm hsee1 (by omega) (by decide) (by omega)).mono ?_
    rintro e w2 ⟨rfl, hb2⟩
    obtain ⟨T, hT⟩ : ∃ T, T = bs (joined N [44, 32]) := ⟨_, rfl⟩
    have hTs : T.size ≤ 200000000000 := by
      have h1 := joined_length N [44, 32]
      have h2 := HM.out
      rw [hT, bs_size]
      simp only [List.length_cons, List.length_nil] at h1
      omega
    rw [← hT]
    have HT := Lib.hid hT
    clear hT
    go_wp2
    go_ret2
    refine ⟨hbw.trans (hb2.mono hbw.size), fun _ => ?_, fun h => absurd HF.out h⟩
    have e : (⟨#[123]⟩ : ByteArray) ++ T ++ ⟨#[125]⟩ = bs (setText ss s) := by
      rw [HT.out, HNN.out]
      show bs [123] ++ bs _ ++ bs [125] = _
      rw [bs_append, bs_append]; rfl
    rw [← e]; rfl
  · rw [hno (fits_not hf)]
    have HF := Lib.hid hf
    clear hyes hno hf
    go_wp2
    go_ret2
    exact ⟨hbw, fun h => absurd h HF.out, fun _ => rfl⟩

set_option maxHeartbeats 1000000 in
theorem ref_set_any (A A1 A2 A3 A4 : Option Addr) (n c n1 c1 n2 c2 n3 c3 n4 c4 : Nat) (wit : Int) (ss : List ByteArray) (s : Nat) (w : World) (hs : s < 65536)
    (hn : n = ss.length) (hsee : Sees w w.heap.size 1 A n (strVals ss)) (hlim : n ≤ 1000000000000) (htot : tot ss ≤ 10000000000) :
    Calls Tryd.prog 12 #[.agg #[.slice A n c, .slice A1 n1 c1, .int .u16 wit, .slice A2 n2 c2, .slice A3 n3 c3, .slice A4 n4 c4], .int .u16 s] w (SetPost ss s w) := by
  have HN := Lib.hid hn
  have HS := Lib.hid hs
  clear hn hs
  go_enter Tryd.func12, Tryd.ntmps12
  go_wp2_with fail
  refine (ref_names_any _ _ _ _ _ _ _ _ _ _ _ _ _ _ _ _ ss s _ HS.out HN.out ((hsee.alloc (Nat.le_refl _) _).mono (by simp)) hlim).mono ?_
  rintro e w1 ⟨hb, hyes, hno⟩
  have hbw : Below w.heap.size w w1 := ((Below.refl _ _).alloc (Nat.le_refl _) _).trans (hb.mono (by simp))
  by_cases hf : fits ss s
  · obtain ⟨v, rfl, hown⟩ := hyes hf
    obtain ⟨Am, cm, rfl, hcm⟩ := own_slice hown
    have HF := Lib.hid hf
    have hsee1 := Sees.own hown
    clear hyes hno hf hown
    have h16 := mem_length s
    have htn := nameAt_tot ss (mem s)
    have hln : (nameAt ss (mem s)).length = (mem s).length := by simp [nameAt]
    have hmul : (mem s).length * tot ss ≤ 16 * tot ss := Nat.mul_le_mul_right _ h16
    have hst := setText_length ss s
    obtain ⟨N, hN⟩ : ∃ N, N = nameAt ss (mem s) := ⟨_, rfl⟩
    rw [← hN] at hsee1 hcm htn hln ⊢
    have HNN := Lib.hid hN
    have hl1 : N.length ≤ 16 := by omega
    have hl3 : tot N ≤ 160000000000 := by omega
    obtain ⟨m, hm⟩ : ∃ m, m = N.length := ⟨_, rfl⟩
    rw [← hm] at hsee1 hcm hl1 ⊢
    have HM := Lib.hid hm
    clear hN hm hln htn hmul
    go_wp2_with fail
    refine (ref_joined_any Am m cm N [44, 32] _ rfl w1 HM.out hsee1 (by omega) (by decide) (by omega)).mono ?_
    rintro e w2 ⟨rfl, rfl⟩
    obtain ⟨T, hT⟩ : ∃ T, T = bs (joined N [44, 32]) := ⟨_, rfl⟩
    have hTs : T.size ≤ 200000000000 := by
      have h1 := joined_length N [44, 32]
      have h2 := HM.out
      rw [hT, bs_size]
      simp only [List.length_cons, List.length_nil] at h1
      omega
    rw [← hT]
    have HT := Lib.hid hT
    clear hT
    go_wp2
    go_ret2
    refine ⟨hbw, fun _ => ?_, fun h => absurd HF.out h⟩
    have e : (⟨#[123]⟩ : ByteArray) ++ T ++ ⟨#[125]⟩ = bs (setText ss s) := by
      rw [HT.out, HNN.out]
      show bs [123] ++ bs _ ++ bs [125] = _
      rw [bs_append, bs_append]; rfl
    rw [← e]; rfl
  · rw [hno (fits_not hf)]
    have HF := Lib.hid hf
    clear hyes hno hf
    go_wp2
    go_ret2
    exact ⟨hbw, fun h => absurd h HF.out, fun _ => rfl⟩
end Go.Proofs.YtdclhgngjbneiaaDoor
