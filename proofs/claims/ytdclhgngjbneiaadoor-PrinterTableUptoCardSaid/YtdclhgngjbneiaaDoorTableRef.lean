/- The contract of the reference's Table: the same text as the program's. -/
import Derived.Test.YtdclhgngjbneiaaDoorTable
import Derived.StillTailTactics
namespace Go.Proofs.YtdclhgngjbneiaaDoor
open Go.RowKit Go.Shelf

theorem trim_snoc (l : List UInt8) : Lib.trimRightB (l ++ [32]) 32 = Lib.trimRightB l 32 := by
  unfold Lib.trimRightB; simp
theorem trim_stop (l : List UInt8) (x : UInt8) (h : x ≠ 32) : Lib.trimRightB (l ++ [x]) 32 = l ++ [x] := by
  unfold Lib.trimRightB; simp [h]
theorem trim_nil : Lib.trimRightB [] 32 = [] := rfl

theorem last_byte {S : ByteArray} {l : List UInt8} {x : UInt8} (h : S = bs (l ++ [x])) (hp : S.size - 1 < S.size) : S[S.size - 1]'hp = x := by
  subst h
  have hs : (bs (l ++ [x])).size - 1 = l.length := by rw [bs_size]; simp
  have : (bs (l ++ [x])).data.toList[(bs (l ++ [x])).size - 1]? = some x := by rw [bs_data, hs]; simp
  rw [Array.getElem?_toList] at this
  exact (Array.getElem?_eq_some_iff.1 this).2
theorem cut_byte {S : ByteArray} {l : List UInt8} {x : UInt8} (h : S = bs (l ++ [x])) : S.extract 0 (S.size - 1) = bs l := by
  subst h
  have hs : (bs (l ++ [x])).size - 1 = l.length := by rw [bs_size]; simp
  rw [hs, ← bs_of ((bs (l ++ [x])).extract 0 l.length), Lib.extract_data]
  rw [bs_data]; simp
def sizeOfStr : Value → Nat
  | .string b => b.size
  | _ => 0

set_option maxHeartbeats 8000000 in
set_option maxRecDepth 100000 in
theorem ref_table_any (A : Option Addr) (n c : Nat) (rows : List (List ByteArray)) (w : World) (hn : n = rows.length) (hsee : SeesRows w w.heap.size A rows) (M N : Nat)
    (hr : ∀ k j, ((rows.getD k []).getD j ByteArray.empty).size ≤ M) (hN : ∀ k, (rows.getD k []).length ≤ N) (hM : M ≤ 1000000) (hN2 : N ≤ 1000) (hn2 : n ≤ 1000) :
    Calls Tryd.prog 25 #[.slice A n c] w fun e w' => e = .returned (.string (bs (tableText rows))) ∧ Below w.heap.size w w' := by
  have HN := Lib.hid hn
  have HR := Lib.hid hr
  have HL := Lib.hid hN
  clear hn hr hN
  go_enter Tryd.func25, Tryd.ntmps25
  go_wp2
  go_loopw [3, 4] (fun v x wr => ∃ k : Nat, k ≤ n ∧ x = .int .i64 k ∧ wr.ownsRow w.heap.size 3 1 v (wRows rows k).length (memVals (wRows rows k)) ∧ Below w.heap.size w wr) (fun _ x _ => n - (intOf x).toNat)
  case atStart => exact ⟨0, Nat.zero_le _, rfl, World.ownsRow_nil _ _ _ _, Below.refl _ _⟩
  case round =>
    obtain ⟨k, hk, rfl, hown, hb⟩ := hrel
    have hsz := hb.size
    by_cases hlt : k < n
    · have hkr : k < rows.length := by rw [← HN.out]; exact hlt
      obtain ⟨g, o, Ak, ck, rfl, hg, hck0, hsk⟩ := hsee k hkr
      obtain ⟨row, hrow⟩ : ∃ row, row = rows.getD k [] := ⟨_, rfl⟩
      have hrl := HL.out k
      have hrr := HR.out k
      have hst : wRows rows (k + 1) = wRow (wRows rows k) row row.length := by rw [hrow]; rfl
      rw [← hrow] at hck0 hsk hrl hrr
      obtain ⟨m, hm⟩ : ∃ m, m = row.length := ⟨_, rfl⟩
      rw [← hm] at hck0 hsk hrl hst
      have HRR := Lib.hid hrr
      have HM := Lib.hid hm
      have HST := Lib.hid hst
      clear hrow hrr hm hst
      obtain ⟨ws, hws⟩ : ∃ ws, ws = wRows rows k := ⟨_, rfl⟩
      rw [← hws] at hown
      have HWS := Lib.hid hws
      clear hws
      have hkI : (k : Int) < (n : Int) := by omega
      obtain ⟨wo, rfl⟩ : ∃ wo : World, wo = wr := ⟨_, rfl⟩
      go_wp2
      go_loopw [3, 5] (fun v x wr => ∃ i : Nat, i ≤ m ∧ x = .int .i64 i ∧ wr.ownsRow w.heap.size 3 1 v (wRow ws row i).length (memVals (wRow ws row i)) ∧ Below w.heap.size w wr) (fun _ x _ => m - (intOf x).toNat)
      case atStart => exact ⟨0, Nat.zero_le _, rfl, hown, hb⟩
      case round =>
        obtain ⟨i, hi, rfl, hown2, hb2⟩ := hrel
        clear hown hb
        have hsz2 := hb2.size
        have hck := (hb2.cell (p := ⟨g, o + k, none⟩) hg).trans hck0
        by_cases hil : i < m
        · have hir : i < row.length := by rw [← HM.out]; exact hil
          obtain ⟨g2, o2, rfl, hg2, hcell⟩ := (hsk.below hb2 (Nat.le_refl _)).cells (by omega)
          have hci := hcell i _ (strVals_get row i hir)
          have hsi := HRR.out i
          clear hcell
          obtain ⟨s, hs⟩ : ∃ s, s = row.getD i ByteArray.empty := ⟨_, rfl⟩
          have hst2 : wRow ws row (i + 1) = wStep (wRow ws row i) i s.size := by rw [hs]; rfl
          rw [← hs] at hci hsi
          have hlw := (wRow_length ws row i).1
          obtain ⟨us, hus⟩ : ∃ us, us = wRow ws row i := ⟨_, rfl⟩
          rw [← hus] at hown2 hst2 hlw
          have HST2 := Lib.hid hst2
          clear hs hst2 hus
          obtain ⟨Au, cu, rfl, hcu⟩ := own_slice hown2
          by_cases hap : i = us.length
          · subst hap
            go_wp2_with (at_builtin; refine push_int wr rfl (.tmp 30) (.tmp 31) rfl w.heap.size _ _ _ hown2 rfl (.int .i64 0) rfl rfl (by omega) hsz2 ?_; intro v' w3 hown3 hb3; obtain ⟨gu, cu3, rfl⟩ := own_form hown3 (by omega); have hcl := hown3.cellAt us.length (by omega); have hfr := hown3.frozenAt us.length; rw [List.getElem?_append_right (by simp [memVals]), show us.length - (memVals us).length = 0 by simp [memVals]] at hcl; simp only [List.getElem?_cons_zero] at hcl)
            have hb3' := hb2.trans (hb3 _ (Nat.le_refl _))
            have hck3 := (hb3'.cell (p := ⟨g, o + k, none⟩) hg).trans hck0
            have hci3 : w3.cell? ⟨g2, o2 + us.length, none⟩ = some (.string s) := ((hb3 _ (Nat.le_refl _)).cell (p := ⟨g2, o2 + us.length, none⟩) hg2).trans hci
            have hnI : (us.length : Int) < (us.length : Int) + 1 := by omega
            have hmI : (us.length : Int) < (m : Int) := by omega
            go_still_tail 16, (by kernel_rfl)
            go_wp2
            go_roundw
            case rel =>
              refine ⟨us.length + 1, by omega, by go_num, ?_, (hb3'.setCell (hown3.lt gu rfl).1 _).drew⟩
              have hst := hown3.stored us.length (.int .i64 s.size)
              have e1 : wRow ws row (us.length + 1) = us ++ [s.size] := by rw [HST2.out]; unfold wStep; rw [if_pos rfl]
              have e2 : (memVals us ++ [Value.int .i64 0]).set us.length (.int .i64 s.size) = memVals (us ++ [s.size]) := by
                rw [memVals_snoc, List.set_append_right _ _ (by simp [memVals])]
                simp [memVals]
              rw [e1, List.length_append, ← e2]
              exact hst.1.drew
            case measure => simp [intOf]; omega
          · have hil2 : i < us.length := by omega
            obtain ⟨gu, cu2, hv⟩ := own_form hown2 (by omega)
            injection hv with hA _ hc2
            subst hA hc2
            have hcl := (hown2.cellAt i (by omega)).trans (memVals_get us i hil2)
            have hfr := hown2.frozenAt i
            obtain ⟨t0, ht0⟩ : ∃ t0, t0 = us.getD i 0 := ⟨_, rfl⟩
            rw [← ht0] at hcl
            have HT0 := Lib.hid ht0
            have hne : ((i : Int) == (us.length : Int)) = false := by rw [beq_eq_false_iff_ne]; omega
            have hmI : (i : Int) < (m : Int) := by omega
            have hnI : (i : Int) < (us.length : Int) := by omega
            clear ht0
            go_wp2
            go_still_tail 16, (by kernel_rfl)
            go_wp2
            go_roundw
            case rel =>
              refine ⟨i + 1, by omega, by go_num, ?_, (hb2.setCell (hown2.lt gu rfl).1 _).drew⟩
              have hst := hown2.stored i (.int .i64 (max (t0 : Int) (s.size : Int)))
              have e1 : wRow ws row (i + 1) = us.set i (max t0 s.size) := by rw [HST2.out, HT0.out]; unfold wStep; rw [if_neg hap]
              have e2 : (memVals us).set i (.int .i64 (max (t0 : Int) (s.size : Int))) = memVals (us.set i (max t0 s.size)) := by
                unfold memVals
                rw [List.map_set]
                congr 2
                omega
              rw [e1, List.length_set, ← e2]
              exact hst.1.drew
            case measure => simp [intOf]; omega
        · obtain rfl : i = m := by omega
          go_wp2
          go_roundw
          case rel => exact ⟨k + 1, by omega, by go_num, by rw [HST.out, ← HWS.out]; exact hown2, hb2⟩
          case measure => simp [intOf]; omega
    · obtain rfl : k = n := by omega
      obtain ⟨Wd, hWd⟩ : ∃ Wd, Wd = wRows rows k := ⟨_, rfl⟩
      have hWl : ∀ j, j < k → (rows.getD j []).length ≤ Wd.length := by rw [hWd]; exact wRows_length rows k
      have hWn : ∀ j i, j < k → i < (rows.getD j []).length → ((rows.getD j []).getD i ByteArray.empty).size ≤ Wd.getD i 0 := by rw [hWd]; exact wRows_new rows k
      have hWb : ∀ j, Wd.getD j 0 ≤ M := by rw [hWd]; exact wRows_bound rows M HR.out k
      rw [← hWd] at hown
      have HWD := Lib.hid hWd
      have HWL := Lib.hid hWl
      have HWN := Lib.hid hWn
      have HWB := Lib.hid hWb
      clear hWd hWl hWn hWb
      obtain ⟨Aw, cw, rfl, hcw⟩ := own_slice hown
      have hsw := Sees.own hown
      clear hown
      obtain ⟨wB, rfl⟩ : ∃ wB : World, wB = wr := ⟨_, rfl⟩
      go_wp2
      go_loop [6, 7] (fun t x => ∃ j : Nat, j ≤ k ∧ x = .int .i64 j ∧ t = .string (bs (linesTo Wd rows j))) (fun _ x => k - (intOf x).toNat)
      case atStart => exact ⟨0, Nat.zero_le _, rfl, rfl⟩
      case round =>
        obtain ⟨j, hj, rfl, rfl⟩ := hrel
        by_cases hjl : j < k
        · have hjr : j < rows.length := by rw [← HN.out]; exact hjl
          obtain ⟨g, o, Ak, ck, rfl, hg, hck, hsk⟩ := hsee j hjr
          rw [← hb.cell (p := ⟨g, o + j, none⟩) hg] at hck
          have hsk := hsk.below hb (Nat.le_refl _)
          obtain ⟨row, hrow⟩ : ∃ row, row = rows.getD j [] := ⟨_, rfl⟩
          have hrl := HL.out j
          have hrr := HR.out j
          have hwl := HWL.out j hjl
          have hwn := HWN.out j
          have hst : linesTo Wd rows (j + 1) = linesTo Wd rows j ++ lineOf Wd row := by rw [hrow]; rfl
          rw [← hrow] at hck hsk hrl hrr hwl hwn
          obtain ⟨m, hm⟩ : ∃ m, m = row.length := ⟨_, rfl⟩
          rw [← hm] at hck hsk hrl hwl
          have HRR := Lib.hid hrr
          have HM := Lib.hid hm
          have HST := Lib.hid hst
          have HW2 := Lib.hid hwn
          clear hrow hrr hm hst hwn
          have hll := linesTo_length Wd rows M N HR.out HL.out HWB.out j
          have hmul2 : j * (N * (2 * M + 2) + 1) ≤ 1000 * (1000 * (2 * 1000000 + 2) + 1) := Nat.mul_le_mul (by omega) (Nat.add_le_add_right (Nat.mul_le_mul hN2 (by omega)) 1)
          obtain ⟨L, hL⟩ : ∃ L, L = bs (linesTo Wd rows j) := ⟨_, rfl⟩
          have hLs : L.size ≤ 3000000000000 := by rw [hL, bs_size]; omega
          rw [← hL]
          have HLL := Lib.hid hL
          clear hL hll hmul2
          have hjI : (j : Int) < (k : Int) := by omega
          go_wp2
          go_loop [8, 9, 10] (fun t x _ => ∃ i : Nat, i ≤ m ∧ x = .int .i64 i ∧ t = .string (bs (lineTo Wd row i))) (fun _ x _ => m - (intOf x).toNat)
          case atStart => exact ⟨0, Nat.zero_le _, rfl, rfl⟩
          case round =>
            obtain ⟨i, hi, rfl, rfl⟩ := hrel
            have hlen := lineTo_length Wd row M HRR.out HWB.out i
            have hmul : i * (2 * M + 2) ≤ 1000 * (2 * M + 2) := Nat.mul_le_mul_right _ (by omega)
            obtain ⟨T, hT⟩ : ∃ T, T = bs (lineTo Wd row i) := ⟨_, rfl⟩
            have hTs : T.size ≤ 2100000000 := by rw [hT, bs_size]; omega
            rw [← hT]
            have HT := Lib.hid hT
            clear hT hlen hmul
            by_cases hil : i < m
            · have hir : i < row.length := by rw [← HM.out]; exact hil
              obtain ⟨g2, o2, rfl, hg2, hcell⟩ := hsk.cells (by omega)
              have hci := hcell i _ (strVals_get row i hir)
              have hsi := HRR.out i
              have hwi := HWB.out i
              have hwni := HW2.out i hjl hir
              obtain ⟨g3, o3, rfl, hg3, hcell3⟩ := hsw.cells (by omega)
              have hcw3 := hcell3 i _ (memVals_get Wd i (by omega))
              clear hcell hcell3
              obtain ⟨s, hs⟩ : ∃ s, s = row.getD i ByteArray.empty := ⟨_, rfl⟩
              obtain ⟨u, hu⟩ : ∃ u, u = Wd.getD i 0 := ⟨_, rfl⟩
              have hst2 : lineTo Wd row (i + 1) = lineTo Wd row i ++ s.data.toList ++ (if i + 1 < row.length then List.replicate (u - s.size + 2) 32 else []) := by rw [hs, hu]; rfl
              rw [← hs] at hci hsi hwni
              rw [← hu] at hcw3 hwi hwni
              have HST2 := Lib.hid hst2
              clear hs hst2 hu hir
              have hiI : (i : Int) < (m : Int) := by omega
              have hiW : (i : Int) < (Wd.length : Int) := by omega
              go_wp2
              go_loop [8, 10] (fun t x => ∃ q : Nat, s.size + q ≤ u + 2 ∧ (q = 0 ∨ i + 1 < m) ∧ x = .int .i64 ((s.size + q : Nat) : Int) ∧ t = .string (bs (lineTo Wd row i ++ s.data.toList ++ List.replicate q 32))) (fun _ x => u + 2 - (intOf x).toNat)
              case atStart =>
                refine ⟨0, by omega, Or.inl rfl, rfl, ?_⟩
                rw [List.replicate_zero, List.append_nil, ← bs_append, ← HT.out, bs_of]
              case round =>
                obtain ⟨q, hq, hq0, rfl, rfl⟩ := hrel
                obtain ⟨X, hX⟩ : ∃ X, X = bs (lineTo Wd row i ++ s.data.toList ++ List.replicate q 32) := ⟨_, rfl⟩
                have hXs : X.size ≤ 2200000000 := by
                  have h1 : (lineTo Wd row i).length = T.size := by rw [HT.out, bs_size]
                  rw [hX, bs_size, List.length_append, List.length_append, List.length_replicate, size_data, h1]; omega
                rw [← hX]
                have HX := Lib.hid hX
                clear hX
                by_cases hql : s.size + q < u + 2
                · have hqI : ((s.size + q : Nat) : Int) < (u : Int) + 2 := by omega
                  by_cases hlast : i + 1 < m
                  · have hlI : (i : Int) < (m : Int) - 1 := by omega
                    go_wp2
                    go_round
                    case rel =>
                      refine ⟨q + 1, by omega, Or.inr hlast, by go_num, ?_⟩
                      rw [List.replicate_succ', ← List.append_assoc, ← bs_append, ← HX.out]; rfl
                    case measure => simp [intOf]; omega
                  · have hlI : ¬ (i : Int) < (m : Int) - 1 := by omega
                    have hq0' : q = 0 := by omega
                    have HQ0 := Lib.hid hq0'
                    clear hq0'
                    go_wp2
                    go_round
                    case rel =>
                      refine ⟨i + 1, by omega, by go_num, ?_⟩
                      rw [HX.out, HQ0.out, HST2.out, if_neg (by rw [← HM.out]; exact hlast), List.replicate_zero]
                    case measure => simp [intOf]; omega
                · have hqI : ¬ ((s.size + q : Nat) : Int) < (u : Int) + 2 := by omega
                  have hqe : q = u - s.size + 2 := by omega
                  have hlast : i + 1 < m := by omega
                  have HQE := Lib.hid hqe
                  clear hqe
                  go_wp2
                  go_round
                  case rel =>
                    refine ⟨i + 1, by omega, by go_num, ?_⟩
                    rw [HX.out, HQE.out, HST2.out, if_pos (by rw [← HM.out]; exact hlast)]
                  case measure => simp [intOf]; omega
            · obtain rfl : i = m := by omega
              go_wp2
              go_loop [8] (fun t => ∃ l : List UInt8, l.length ≤ 2200000000 ∧ Lib.trimRightB l 32 = Lib.trimRightB T.data.toList 32 ∧ t = .string (bs l)) (fun t => sizeOfStr t)
              case atStart => exact ⟨T.data.toList, by rw [size_data]; omega, rfl, by rw [bs_of]⟩
              case round =>
                obtain ⟨l, hl, htr, rfl⟩ := hrel
                have HTR := Lib.hid htr
                clear htr
                have hle : lineOf Wd row = Lib.trimRightB T.data.toList 32 ++ [10] := by unfold lineOf; rw [← HM.out, HT.out, bs_data]
                have HLE := Lib.hid hle
                clear hle
                rcases List.eq_nil_or_concat l with hl0 | ⟨l', x, hl0⟩
                · subst hl0
                  obtain ⟨S, hS⟩ : ∃ S, S = bs [] := ⟨_, rfl⟩
                  have hS0 : S.size ≤ 0 := by rw [hS, bs_size]; simp
                  rw [← hS]
                  have HS := Lib.hid hS
                  clear hS
                  go_wp2
                  go_round
                  case rel =>
                    refine ⟨j + 1, by omega, by go_num, ?_⟩
                    rw [HST.out, HLE.out, ← HTR.out, trim_nil, List.nil_append, HS.out, HLL.out, bs_append, List.append_nil, ← bs_append]; rfl
                  case measure => simp [intOf]; omega
                · rw [List.concat_eq_append] at hl0
                  subst hl0
                  obtain ⟨S, hS⟩ : ∃ S, S = bs (l' ++ [x]) := ⟨_, rfl⟩
                  have hS0 : 0 < S.size := by rw [hS, bs_size]; simp
                  have hS1 : S.size ≤ 2200000000 := by rw [hS, bs_size]; exact hl
                  have hl' : l'.length ≤ 2200000000 := by simp at hl; omega
                  rw [← hS]
                  have HS := Lib.hid hS
                  clear hS hl
                  go_wp2
                  · have hte : (((S[S.size - 1]'(by omega)).toNat : Int) == 32) = true := by assumption
                    rw [last_byte HS.out, beq_iff_eq] at hte
                    have hx : x = 32 := by apply UInt8.toNat_inj.1; show x.toNat = 32; omega
                    go_round
                    case rel =>
                      refine ⟨l', hl', ?_, ?_⟩
                      · rw [← HTR.out, hx, trim_snoc]
                      · rw [cut_byte HS.out]
                    case measure => simp only [sizeOfStr]; rw [cut_byte HS.out, HS.out, bs_size, bs_size]; simp
                  · have hte : (((S[S.size - 1]'(by omega)).toNat : Int) == 32) = false := by assumption
                    rw [last_byte HS.out, beq_eq_false_iff_ne] at hte
                    have hx : x ≠ 32 := by intro e; subst e; exact hte rfl
                    go_round
                    case rel =>
                      refine ⟨j + 1, by omega, by go_num, ?_⟩
                      rw [HST.out, HLE.out, ← HTR.out, trim_stop _ _ hx, HS.out, HLL.out]
                      show Value.string (bs (linesTo Wd rows j) ++ bs (l' ++ [x]) ++ bs [10]) = _
                      rw [bs_append, bs_append, List.append_assoc]
                    case measure => simp [intOf]; omega
        · obtain rfl : j = k := by omega
          go_wp2
          go_ret
          refine ⟨?_, hb⟩
          show Ending.returned (.string (bs (linesTo Wd rows j))) = _
          unfold tableText
          rw [← HN.out, ← HWD.out]
end Go.Proofs.YtdclhgngjbneiaaDoor
