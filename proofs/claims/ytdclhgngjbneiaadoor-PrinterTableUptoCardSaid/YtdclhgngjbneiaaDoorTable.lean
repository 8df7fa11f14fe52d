/- The contract of Table: the rows as lines with aligned columns. -/
import Derived.Test.YtdclhgngjbneiaaDoorTablePlain
import Derived.Test.YtdclhgngjbneiaaDoorSet
namespace Go.Proofs.YtdclhgngjbneiaaDoor
open Go.RowKit Go.Shelf

/-- A text written to a Builder of the call's own. -/
theorem write_any (B b : Nat) (l : List UInt8) (s : ByteArray) (w : World) (h : Lib.IsBuilder 69 5 B b (Lib.byteCells l) w) (hlen : l.length + s.size ≤ 140737488355328) (hBw : B ≤ w.heap.size) :
    Calls Tryd.prog 36 #[.pointer (some ⟨b, 0, none⟩), .string s] w fun e w' => e = .returned (.tuple #[.int .i64 s.size, .nilIface]) ∧ (Lib.IsBuilder 69 5 B b (Lib.byteCells (l ++ s.data.toList)) w' ∧ Below B w w') := by
  refine (Any.Builder_WriteString (ρ := Tryd.lays156_ren) { Tryd.lays156 with } Tryd.Builder_Extra_156 B b (Lib.byteCells l) s w h (by simpa [Lib.byteCells] using hlen) hBw).mono fun e w' hh => ⟨hh.1, ?_, hh.2.2⟩
  have e : Lib.byteCells (l ++ s.data.toList) = Lib.byteCells l ++ Lib.strCells s := by simp [Lib.byteCells, Lib.strCells]
  rw [e]
  exact Or.inr hh.2.1

/-- A Builder of the call's own stays so where all below the heap's end stays. -/
theorem builder_below {T e B b : Nat} {xs : List Value} {w w' : World} (h : Lib.IsBuilder T e B b xs w) (hb : Below w.heap.size w w') : Lib.IsBuilder T e B b xs w' := by
  have key : ∀ p, Lib.BuilderAt T e B b p xs w → Lib.BuilderAt T e B b p xs w' := by
    intro p hp
    obtain ⟨h1, v, h2, h3, h4⟩ := hp
    exact ⟨h1, v, by rw [hb.block b (lt_of_block h2)]; exact h2, own_below h3 hb (Nat.le_refl _), h4⟩
  rcases h with h | h
  · exact Or.inl (key _ h)
  · exact Or.inr (key _ h)

theorem spaces_any (z : Int) (h0 : 0 ≤ z) (h1 : z ≤ 1000000000) (w : World) : Calls Tryd.prog 38 #[.string ⟨#[32]⟩, .int .i64 z] w fun e w' => e = .returned (.string (bs (List.replicate z.toNat 32))) ∧ Below w.heap.size w w' := by
  obtain ⟨c, rfl⟩ := Int.eq_ofNat_of_zero_le h0
  refine (Tryd.strings_Repeat ⟨#[32]⟩ c w (by omega) ?_).mono fun e w' hh => ⟨?_, hh.2⟩
  · show 1 * c ≤ _; omega
  · rw [hh.1]
    show Ending.returned (.string ⟨(Lib.repeatL [32] c).toArray⟩) = _
    rw [repeat_space]; rfl
theorem trim_any (T : ByteArray) (w : World) (hT : T.size ≤ 9223372036854775807) : Calls Tryd.prog 39 #[.string T, .string ⟨#[32]⟩] w fun e w' => e = .returned (.string (bs (Lib.trimRightB T.data.toList 32))) ∧ w = w' :=
  (Tryd.strings_TrimRight_one T 32 (by decide) w hT).mono fun _ _ hh => ⟨hh.1, hh.2.symm⟩

/-- A slice of slices of strings, read. -/
def SeesRows (w : World) (B : Nat) (A : Option Addr) (rows : List (List ByteArray)) : Prop :=
  ∀ k, k < rows.length → ∃ g o Ak ck, A = some ⟨g, o, none⟩ ∧ g < B ∧ w.cell? ⟨g, o + k, none⟩ = some (.slice Ak (rows.getD k []).length ck) ∧ Sees w B 1 Ak (rows.getD k []).length (strVals (rows.getD k []))
theorem SeesRows.below {w w' : World} {B B' : Nat} {A : Option Addr} {rows : List (List ByteArray)} (h : SeesRows w B A rows) (hb : Below B' w w') (hB : B ≤ B') : SeesRows w' B A rows := by
  intro k hk
  obtain ⟨g, o, Ak, ck, e, hg, hc, hs⟩ := h k hk
  exact ⟨g, o, Ak, ck, e, hg, (hb.cell (p := ⟨g, o + k, none⟩) (by simp only; omega)).trans hc, hs.below hb hB⟩

set_option maxHeartbeats 4000000 in
set_option maxRecDepth 100000 in
theorem table_any (A : Option Addr) (n c : Nat) (rows : List (List ByteArray)) (w : World) (hn : n = rows.length) (hsee : SeesRows w w.heap.size A rows) (M N : Nat)
    (hr : ∀ k j, ((rows.getD k []).getD j ByteArray.empty).size ≤ M) (hN : ∀ k, (rows.getD k []).length ≤ N) (hM : M ≤ 1000000) (hN2 : N ≤ 1000) (hn2 : n ≤ 1000) :
    Calls Tryd.prog 24 #[.slice A n c] w fun e w' => e = .returned (.string (bs (tableText rows))) ∧ Below w.heap.size w w' := by
  have HN := Lib.hid hn
  have HR := Lib.hid hr
  have HL := Lib.hid hN
  clear hn hr hN
  go_enter Tryd.func24, Tryd.ntmps24
  go_wp2
  go_loopw [3, 16] (fun v x wr => ∃ k : Nat, k ≤ n ∧ x = .int .i64 k ∧ wr.ownsRow w.heap.size 3 1 v (wRows rows k).length (memVals (wRows rows k)) ∧ Below w.heap.size w wr) (fun _ x _ => n - (intOf x).toNat)
  case atStart => exact ⟨0, Nat.zero_le _, rfl, World.ownsRow_nil _ _ _ _, Below.refl _ _⟩
  case round =>
    obtain ⟨k, hk, rfl, hown, hb⟩ := hrel
    have hsz := hb.size
    by_cases hlt : k < n
    · have hkr : k < rows.length := by rw [← HN.out]; exact hlt
      obtain ⟨g, o, Ak, ck, rfl, hg, hck, hsk⟩ := hsee k hkr
      rw [← hb.cell (p := ⟨g, o + k, none⟩) hg] at hck
      obtain ⟨row, hrow⟩ : ∃ row, row = rows.getD k [] := ⟨_, rfl⟩
      have hrl := HL.out k
      have hrr := HR.out k
      have hst : wRows rows (k + 1) = wRow (wRows rows k) row row.length := by rw [hrow]; rfl
      rw [← hrow] at hck hsk hrl hrr
      obtain ⟨m, hm⟩ : ∃ m, m = row.length := ⟨_, rfl⟩
      rw [← hm] at hck hsk hrl hst
      have HRR := Lib.hid hrr
      have HM := Lib.hid hm
      have HST := Lib.hid hst
      clear hrow hrr hm hst
      obtain ⟨ws, hws⟩ : ∃ ws, ws = wRows rows k := ⟨_, rfl⟩
      rw [← hws] at hown
      have HWS := Lib.hid hws
      clear hws
      obtain ⟨wo, rfl⟩ : ∃ wo : World, wo = wr := ⟨_, rfl⟩
      go_wp2
      go_loopw [3, 22] (fun v x wr => ∃ i : Nat, i ≤ m ∧ x = .int .i64 i ∧ wr.ownsRow w.heap.size 3 1 v (wRow ws row i).length (memVals (wRow ws row i)) ∧ Below w.heap.size w wr) (fun _ x _ => m - (intOf x).toNat)
      case atStart => exact ⟨0, Nat.zero_le _, rfl, hown, hb⟩
      case round =>
        obtain ⟨i, hi, rfl, hown2, hb2⟩ := hrel
        clear hown hb hck
        have hsz2 := hb2.size
        by_cases hil : i < m
        · have hir : i < row.length := by rw [← HM.out]; exact hil
          obtain ⟨g2, o2, rfl, hg2, hcell⟩ := (hsk.below hb2 (Nat.le_refl _)).cells (by omega)
          have hci := hcell i _ (strVals_get row i hir)
          have hsi := HRR.out i
          clear hcell
          obtain ⟨s, hs⟩ : ∃ s, s = row.getD i ByteArray.empty := ⟨_, rfl⟩
          have hst2 : wRow ws row (i + 1) = wStep (wRow ws row i) i s.size := by rw [hs]; rfl
          rw [← hs] at hci hsi
          have hlw := (wRow_length ws row i).1
          obtain ⟨us, hus⟩ : ∃ us, us = wRow ws row i := ⟨_, rfl⟩
          rw [← hus] at hown2 hst2 hlw
          have HST2 := Lib.hid hst2
          clear hs hst2 hus
          obtain ⟨Au, cu, rfl, hcu⟩ := own_slice hown2
          by_cases hap : i = us.length
          · subst hap
            go_wp2_with (at_builtin; refine push_int wr rfl (.tmp 31) (.tmp 32) rfl w.heap.size _ _ _ hown2 rfl (.int .i64 0) rfl rfl (by omega) hsz2 ?_; intro v' w3 hown3 hb3; obtain ⟨gu, cu3, rfl⟩ := own_form hown3 (by omega); have hcl := hown3.cellAt us.length (by omega); have hfr := hown3.frozenAt us.length; rw [List.getElem?_append_right (by simp [memVals]), show us.length - (memVals us).length = 0 by simp [memVals]] at hcl; simp only [List.getElem?_cons_zero] at hcl)
            go_roundw
            case rel =>
              refine ⟨us.length + 1, by omega, by go_num, ?_, (hb2.trans (hb3 _ (Nat.le_refl _))).setCell (hown3.lt gu rfl).1 _⟩
              have hst := hown3.stored us.length (.int .i64 s.size)
              have e1 : wRow ws row (us.length + 1) = us ++ [s.size] := by rw [HST2.out]; unfold wStep; rw [if_pos rfl]
              have e2 : (memVals us ++ [Value.int .i64 0]).set us.length (.int .i64 s.size) = memVals (us ++ [s.size]) := by
                rw [memVals_snoc, List.set_append_right _ _ (by simp [memVals])]
                simp [memVals]
              rw [e1, List.length_append, ← e2]
              exact hst.1
            case measure => simp [intOf]; omega
          · have hil2 : i < us.length := by omega
            obtain ⟨gu, cu2, hv⟩ := own_form hown2 (by omega)
            injection hv with hA _ hc2
            subst hA hc2
            have hcl := (hown2.cellAt i (by omega)).trans (memVals_get us i hil2)
            have hfr := hown2.frozenAt i
            obtain ⟨t0, ht0⟩ : ∃ t0, t0 = us.getD i 0 := ⟨_, rfl⟩
            rw [← ht0] at hcl
            have HT0 := Lib.hid ht0
            have hne : ((i : Int) == (us.length : Int)) = false := by rw [beq_eq_false_iff_ne]; omega
            clear ht0
            go_wp2
            go_roundw
            case rel =>
              refine ⟨i + 1, by omega, by go_num, ?_, hb2.setCell (hown2.lt gu rfl).1 _⟩
              have hst := hown2.stored i (.int .i64 (max (t0 : Int) (s.size : Int)))
              have e1 : wRow ws row (i + 1) = us.set i (max t0 s.size) := by rw [HST2.out, HT0.out]; unfold wStep; rw [if_neg hap]
              have e2 : (memVals us).set i (.int .i64 (max (t0 : Int) (s.size : Int))) = memVals (us.set i (max t0 s.size)) := by
                unfold memVals
                rw [List.map_set]
                congr 2
                omega
              rw [e1, List.length_set, ← e2]
              exact hst.1
            case measure => simp [intOf]; omega
        · obtain rfl : i = m := by omega
          go_wp2
          go_roundw
          case rel => exact ⟨k + 1, by omega, by go_num, by rw [HST.out, ← HWS.out]; exact hown2, hb2⟩
          case measure => simp [intOf]; omega
    · obtain rfl : k = n := by omega
      obtain ⟨Wd, hWd⟩ : ∃ Wd, Wd = wRows rows k := ⟨_, rfl⟩
      have hWl : ∀ j, j < k → (rows.getD j []).length ≤ Wd.length := by rw [hWd]; exact wRows_length rows k
      have hWn : ∀ j i, j < k → i < (rows.getD j []).length → ((rows.getD j []).getD i ByteArray.empty).size ≤ Wd.getD i 0 := by rw [hWd]; exact wRows_new rows k
      have hWb : ∀ j, Wd.getD j 0 ≤ M := by rw [hWd]; exact wRows_bound rows M HR.out k
      rw [← hWd] at hown
      have HWD := Lib.hid hWd
      have HWL := Lib.hid hWl
      have HWN := Lib.hid hWn
      have HWB := Lib.hid hWb
      clear hWd hWl hWn hWb
      obtain ⟨Aw, cw, rfl, hcw⟩ := own_slice hown
      have hsw := Sees.own hown
      clear hown
      obtain ⟨wB, rfl⟩ : ∃ wB : World, wB = wr := ⟨_, rfl⟩
      go_wp2
      go_loopw [48] (fun x wr => ∃ j : Nat, j ≤ k ∧ x = .int .i64 j ∧ Lib.IsBuilder 69 5 wB.heap.size wB.heap.size (Lib.byteCells (linesTo Wd rows j)) wr ∧ Below wB.heap.size wB wr) (fun x _ => k - (intOf x).toNat)
      case atStart => exact ⟨0, Nat.zero_le _, rfl, Lib.fresh_isBuilder _ _ _, (Below.refl _ _).alloc (Nat.le_refl _) _⟩
      case round =>
        obtain ⟨j, hj, rfl, hbd, hb2⟩ := hrel
        have hsz2 := hb2.size
        have hb3 : Below w.heap.size w wr := hb.trans (hb2.mono hsz)
        by_cases hjl : j < k
        · have hjr : j < rows.length := by rw [← HN.out]; exact hjl
          obtain ⟨g, o, Ak, ck, rfl, hg, hck, hsk⟩ := hsee j hjr
          rw [← hb3.cell (p := ⟨g, o + j, none⟩) hg] at hck
          obtain ⟨row, hrow⟩ : ∃ row, row = rows.getD j [] := ⟨_, rfl⟩
          have hrl := HL.out j
          have hrr := HR.out j
          have hwl := HWL.out j hjl
          have hwn := HWN.out j
          have hst : linesTo Wd rows (j + 1) = linesTo Wd rows j ++ lineOf Wd row := by rw [hrow]; rfl
          rw [← hrow] at hck hsk hrl hrr hwl hwn
          obtain ⟨m, hm⟩ : ∃ m, m = row.length := ⟨_, rfl⟩
          rw [← hm] at hck hsk hrl hwl
          have HRR := Lib.hid hrr
          have HM := Lib.hid hm
          have HST := Lib.hid hst
          have HW2 := Lib.hid hwn
          clear hrow hrr hm hst hwn
          have hll := linesTo_length Wd rows M N HR.out HL.out HWB.out j
          obtain ⟨wo, rfl⟩ : ∃ wo : World, wo = wr := ⟨_, rfl⟩
          go_wp2
          go_loopw [11, 54] (fun t x wr => ∃ i : Nat, i ≤ m ∧ x = .int .i64 i ∧ t = .string (bs (lineTo Wd row i)) ∧ Below wo.heap.size wo wr) (fun _ x _ => m - (intOf x).toNat)
          case atStart => exact ⟨0, Nat.zero_le _, rfl, rfl, Below.refl _ _⟩
          case round =>
            obtain ⟨i, hi, rfl, rfl, hb4⟩ := hrel
            have hsz4 := hb4.size
            have hlen := lineTo_length Wd row M HRR.out HWB.out i
            have hmul : i * (2 * M + 2) ≤ 1000 * (2 * M + 2) := Nat.mul_le_mul_right _ (by omega)
            obtain ⟨T, hT⟩ : ∃ T, T = bs (lineTo Wd row i) := ⟨_, rfl⟩
            have hTs : T.size ≤ 2100000000 := by rw [hT, bs_size]; omega
            rw [← hT]
            have HT := Lib.hid hT
            clear hT hlen hmul
            have hb5 : Below w.heap.size w wr := hb3.trans (hb4.mono (by omega))
            by_cases hil : i < m
            · have hir : i < row.length := by rw [← HM.out]; exact hil
              obtain ⟨g2, o2, rfl, hg2, hcell⟩ := (hsk.below hb5 (Nat.le_refl _)).cells (by omega)
              have hci := hcell i _ (strVals_get row i hir)
              have hsi := HRR.out i
              have hwi := HWB.out i
              have hwni := HW2.out i hjl hir
              obtain ⟨g3, o3, rfl, hg3, hcell3⟩ := ((hsw.below hb2 (Nat.le_refl _)).below hb4 (by omega)).cells (by omega)
              have hcw3 := hcell3 i _ (memVals_get Wd i (by omega))
              clear hcell hcell3
              obtain ⟨s, hs⟩ : ∃ s, s = row.getD i ByteArray.empty := ⟨_, rfl⟩
              obtain ⟨u, hu⟩ : ∃ u, u = Wd.getD i 0 := ⟨_, rfl⟩
              have hst2 : lineTo Wd row (i + 1) = lineTo Wd row i ++ s.data.toList ++ (if i + 1 < row.length then List.replicate (u - s.size + 2) 32 else []) := by rw [hs, hu]; rfl
              rw [← hs] at hci hsi hwni
              rw [← hu] at hcw3 hwi hwni
              have HST2 := Lib.hid hst2
              clear hs hst2 hu hir
              by_cases hlast : i + 1 < m
              · have hlI : (i : Int) < (m : Int) - 1 := by omega
                go_wp2_with fail
                refine (spaces_any _ (by omega) (by omega) wr).mono ?_
                rintro e w5 ⟨rfl, hb6⟩
                have hz : ((u : Int) - (s.size : Int) + 2).toNat = u - s.size + 2 := by omega
                rw [hz]
                obtain ⟨P, hP⟩ : ∃ P, P = bs (List.replicate (u - s.size + 2) 32) := ⟨_, rfl⟩
                have hPs : P.size ≤ 2000000 := by rw [hP, bs_size, List.length_replicate]; omega
                rw [← hP]
                have HP := Lib.hid hP
                have hb7 := hb4.trans (hb6.mono hsz4)
                clear hP hz
                go_wp2
                go_roundw
                case rel =>
                  refine ⟨i + 1, by omega, by go_num, ?_, hb7⟩
                  rw [HST2.out, if_pos (by rw [← HM.out]; exact hlast), ← bs_append, ← bs_append, ← HT.out, ← HP.out, bs_of]
                case measure => simp [intOf]; omega
              · have hlI : ¬ (i : Int) < (m : Int) - 1 := by omega
                go_wp2
                go_roundw
                case rel =>
                  refine ⟨i + 1, by omega, by go_num, ?_, hb4⟩
                  rw [HST2.out, if_neg (by rw [← HM.out]; exact hlast), List.append_nil, ← bs_append, ← HT.out, bs_of]
                case measure => simp [intOf]; omega
            · obtain rfl : i = m := by omega
              go_wp2_with fail
              refine (trim_any T wr (by omega)).mono ?_
              rintro e w5 ⟨rfl, rfl⟩
              have htl := trim_length T.data.toList 32
              rw [size_data] at htl
              have hle : lineOf Wd row = Lib.trimRightB T.data.toList 32 ++ [10] := by unfold lineOf; rw [← HM.out, HT.out, bs_data]
              rw [hle] at HST
              obtain ⟨R, hR⟩ : ∃ R, R = bs (Lib.trimRightB T.data.toList 32) := ⟨_, rfl⟩
              have hRs : R.size ≤ 2100000000 := by rw [hR, bs_size]; omega
              rw [← hR]
              have HRx := Lib.hid hR
              clear hR htl hle
              have hmul2 : j * (N * (2 * M + 2) + 1) ≤ 1000 * (1000 * (2 * 1000000 + 2) + 1) := Nat.mul_le_mul (by omega) (Nat.add_le_add_right (Nat.mul_le_mul hN2 (by omega)) 1)
              have hlr : (R ++ (⟨#[10]⟩ : ByteArray)).size ≤ 2100000001 := by rw [ByteArray.size_append]; show R.size + 1 ≤ _; omega
              go_wp2_with fail
              refine (write_any wB.heap.size wB.heap.size (linesTo Wd rows j) _ wr (builder_below hbd hb4) (by omega) (by omega)).mono ?_
              rintro e w6 ⟨rfl, hbd6, hb6⟩
              have hb7 : Below wB.heap.size wB w6 := (hb2.trans (hb4.mono (by omega))).trans hb6
              go_wp2
              go_roundw
              case rel =>
                refine ⟨j + 1, by omega, by go_num, ?_, hb7⟩
                rw [HST.out]
                have e : (R ++ (⟨#[10]⟩ : ByteArray)).data.toList = Lib.trimRightB T.data.toList 32 ++ [10] := by
                  rw [HRx.out]
                  show (bs _ ++ bs [10]).data.toList = _
                  rw [bs_append, bs_data]
                rw [← e]; exact hbd6
              case measure => simp [intOf]; omega
        · obtain rfl : j = k := by omega
          go_wp2_with fail
          refine (Tryd.Builder_String_any wB.heap.size wB.heap.size (linesTo Wd rows j) wr hbd (by omega)).mono ?_
          rintro e w5 ⟨rfl, hb5⟩
          go_wp2
          go_ret
          refine ⟨?_, hb3.trans (hb5.mono hsz)⟩
          show Ending.returned (.string (bs (linesTo Wd rows j))) = _
          unfold tableText
          rw [← HN.out, ← HWD.out]
end Go.Proofs.YtdclhgngjbneiaaDoor
