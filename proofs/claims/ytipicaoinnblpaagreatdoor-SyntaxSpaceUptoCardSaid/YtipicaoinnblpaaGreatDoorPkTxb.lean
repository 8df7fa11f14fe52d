/- The contracts of the reference's texts of names and terms: list, joined, termText. Printed by gen_ttext.py. The contracts of the reference's sized and FormatTerm. -/
import Derived.Test.YtipicaoinnblpaaGreatDoorPkFmta
import Derived.Test.YtipicaoinnblpaaGreatDoorPkTxa
import Derived.Test.YtipicaoinnblpaaGreatDoorPkRefl
namespace Go.Proofs.YtipicaoinnblpaaGreatDoor
open Go.RowKit

theorem join_take_succ (l : List (List UInt8)) (sep : List UInt8) (k : Nat) (h : k < l.length) : Lib.join (l.take (k + 1)) sep = Lib.join (l.take k) sep ++ (if k = 0 then [] else sep) ++ l[k] := by
  match l, h with
  | x :: r, h =>
    cases k with
    | zero => simp [Lib.join_one, Lib.join_nil]
    | succ k =>
      simp only [List.length_cons] at h
      have e := Lib.joinTail_take_succ sep r k r[k] (List.getElem?_eq_getElem (by omega))
      rw [List.take_succ_cons, List.take_succ_cons, Lib.join_cons, Lib.join_cons, e]
      simp
theorem join_take_le (l : List (List UInt8)) (sep : List UInt8) (k : Nat) : (Lib.join (l.take k) sep).length ≤ (Lib.join l sep).length := by
  match l with
  | [] => simp
  | x :: r =>
    cases k with
    | zero => simp [Lib.join_nil]
    | succ k =>
      have := Lib.joinTail_take_le sep r k
      rw [List.take_succ_cons, Lib.join_cons, Lib.join_cons, List.length_append, List.length_append]
      omega
theorem join_first (l : List (List UInt8)) (sep : List UInt8) (h : 0 < l.length) : Lib.join (l.take (0 + 1)) sep = Lib.join (l.take 0) sep ++ l[0] := by rw [join_take_succ l sep 0 h]; simp
theorem join_next (l : List (List UInt8)) (sep : List UInt8) (k : Nat) (h : k < l.length) (hk : 0 < k) : Lib.join (l.take (k + 1)) sep = Lib.join (l.take k) sep ++ sep ++ l[k] := by rw [join_take_succ l sep k h, if_neg (by omega)]

set_option maxRecDepth 100000 in
set_option maxHeartbeats 2000000 in
theorem list_ref (l : List ByteArray) (A : Option Addr) (c : Nat) (w : World) (S : Nat → Prop) (h : SeesIn w S 1 A l.length (l.map Value.string)) (hS : ∀ g, S g → g < w.heap.size) (hl : 2 * l.length + tot l ≤ 48000000000) :
    Calls Tryz.prog 109 #[.slice A l.length c] w fun e w' => e = .returned (.string (bs (nameList l))) ∧ w = w' := by
  have H := Lib.hid h
  have hjl := joined_length l [44, 32]
  have hlen : (lst l).length = l.length := by simp [lst]
  have HLE := Lib.hid (show ∀ k, (Lib.join ((lst l).take k) [44, 32]).length ≤ 48000000000 from fun k => by have := join_take_le (lst l) [44, 32] k; unfold joined at hjl; simp only [List.length_cons, List.length_nil] at hjl; omega)
  have HLL := Lib.hid hlen
  clear h hjl hlen
  go_enter Tryz.func109, Tryz.ntmps109
  go_wp2
  go_loop [3, 4] (fun o x => ∃ k : Nat, k ≤ l.length ∧ x = .int .i64 k ∧ o = .string (bs (Lib.join ((lst l).take k) [44, 32]))) (fun _ x => l.length - (intOf x).toNat)
  case atStart => exact ⟨0, Nat.zero_le _, rfl, rfl⟩
  case round =>
    obtain ⟨k, hk, rfl, rfl⟩ := hrel
    obtain ⟨T, hT⟩ : ∃ T, T = bs (Lib.join ((lst l).take k) [44, 32]) := ⟨_, rfl⟩
    have hTs : T.size ≤ 48000000000 := by rw [hT, bs_size]; exact HLE.out k
    rw [← hT]
    have HT := Lib.hid hT
    clear hT
    by_cases hlt : k < l.length
    · obtain ⟨g1, o1, rfl, hS1, k1⟩ := one_cell H.out hlt
      have hg1 : g1 < w.heap.size := hS g1 hS1
      have hkI : (k : Int) < (l.length : Int) := by omega
      have hk0 : (0 : Int) ≤ (k : Int) := by omega
      have hkl : k < (lst l).length := by rw [HLL.out]; exact hlt
      have hq : (lst l)[k] = l[k].data.toList := by simp [lst]
      have hus : l[k].size ≤ 48000000000 := by
        have := getD_tot l k
        rw [List.getD_eq_getElem?_getD, List.getElem?_eq_getElem hlt] at this
        simp at this
        omega
      by_cases hz : 0 < k
      · have hzI : (0 : Int) < (k : Int) := by omega
        have HS := Lib.hid (join_next (lst l) [44, 32] k hkl hz)
        rw [hq] at HS
        generalize l[k] = u at k1 hus HS
        clear hq hz
        go_wp2
        go_round
        case rel =>
          refine ⟨k + 1, by omega, by go_num, ?_⟩
          rw [HS.out, HT.out, ← bs_of u, show (⟨#[44, 32]⟩ : ByteArray) = bs [44, 32] from rfl]
          simp only [bs_append, bs_data, List.append_assoc]
        case measure => simp [intOf]; omega
      · obtain rfl : k = 0 := by omega
        have HS := Lib.hid (join_first (lst l) [44, 32] hkl)
        rw [hq] at HS
        generalize l[0] = u at k1 hus HS
        rw [Nat.add_zero] at k1
        clear hq hz
        go_wp2
        go_round
        case rel =>
          refine ⟨0 + 1, by omega, by go_num, ?_⟩
          rw [HS.out, HT.out, ← bs_of u]
          simp only [bs_append, bs_data]
        case measure => simp [intOf]; omega
    · obtain rfl : k = l.length := by omega
      have hkI : ¬ (l.length : Int) < (l.length : Int) := by omega
      have HE := Lib.hid (show T = bs (nameList l) by rw [HT.out, ← HLL.out, List.take_length]; rfl)
      go_wp2
      go_ret
      exact ⟨by rw [← HE.out]; rfl, rfl⟩

/-- The Ops of kids that stand in parentheses. -/
def parOps (b : Bool) : List Int := if b then [4] else [3, 4]
/-- Which terms termText takes. -/
def TTOk (t : Tm) : Prop := ∀ (v : Value) (w : World) (S : Nat → Prop), TmAt w S t v → (∀ g, S g → g < w.heap.size) → okTm t = true → tmSize t ≤ 1000000000 → Pow w →
  Calls Tryz.prog 49 #[v] w fun e w' => e = .returned (.string (bs (tmText t))) ∧ Below w.heap.size w w'

theorem text_par (t : Tm) (b : Bool) (x : List UInt8) (h : t.op = 4 ∨ b = false ∧ t.op = 3) : par (parOps b) t x = [40] ++ x ++ [41] := by
  unfold par parOps
  rcases h with h | ⟨rfl, h⟩
  · rw [h]; cases b <;> rfl
  · rw [h]; rfl
theorem text_nopar (t : Tm) (b : Bool) (x : List UInt8) (h4 : t.op ≠ 4) (h3 : b = true ∨ t.op ≠ 3) : par (parOps b) t x = x := by
  have key : (parOps b).contains t.op = false := by
    cases b
    · have h3 : t.op ≠ 3 := by
        rcases h3 with h | h
        · simp at h
        · exact h
      show ([3, 4] : List Int).contains t.op = false
      rw [List.contains_eq_mem, decide_eq_false_iff_not]
      simp; omega
    · show ([4] : List Int).contains t.op = false
      rw [List.contains_eq_mem, decide_eq_false_iff_not]
      simp; omega
  unfold par
  rw [key, if_neg (by simp)]

set_option maxRecDepth 100000 in
set_option maxHeartbeats 8000000 in
theorem joined_ref (l : List Tm) (b : Bool) (sep : ByteArray) (S : Nat → Prop) (A : Option Addr) (c : Nat) (w : World) (hl : ListAt (TmAt w S) w S 5 A l) (hS : ∀ g, S g → g < w.heap.size)
    (hok : ∀ k ∈ l, okTm k = true) (hT : ∀ k ∈ l, TTOk k) (hsz : tmsSize l ≤ 1000000000) (hsep : sep.size ≤ 3) (hpw : Pow w) :
    Calls Tryz.prog 93 #[.slice A l.length c, .string sep, .bool b] w fun e w' => e = .returned (.string (bs (Lib.join (l.map fun k => par (parOps b) k (tmText k)) sep.data.toList))) ∧ Below w.heap.size w w' := by
  have HL := Lib.hid hl
  have HK := Lib.hid hok
  have HIH := Lib.hid hT
  have HP := Lib.hid hpw
  have hll := tms_length l
  obtain ⟨Q, hQ⟩ : ∃ Q, Q = l.map fun k => par (parOps b) k (tmText k) := ⟨_, rfl⟩
  have hQl : Q.length = l.length := by rw [hQ, List.length_map]
  have hpl := parts_le hok (parOps b) sep.data.toList (by simpa using hsep)
  rw [← hQ] at hpl ⊢
  have HLE := Lib.hid (show ∀ k, (Lib.join (Q.take k) sep.data.toList).length ≤ 48000000000 from fun k => by have := join_take_le Q sep.data.toList k; omega)
  have HQ := Lib.hid (show ∀ k (h : k < l.length) (h2 : k < Q.length), Q[k] = par (parOps b) l[k] (tmText l[k]) from fun k h h2 => by simp [hQ])
  have HQL := Lib.hid hQl
  clear hl hok hT hpw hQ hQl hpl
  go_enter Tryz.func93, Tryz.ntmps93
  go_wp2
  go_loopw [7, 8] (fun o x wr => ∃ k : Nat, k ≤ l.length ∧ x = .int .i64 k ∧ o = .string (bs (Lib.join (Q.take k) sep.data.toList)) ∧ Below w.heap.size w wr) (fun _ x _ => l.length - (intOf x).toNat)
  case atStart => exact ⟨0, Nat.zero_le _, rfl, by simp [Lib.join_nil]; rfl, Below.refl _ _⟩
  case round =>
    obtain ⟨k, hk, rfl, rfl, hb⟩ := hrel
    have hsr := hb.size
    obtain ⟨T, hTd⟩ : ∃ T, T = bs (Lib.join (Q.take k) sep.data.toList) := ⟨_, rfl⟩
    have hTs : T.size ≤ 48000000000 := by rw [hTd, bs_size]; exact HLE.out k
    rw [← hTd]
    have HT := Lib.hid hTd
    clear hTd
    by_cases hlt : k < l.length
    · obtain ⟨g, o, op1, nm1, nd1, wA1, wn1, wc1, kA1, kn1, kc1, rfl, hSg, htm, k0, k1, k2, k3, k4, hop⟩ := term_cells (HL.out.keep (P' := TmAt wr S) (kept_of hb hS) (fun _ _ h => h.keep (kept_of hb hS))) hlt
      have hgs : g < wr.heap.size := World.block_lt_of_cell? wr _ k0
      have hkI : (k : Int) < (l.length : Int) := by omega
      have hk0 : (0 : Int) ≤ (k : Int) := by omega
      have hmem : l[k] ∈ l := List.getElem_mem hlt
      have hkl : k < Q.length := by rw [HQL.out]; exact hlt
      have hts := tm_size_mem hmem
      have htl := tmText_le (HK.out _ hmem)
      have hC := HIH.out _ hmem _ wr S htm (fun g hg => by have := hS g hg; omega) (HK.out _ hmem) (by omega) (HP.out.below hb)
      have hq := HQ.out k hlt hkl
      have hus : (bs (tmText l[k])).size ≤ 48000000000 := by rw [bs_size]; omega
      obtain ⟨t, ht⟩ : ∃ t, t = l[k] := ⟨_, rfl⟩
      rw [← ht] at hC hq hop hus
      obtain ⟨U, hU⟩ : ∃ U, U = bs (tmText t) := ⟨_, rfl⟩
      rw [← hU] at hC hus
      have HU := Lib.hid hU
      have HC := Lib.hid hC
      have HOP := Lib.hid hop
      clear htm htl hts hC ht hU hop hmem
      by_cases h4 : op1 = 4
      · have q4 : (op1 == 4) = true := by rw [h4]; rfl
        rw [text_par _ _ _ (.inl (HOP.out.symm.trans h4))] at hq
        clear h4
        by_cases hz : 0 < k
        · have hzI : (0 : Int) < (k : Int) := by omega
          have HS : Hid (Lib.join (Q.take (k + 1)) sep.data.toList = Lib.join (Q.take k) sep.data.toList ++ sep.data.toList ++ Q[k]) := join_next Q _ k hkl hz
          rw [hq] at HS
          clear hq hz
          go_wp2_with fail
          refine HC.out.mono ?_
          rintro e W2 ⟨rfl, hb2⟩
          go_wp2
          go_roundw
          case rel =>
            refine ⟨k + 1, by omega, by go_num, ?_, hb.trans (hb2.mono (by omega))⟩
            · rw [HS.out, HT.out, HU.out, ← bs_of sep, show (⟨#[40]⟩ : ByteArray) = bs [40] from rfl, show (⟨#[41]⟩ : ByteArray) = bs [41] from rfl]
              simp only [bs_append, bs_data, List.append_assoc]
          case measure => simp [intOf]; omega
        · obtain rfl : k = 0 := by omega
          rw [Nat.zero_mul, Nat.add_zero] at k0 k1 k2 k3 k4
          have HS : Hid (Lib.join (Q.take (0 + 1)) sep.data.toList = Lib.join (Q.take 0) sep.data.toList ++ Q[0]) := join_first Q _ hkl
          rw [hq] at HS
          clear hq hz
          go_wp2_with fail
          refine HC.out.mono ?_
          rintro e W2 ⟨rfl, hb2⟩
          go_wp2
          go_roundw
          case rel =>
            refine ⟨0 + 1, by omega, by go_num, ?_, hb.trans (hb2.mono (by omega))⟩
            · rw [HS.out, HT.out, HU.out, show (⟨#[40]⟩ : ByteArray) = bs [40] from rfl, show (⟨#[41]⟩ : ByteArray) = bs [41] from rfl]
              simp only [bs_append, List.append_assoc]
          case measure => simp [intOf]; omega
      · have q4 : (op1 == 4) = false := by rw [beq_eq_false_iff_ne]; exact h4
        cases b
        · by_cases h3 : op1 = 3
          · have q3 : (op1 == 3) = true := by rw [h3]; rfl
            rw [text_par _ _ _ (.inr ⟨rfl, HOP.out.symm.trans h3⟩)] at hq
            clear h3 h4
            by_cases hz : 0 < k
            · have hzI : (0 : Int) < (k : Int) := by omega
              have HS : Hid (Lib.join (Q.take (k + 1)) sep.data.toList = Lib.join (Q.take k) sep.data.toList ++ sep.data.toList ++ Q[k]) := join_next Q _ k hkl hz
              rw [hq] at HS
              clear hq hz
              go_wp2_with fail
              refine HC.out.mono ?_
              rintro e W2 ⟨rfl, hb2⟩
              go_wp2
              go_roundw
              case rel =>
                refine ⟨k + 1, by omega, by go_num, ?_, hb.trans (hb2.mono (by omega))⟩
                · rw [HS.out, HT.out, HU.out, ← bs_of sep, show (⟨#[40]⟩ : ByteArray) = bs [40] from rfl, show (⟨#[41]⟩ : ByteArray) = bs [41] from rfl]
                  simp only [bs_append, bs_data, List.append_assoc]
              case measure => simp [intOf]; omega
            · obtain rfl : k = 0 := by omega
              rw [Nat.zero_mul, Nat.add_zero] at k0 k1 k2 k3 k4
              have HS : Hid (Lib.join (Q.take (0 + 1)) sep.data.toList = Lib.join (Q.take 0) sep.data.toList ++ Q[0]) := join_first Q _ hkl
              rw [hq] at HS
              clear hq hz
              go_wp2_with fail
              refine HC.out.mono ?_
              rintro e W2 ⟨rfl, hb2⟩
              go_wp2
              go_roundw
              case rel =>
                refine ⟨0 + 1, by omega, by go_num, ?_, hb.trans (hb2.mono (by omega))⟩
                · rw [HS.out, HT.out, HU.out, show (⟨#[40]⟩ : ByteArray) = bs [40] from rfl, show (⟨#[41]⟩ : ByteArray) = bs [41] from rfl]
                  simp only [bs_append, List.append_assoc]
              case measure => simp [intOf]; omega
          · have q3 : (op1 == 3) = false := by rw [beq_eq_false_iff_ne]; exact h3
            rw [text_nopar _ _ _ (by rw [← HOP.out]; exact h4) (.inr (by rw [← HOP.out]; exact h3))] at hq
            clear h3 h4
            by_cases hz : 0 < k
            · have hzI : (0 : Int) < (k : Int) := by omega
              have HS : Hid (Lib.join (Q.take (k + 1)) sep.data.toList = Lib.join (Q.take k) sep.data.toList ++ sep.data.toList ++ Q[k]) := join_next Q _ k hkl hz
              rw [hq] at HS
              clear hq hz
              go_wp2_with fail
              refine HC.out.mono ?_
              rintro e W2 ⟨rfl, hb2⟩
              go_wp2
              go_roundw
              case rel =>
                refine ⟨k + 1, by omega, by go_num, ?_, hb.trans (hb2.mono (by omega))⟩
                · rw [HS.out, HT.out, HU.out, ← bs_of sep]
                  simp only [bs_append, bs_data, List.append_assoc]
              case measure => simp [intOf]; omega
            · obtain rfl : k = 0 := by omega
              rw [Nat.zero_mul, Nat.add_zero] at k0 k1 k2 k3 k4
              have HS : Hid (Lib.join (Q.take (0 + 1)) sep.data.toList = Lib.join (Q.take 0) sep.data.toList ++ Q[0]) := join_first Q _ hkl
              rw [hq] at HS
              clear hq hz
              go_wp2_with fail
              refine HC.out.mono ?_
              rintro e W2 ⟨rfl, hb2⟩
              go_wp2
              go_roundw
              case rel =>
                refine ⟨0 + 1, by omega, by go_num, ?_, hb.trans (hb2.mono (by omega))⟩
                · rw [HS.out, HT.out, HU.out]
                  simp only [bs_append]
              case measure => simp [intOf]; omega
        · rw [text_nopar _ _ _ (by rw [← HOP.out]; exact h4) (.inl rfl)] at hq
          clear h4
          by_cases hz : 0 < k
          · have hzI : (0 : Int) < (k : Int) := by omega
            have HS : Hid (Lib.join (Q.take (k + 1)) sep.data.toList = Lib.join (Q.take k) sep.data.toList ++ sep.data.toList ++ Q[k]) := join_next Q _ k hkl hz
            rw [hq] at HS
            clear hq hz
            go_wp2_with fail
            refine HC.out.mono ?_
            rintro e W2 ⟨rfl, hb2⟩
            go_wp2
            go_roundw
            case rel =>
              refine ⟨k + 1, by omega, by go_num, ?_, hb.trans (hb2.mono (by omega))⟩
              · rw [HS.out, HT.out, HU.out, ← bs_of sep]
                simp only [bs_append, bs_data, List.append_assoc]
            case measure => simp [intOf]; omega
          · obtain rfl : k = 0 := by omega
            rw [Nat.zero_mul, Nat.add_zero] at k0 k1 k2 k3 k4
            have HS : Hid (Lib.join (Q.take (0 + 1)) sep.data.toList = Lib.join (Q.take 0) sep.data.toList ++ Q[0]) := join_first Q _ hkl
            rw [hq] at HS
            clear hq hz
            go_wp2_with fail
            refine HC.out.mono ?_
            rintro e W2 ⟨rfl, hb2⟩
            go_wp2
            go_roundw
            case rel =>
              refine ⟨0 + 1, by omega, by go_num, ?_, hb.trans (hb2.mono (by omega))⟩
              · rw [HS.out, HT.out, HU.out]
                simp only [bs_append]
            case measure => simp [intOf]; omega
    · obtain rfl : k = l.length := by omega
      have hkI : ¬ (l.length : Int) < (l.length : Int) := by omega
      have HE := Lib.hid (show T = bs (Lib.join Q sep.data.toList) by rw [HT.out, ← HQL.out, List.take_length])
      go_wp2
      go_ret
      exact ⟨by rw [← HE.out]; rfl, hb⟩


theorem weighed_nth (ws : List Int) (ks : List Tm) (k : Nat) (hk : k < ks.length) (hww : ws.length = 0 ∨ ws.length = ks.length) (h : k < (weighed ws (ks.map tmText)).length) :
    (weighed ws (ks.map tmText))[k] = if h0 : k < ws.length then tmText ks[k] ++ ([42] ++ Lib.itoa ws[k]) else tmText ks[k] := by
  have key : (weighed ws (ks.map tmText))[k]? = some (if h0 : k < ws.length then tmText ks[k] ++ ([42] ++ Lib.itoa ws[k]) else tmText ks[k]) := by
    unfold weighed
    by_cases hz : ws.length = 0
    · rw [if_pos hz, dif_neg (by omega)]; simp [hk]
    · have hw : k < ws.length := by rcases hww with e | e <;> omega
      rw [if_neg hz, dif_pos hw, List.getElem?_zipWith]
      simp [hk, hw]
  rw [List.getElem?_eq_getElem h] at key
  exact Option.some.inj key
theorem weighed_len (ws : List Int) (ks : List Tm) (hww : ws.length = 0 ∨ ws.length = ks.length) : (weighed ws (ks.map tmText)).length = ks.length := by
  unfold weighed
  split
  · simp
  · simp; omega

set_option maxRecDepth 100000 in
set_option maxHeartbeats 8000000 in
theorem termTextR_step (t : Tm) (ih : ∀ k ∈ t.kids, TTOk k) : TTOk t := by
  intro v w S hv hS hok hsz hpw
  obtain ⟨hhead, hws, hks⟩ := okTm_parts hok
  have hss := tmsSize_kids t
  have htl := tmText_le hok
  cases hv with
  | mk op nm need ws kids wA kA cw kc vs hw hwc hk hkc hl h =>
  have hss : tmSize (.mk op nm need ws kids) = 1 + nm.size + ws.length + tmsSize kids := hss
  have hnm : nm.size ≤ 1000000000 := by omega
  have hkz : tmsSize kids ≤ 1000000000 := by omega
  have hkl := tms_length kids
  have hwl : ws.length ≤ 1000000000 := by omega
  have IH := Lib.hid (show ∀ k ∈ kids, TTOk k from ih)
  have HKok := Lib.hid (show ∀ k ∈ kids, okTm k = true from hks)
  have HWok := Lib.hid (show ∀ k ∈ ws, small k = true from hws)
  have HH := Lib.hid hhead
  have HWs := Lib.hid hw
  have HL := Lib.hid (show ListAt (TmAt w S) w S 5 kA kids from ⟨vs, hl, hk, h⟩)
  have HP := Lib.hid hpw
  have HTL := Lib.hid (show (tmText (.mk op nm need ws kids)).length ≤ 48000000000 by omega)
  have hbA : ∀ o, Below w.heap.size w (w.alloc o) := fun o => (Below.refl _ _).alloc (Nat.le_refl _) o
  clear ih hks hws hhead hw hk hl h hpw htl hss hok hsz
  have hbox : ∀ o, ListAt (TmAt (w.alloc o) S) (w.alloc o) S 5 kA kids := fun o => HL.out.keep (kept_of (hbA o) hS) (fun _ _ h => h.keep (kept_of (hbA o) hS))
  have hj := fun (b : Bool) (sep : ByteArray) (hsep : sep.size ≤ 3) o => joined_ref kids b sep S kA kc (w.alloc o) (hbox o) (fun g hg => by have := hS g hg; simp; omega) HKok.out IH.out hkz hsep (HP.out.below (hbA o))
  have HJ := Lib.hid hj
  clear hbox hj
  by_cases h3 : op = 3
  · subst h3
    have E := Lib.hid (text3 nm need ws kids)
    go_enter Tryz.func49, Tryz.ntmps49
    go_wp2_with fail
    refine (HJ.out false ⟨#[32, 38, 32]⟩ (by decide) _).mono ?_
    rintro e w' ⟨rfl, hb2⟩
    go_wp2
    go_ret
    exact ⟨congrArg (fun b => Ending.returned (.string (bs b))) E.out.symm, (hbA _).trans (hb2.mono (by simp))⟩
  have q3 : (op == 3) = false := by rw [beq_eq_false_iff_ne]; exact h3
  by_cases h4 : op = 4
  · subst h4
    have E := Lib.hid (text4 nm need ws kids)
    go_enter Tryz.func49, Tryz.ntmps49
    go_wp2_with fail
    refine (HJ.out true ⟨#[32, 124, 32]⟩ (by decide) _).mono ?_
    rintro e w' ⟨rfl, hb2⟩
    go_wp2
    go_ret
    exact ⟨congrArg (fun b => Ending.returned (.string (bs b))) E.out.symm, (hbA _).trans (hb2.mono (by simp))⟩
  have q4 : (op == 4) = false := by rw [beq_eq_false_iff_ne]; exact h4
  clear HJ
  by_cases h5 : op = 5
  · subst h5
    obtain ⟨k, rfl⟩ : ∃ k, kids = [k] := by
      have h5 := HH.out
      have e : okHead (.mk 5 nm need ws kids) = (decide (nm.size = 0) && decide (need = 0) && decide (ws.length = 0) && decide (kids.length = 1)) := rfl
      rw [e] at h5
      simp only [Bool.and_eq_true, decide_eq_true_eq] at h5
      exact List.length_eq_one_iff.1 h5.2
    obtain ⟨g, o, op, nm2, nd, wA2, wn, wc2, kA2, kn, kc2, rfl, hSg, htm, k0, k1, k2, k3, k4, -⟩ := term_cells (l := [k]) (i := 0) HL.out (by simp)
    rw [Nat.zero_mul, Nat.add_zero] at k0 k1 k2 k3 k4
    have htm : TmAt w S k _ := htm
    have hgs : g < w.heap.size := hS g hSg
    have hmem : k ∈ [k] := by simp
    have htl := tmText_le (HKok.out k hmem)
    have hts := tm_size_mem hmem
    have HC := Lib.hid (fun o => IH.out k hmem _ (w.alloc o) S (htm.keep (kept_all (hbA o))) (fun g hg => by have := hS g hg; simp; omega) (HKok.out k hmem) (by omega) (HP.out.below (hbA o)))
    have E := Lib.hid (text5 nm need ws k)
    obtain ⟨T, hTT⟩ : ∃ T : ByteArray, T = bs (tmText k) := ⟨_, rfl⟩
    have hTs : T.size ≤ 48000000000 := by rw [hTT, bs_size]; omega
    have HTT := Lib.hid hTT
    clear htm hTT
    go_enter Tryz.func49, Tryz.ntmps49
    go_wp2_with fail
    refine (HC.out _).mono ?_
    rintro e w' ⟨rfl, hb2⟩
    rw [← HTT.out]
    go_wp2
    go_ret
    refine ⟨?_, (hbA _).trans (hb2.mono (by simp))⟩
    rw [E.out]
    exact congrArg (fun b => Ending.returned (.string b)) (cat3 _ _ _ _ _ _ rfl HTT.out rfl)
  have q5 : (op == 5) = false := by rw [beq_eq_false_iff_ne]; exact h5
  by_cases h6 : op = 6
  · subst h6
    have E := Lib.hid (show (⟨#[109, 97, 106, 111, 114, 105, 116, 121, 40]⟩ : ByteArray) ++ nm ++ (⟨#[41]⟩ : ByteArray) = bs (tmText (.mk 6 nm need ws kids)) by
      rw [text6]; exact cat3 _ _ _ _ _ _ rfl (bs_of nm).symm rfl)
    go_enter Tryz.func49, Tryz.ntmps49
    go_wp2
    go_ret
    exact ⟨congrArg (fun b => Ending.returned (.string b)) E.out, hbA _⟩
  have q6 : (op == 6) = false := by rw [beq_eq_false_iff_ne]; exact h6
  by_cases h7 : op = 7
  · subst h7
    have E := Lib.hid (show (⟨#[97, 108, 108, 40]⟩ : ByteArray) ++ nm ++ (⟨#[41]⟩ : ByteArray) = bs (tmText (.mk 7 nm need ws kids)) by
      rw [text7]; exact cat3 _ _ _ _ _ _ rfl (bs_of nm).symm rfl)
    go_enter Tryz.func49, Tryz.ntmps49
    go_wp2
    go_ret
    exact ⟨congrArg (fun b => Ending.returned (.string b)) E.out, hbA _⟩
  have q7 : (op == 7) = false := by rw [beq_eq_false_iff_ne]; exact h7
  by_cases h8 : op = 8
  · subst h8
    have E := Lib.hid (show (⟨#[97, 110, 121, 40]⟩ : ByteArray) ++ nm ++ (⟨#[41]⟩ : ByteArray) = bs (tmText (.mk 8 nm need ws kids)) by
      rw [text8]; exact cat3 _ _ _ _ _ _ rfl (bs_of nm).symm rfl)
    go_enter Tryz.func49, Tryz.ntmps49
    go_wp2
    go_ret
    exact ⟨congrArg (fun b => Ending.returned (.string b)) E.out, hbA _⟩
  have q8 : (op == 8) = false := by rw [beq_eq_false_iff_ne]; exact h8
  by_cases h1 : op = 1
  · subst h1
    have E := Lib.hid (show nm = bs (tmText (.mk 1 nm need ws kids)) by rw [show tmText (.mk 1 nm need ws kids) = nm.data.toList by rw [tmText_eq]; rfl]; exact (bs_of nm).symm)
    go_enter Tryz.func49, Tryz.ntmps49
    go_wp2
    go_ret
    exact ⟨congrArg (fun b => Ending.returned (.string b)) E.out, hbA _⟩
  have q1 : (op == 1) = false := by rw [beq_eq_false_iff_ne]; exact h1
  have h2 : op = 2 := by
    have hx := HH.out
    apply Decidable.byContradiction
    intro h2
    unfold okHead at hx
    rw [show (Tm.mk op nm need ws kids).op = op from rfl, if_neg h1, if_neg (by omega), if_neg h2, if_neg (by omega), if_neg h5] at hx
    exact absurd hx (by simp)
  subst h2
  obtain ⟨hnd, hk0, hww⟩ : small need = true ∧ 0 < kids.length ∧ (ws.length = 0 ∨ ws.length = kids.length) := by
    have h5 := HH.out
    have e : okHead (.mk 2 nm need ws kids) = (decide (nm.size = 0) && small need && decide (0 < kids.length) && (decide (ws.length = 0) || decide (ws.length = kids.length))) := rfl
    rw [e] at h5
    simp only [Bool.and_eq_true, Bool.or_eq_true, decide_eq_true_eq] at h5
    exact ⟨h5.1.1.2, h5.1.2, h5.2⟩
  have htx := text2 nm need ws kids
  have htl := HTL.out
  rw [htx] at htl
  simp only [List.length_append, List.length_cons, List.length_nil] at htl
  obtain ⟨Q, hQ⟩ : ∃ Q, Q = weighed ws (kids.map tmText) := ⟨_, rfl⟩
  rw [← hQ] at htx htl
  have HQL := Lib.hid (show Q.length = kids.length by rw [hQ]; exact weighed_len ws kids hww)
  have HQ := Lib.hid (show ∀ k (h : k < kids.length) (h2 : k < Q.length), Q[k] = if h0 : k < ws.length then tmText kids[k] ++ ([42] ++ Lib.itoa ws[k]) else tmText kids[k] from fun k h h2 => by subst hQ; exact weighed_nth ws kids k h hww h2)
  have HLE := Lib.hid (show ∀ k, (Lib.itoa need ++ [40] ++ Lib.join (Q.take k) [44, 32]).length ≤ 48000000000 from fun k => by have := join_take_le Q [44, 32] k; simp only [List.length_append, List.length_cons, List.length_nil]; omega)
  have E := Lib.hid htx
  have HND := Lib.hid hnd
  have HWW := Lib.hid hww
  clear hnd hww htx htl hQ h1 h3 h4 h5 h6 h7 h8 q1 q3 q4 q5 q6 q7 q8
  obtain ⟨W0, hW0⟩ : ∃ W0 : World, W0 = w.alloc (.cells #[.int .i64 2, .string nm, .int .i64 need, .slice wA ws.length cw, .slice kA kids.length kc] 32) := ⟨_, rfl⟩
  have hb0 : Below w.heap.size w W0 := by rw [hW0]; exact hbA _
  have hs0 : w.heap.size < W0.heap.size := by rw [hW0]; simp
  have hr0 : W0.heap[w.heap.size]? = some (.cells #[.int .i64 2, .string nm, .int .i64 need, .slice wA ws.length cw, .slice kA kids.length kc] 32 (0, 0)) := by rw [hW0]; exact heap_alloc_new w _
  have HR0 := Lib.hid hr0
  have HW0 := Lib.hid hW0
  have HI := Lib.hid (itoa_any need HND.out W0 (HP.out.below hb0))
  obtain ⟨I, hI⟩ : ∃ I : ByteArray, I = bs (Lib.itoa need) := ⟨_, rfl⟩
  have hIs : I.size ≤ 21 := by rw [hI, bs_size]; exact itoa_small HND.out
  rw [← hI] at HI
  have HIE := Lib.hid hI
  clear hW0 hr0 hI hbA
  go_enter Tryz.func49, Tryz.ntmps49
  go_wp2_with fail
  rw [← HW0.out]
  refine HI.out.mono ?_
  rintro e W1 ⟨rfl, hb1⟩
  have hs1 : w.heap.size < W1.heap.size := Nat.lt_of_lt_of_le hs0 hb1.size
  have hbw1 : Below (w.heap.size + 1) W0 W1 := hb1.mono (by omega)
  go_wp2
  go_loopw [3, 4] (fun o x wr => ∃ k : Nat, k ≤ kids.length ∧ x = .int .i64 k ∧ o = .string (bs (Lib.itoa need ++ [40] ++ Lib.join (Q.take k) [44, 32])) ∧ Below (w.heap.size + 1) W0 wr) (fun _ x _ => kids.length - (intOf x).toNat)
  case atStart => exact ⟨0, Nat.zero_le _, rfl, by rw [HIE.out, List.take_zero, Lib.join_nil, List.append_nil]; exact congrArg Value.string (cat2 _ _ _ _ rfl rfl), hbw1⟩
  case round =>
    obtain ⟨k, hk, rfl, rfl, hb⟩ := hrel
    have hsr := hb.size
    have hbw : Below w.heap.size w wr := hb0.trans (hb.mono (by omega))
    have hrr := (hb.block _ (by omega)).trans HR0.out
    obtain ⟨c0, c1, c2, c3, c4, -⟩ := row5 hrr
    clear hrr
    obtain ⟨X, hX⟩ : ∃ X, X = bs (Lib.itoa need ++ [40] ++ Lib.join (Q.take k) [44, 32]) := ⟨_, rfl⟩
    have hXs : X.size ≤ 48000000000 := by rw [hX, bs_size]; exact HLE.out k
    rw [← hX]
    have HX := Lib.hid hX
    clear hX
    by_cases hlt : k < kids.length
    · obtain ⟨g, o, op1, nm1, nd1, wA1, wn1, wc1, kA1, kn1, kc1, rfl, hSg, htm, k0, k1, k2, k3, k4, -⟩ := term_cells (HL.out.keep (P' := TmAt wr S) (kept_of hbw hS) (fun _ _ h => h.keep (kept_of hbw hS))) hlt
      have hgs : g < wr.heap.size := World.block_lt_of_cell? wr _ k0
      have hkI : (k : Int) < (kids.length : Int) := by omega
      have hk0 : (0 : Int) ≤ (k : Int) := by omega
      have hmem : kids[k] ∈ kids := List.getElem_mem hlt
      have hql : k < Q.length := by rw [HQL.out]; exact hlt
      have hts := tm_size_mem hmem
      have htl := tmText_le (HKok.out _ hmem)
      have hC := IH.out _ hmem _ wr S htm (fun g hg => by have := hS g hg; omega) (HKok.out _ hmem) (by omega) (HP.out.below hbw)
      have hq := HQ.out k hlt hql
      have hus : (bs (tmText kids[k])).size ≤ 48000000000 := by rw [bs_size]; omega
      obtain ⟨t, ht⟩ : ∃ t, t = kids[k] := ⟨_, rfl⟩
      rw [← ht] at hC hq hus
      obtain ⟨U, hU⟩ : ∃ U, U = bs (tmText t) := ⟨_, rfl⟩
      rw [← hU] at hC hus
      have HU := Lib.hid hU
      have HC := Lib.hid hC
      clear htm htl hts hC ht hU hmem
      by_cases hwz : ws.length = 0
      · have hwI : ¬ (0 : Int) < (ws.length : Int) := by omega
        rw [dif_neg (by omega)] at hq
        clear hwz
        by_cases hz : 0 < k
        · have hzI : (0 : Int) < (k : Int) := by omega
          have HS : Hid (Lib.join (Q.take (k + 1)) [44, 32] = Lib.join (Q.take k) [44, 32] ++ [44, 32] ++ Q[k]) := join_next Q _ k hql hz
          rw [hq] at HS
          clear hq hz
          go_wp2_with fail
          refine HC.out.mono ?_
          rintro e W2 ⟨rfl, hb2⟩
          have hs2 := hb2.size
          have hbw2 : Below w.heap.size w W2 := hbw.trans (hb2.mono hbw.size)
          have hbx2 : Below (w.heap.size + 1) W0 W2 := hb.trans (hb2.mono (by omega))
          obtain ⟨d0, d1, d2, d3, d4, -⟩ := row5 ((hbx2.block _ (by omega)).trans HR0.out)
          clear c0 c1 c2 c3 c4 k0 k1 k2 k3 k4
          go_wp2
          go_roundw
          case rel =>
            refine ⟨k + 1, by omega, by go_num, ?_, hbx2⟩
            · rw [HS.out, HX.out, HU.out, show (⟨#[44, 32]⟩ : ByteArray) = bs [44, 32] from rfl]
              simp only [bs_append, List.append_assoc]
          case measure => simp [intOf]; omega
        · obtain rfl : k = 0 := by omega
          rw [Nat.zero_mul, Nat.add_zero] at k0 k1 k2 k3 k4
          have HS : Hid (Lib.join (Q.take (0 + 1)) [44, 32] = Lib.join (Q.take 0) [44, 32] ++ Q[0]) := join_first Q _ hql
          rw [hq] at HS
          clear hq hz
          go_wp2_with fail
          refine HC.out.mono ?_
          rintro e W2 ⟨rfl, hb2⟩
          have hs2 := hb2.size
          have hbw2 : Below w.heap.size w W2 := hbw.trans (hb2.mono hbw.size)
          have hbx2 : Below (w.heap.size + 1) W0 W2 := hb.trans (hb2.mono (by omega))
          obtain ⟨d0, d1, d2, d3, d4, -⟩ := row5 ((hbx2.block _ (by omega)).trans HR0.out)
          clear c0 c1 c2 c3 c4 k0 k1 k2 k3 k4
          go_wp2
          go_roundw
          case rel =>
            refine ⟨0 + 1, by omega, by go_num, ?_, hbx2⟩
            · rw [HS.out, HX.out, HU.out]
              simp only [bs_append, List.append_assoc]
          case measure => simp [intOf]; omega
      · have hwI : (0 : Int) < (ws.length : Int) := by omega
        have hwk : k < ws.length := by rcases HWW.out with h | h <;> omega
        have hwkI : (k : Int) < (ws.length : Int) := by omega
        rw [dif_pos hwk] at hq
        clear hwz
        by_cases hz : 0 < k
        · have hzI : (0 : Int) < (k : Int) := by omega
          have HS : Hid (Lib.join (Q.take (k + 1)) [44, 32] = Lib.join (Q.take k) [44, 32] ++ [44, 32] ++ Q[k]) := join_next Q _ k hql hz
          rw [hq] at HS
          clear hq hz
          go_wp2_with fail
          refine HC.out.mono ?_
          rintro e W2 ⟨rfl, hb2⟩
          have hs2 := hb2.size
          have hbw2 : Below w.heap.size w W2 := hbw.trans (hb2.mono hbw.size)
          have hbx2 : Below (w.heap.size + 1) W0 W2 := hb.trans (hb2.mono (by omega))
          obtain ⟨d0, d1, d2, d3, d4, -⟩ := row5 ((hbx2.block _ (by omega)).trans HR0.out)
          clear c0 c1 c2 c3 c4 k0 k1 k2 k3 k4
          obtain ⟨g2, o2, rfl, hS2, kw⟩ := one_cell (HWs.out.keep (kept_of hbw2 hS)) hwk
          have hg2 : g2 < W2.heap.size := World.block_lt_of_cell? W2 _ kw
          obtain ⟨m, hm⟩ : ∃ m, m = ws[k] := ⟨_, rfl⟩
          have hsm : small m = true := by rw [hm]; exact HWok.out _ (List.getElem_mem hwk)
          rw [← hm] at kw HS
          have HIm := Lib.hid (itoa_any m hsm W2 (HP.out.below hbw2))
          obtain ⟨J, hJ⟩ : ∃ J : ByteArray, J = bs (Lib.itoa m) := ⟨_, rfl⟩
          have hJs : J.size ≤ 21 := by rw [hJ, bs_size]; exact itoa_small hsm
          rw [← hJ] at HIm
          have HJE := Lib.hid hJ
          clear hm hsm hJ
          go_wp2_with fail
          refine HIm.out.mono ?_
          rintro e W3 ⟨rfl, hb3⟩
          go_wp2
          go_roundw
          case rel =>
            refine ⟨k + 1, by omega, by go_num, ?_, hbx2.trans (hb3.mono (by omega))⟩
            · rw [HS.out, HX.out, HU.out, HJE.out, show (⟨#[42]⟩ : ByteArray) = bs [42] from rfl, show (⟨#[44, 32]⟩ : ByteArray) = bs [44, 32] from rfl]
              simp only [bs_append, List.append_assoc]
          case measure => simp [intOf]; omega
        · obtain rfl : k = 0 := by omega
          rw [Nat.zero_mul, Nat.add_zero] at k0 k1 k2 k3 k4
          have HS : Hid (Lib.join (Q.take (0 + 1)) [44, 32] = Lib.join (Q.take 0) [44, 32] ++ Q[0]) := join_first Q _ hql
          rw [hq] at HS
          clear hq hz
          go_wp2_with fail
          refine HC.out.mono ?_
          rintro e W2 ⟨rfl, hb2⟩
          have hs2 := hb2.size
          have hbw2 : Below w.heap.size w W2 := hbw.trans (hb2.mono hbw.size)
          have hbx2 : Below (w.heap.size + 1) W0 W2 := hb.trans (hb2.mono (by omega))
          obtain ⟨d0, d1, d2, d3, d4, -⟩ := row5 ((hbx2.block _ (by omega)).trans HR0.out)
          clear c0 c1 c2 c3 c4 k0 k1 k2 k3 k4
          obtain ⟨g2, o2, rfl, hS2, kw⟩ := one_cell (HWs.out.keep (kept_of hbw2 hS)) hwk
          have hg2 : g2 < W2.heap.size := World.block_lt_of_cell? W2 _ kw
          obtain ⟨m, hm⟩ : ∃ m, m = ws[0] := ⟨_, rfl⟩
          have hsm : small m = true := by rw [hm]; exact HWok.out _ (List.getElem_mem hwk)
          rw [← hm] at kw HS
          rw [Nat.add_zero] at kw
          have HIm := Lib.hid (itoa_any m hsm W2 (HP.out.below hbw2))
          obtain ⟨J, hJ⟩ : ∃ J : ByteArray, J = bs (Lib.itoa m) := ⟨_, rfl⟩
          have hJs : J.size ≤ 21 := by rw [hJ, bs_size]; exact itoa_small hsm
          rw [← hJ] at HIm
          have HJE := Lib.hid hJ
          clear hm hsm hJ
          go_wp2_with fail
          refine HIm.out.mono ?_
          rintro e W3 ⟨rfl, hb3⟩
          go_wp2
          go_roundw
          case rel =>
            refine ⟨0 + 1, by omega, by go_num, ?_, hbx2.trans (hb3.mono (by omega))⟩
            · rw [HS.out, HX.out, HU.out, HJE.out, show (⟨#[42]⟩ : ByteArray) = bs [42] from rfl]
              simp only [bs_append, List.append_assoc]
          case measure => simp [intOf]; omega
    · obtain rfl : k = kids.length := by omega
      have hkI : ¬ (kids.length : Int) < (kids.length : Int) := by omega
      have HE := Lib.hid (show X ++ (⟨#[41]⟩ : ByteArray) = bs (tmText (.mk 2 nm need ws kids)) by rw [HX.out, E.out, ← HQL.out, List.take_length]; exact cat2 _ _ _ _ rfl rfl)
      go_wp2
      go_ret
      exact ⟨by rw [← HE.out]; rfl, hbw⟩
theorem termText_ref (t : Tm) : TTOk t := by
  have : ∀ (n : Nat) (t : Tm), tmSize t ≤ n → TTOk t := by
    intro n
    induction n with
    | zero => intro t ht; have : 0 < tmSize t := by (cases t; rw [tmSize]; omega)
              omega
    | succ n ih => intro t ht; exact termTextR_step t (fun k hk => ih k (by have := tm_kid_size hk; omega))
  exact this _ t (Nat.le_refl _)
end Go.Proofs.YtipicaoinnblpaaGreatDoor
namespace Go.Proofs.YtipicaoinnblpaaGreatDoor
open Go.RowKit

set_option maxRecDepth 100000 in
set_option maxHeartbeats 4000000 in
theorem sized_ref (s : ByteArray) (w : World) : Calls Tryz.prog 48 #[.string s] w fun e w' => e = .returned (.tuple #[.string (bs (sizedOf s.data.toList).1), .int .i64 (sizedOf s.data.toList).2]) ∧ Below w.heap.size w w' := by
  have HT := Lib.hid (tokens_ref s w)
  have hsz : s.data.toList.length = s.size := by simp
  have hso : sizedOf s.data.toList = if (decide (s.size ≤ 65536) && decide ((lex s.data.toList 1 []).2.2 = 0) && decide ((lex s.data.toList 1 []).1.length ≤ 3000)) = true then (s.data.toList, 0) else ([], 3) := by
    unfold sizedOf sizedOk; rw [hsz]
  generalize hR : sizedOf s.data.toList = R at *
  clear hR
  go_enter Tryz.func48, Tryz.ntmps48
  go_wp2_with fail
  refine HT.out.mono ?_
  rintro e W ⟨hb, hk⟩
  generalize lex s.data.toList 1 [] = T at hk hso
  obtain ⟨L, li, er⟩ := T
  simp only at hk hso
  have no : (decide (s.size ≤ 65536) && decide (er = 0) && decide (L.length ≤ 3000)) = false → R = ([], 3) := fun h => by rw [hso, h]; rfl
  have yes : (decide (s.size ≤ 65536) && decide (er = 0) && decide (L.length ≤ 3000)) = true → R = (s.data.toList, 0) := fun h => by rw [hso, h]; rfl
  clear hso hsz
  by_cases h1 : 65536 < s.size
  · rw [if_pos h1] at hk
    subst hk
    have E := Lib.hid (no (by rw [decide_eq_false (show ¬ s.size ≤ 65536 by omega)]; rfl))
    clear no yes h1
    go_wp2
    go_ret2
    exact ⟨by rw [E.out]; rfl, hb⟩
  · rw [if_neg h1] at hk
    by_cases h2 : er ≠ 0
    · rw [if_pos h2] at hk
      subst hk
      have hz : ((er : Int) != 0) = true := natNeq h2
      have E := Lib.hid (no (by rw [decide_eq_false h2]; simp))
      clear no yes h1 h2
      go_wp2
      go_ret2
      exact ⟨by rw [E.out]; rfl, hb⟩
    · rw [if_neg h2] at hk
      obtain ⟨A, c, rfl, hc, hsee, hlen⟩ := hk
      have h0 : er = 0 := by simpa using h2
      clear hsee
      by_cases h3 : 3000 < L.length
      · have h3i : (3000 : Int) < (L.length : Int) := by omega
        have E := Lib.hid (no (by rw [decide_eq_false (show ¬ L.length ≤ 3000 by omega)]; simp))
        clear no yes h1 h2 h0 h3
        go_wp2
        go_ret2
        exact ⟨by rw [E.out]; rfl, hb⟩
      · have h3i : ¬ (3000 : Int) < (L.length : Int) := by omega
        have E := Lib.hid (yes (by rw [decide_eq_true (show s.size ≤ 65536 by omega), decide_eq_true h0, decide_eq_true (show L.length ≤ 3000 by omega)]; rfl))
        clear no yes h1 h2 h0 h3
        go_wp2
        go_ret2
        refine ⟨?_, hb⟩
        rw [E.out]
        show _ = Ending.returned (.tuple #[.string (bs s.data.toList), .int .i64 0])
        rw [bs_of]; rfl

end Go.Proofs.YtipicaoinnblpaaGreatDoor
