/- The contracts of the library's functions at this seat's program, as the kit's tool lays them (lay-shelf, lay-plain); each by one application. The contract of slices.Repeat at one string, repeated k times. Up to a bound on k. The plain law of SyntaxLarge: the text of a chain of k times the name a is read as one declaration, or is too large. No condition. -/
import Derived.Test.YtipicaoinnblpaaGreatDoorPkFmta
import Derived.Shelf.Strings.Builder1
import Derived.Shelf.Strings.Builder2
import Derived.Shelf.Strings.OnBuilder
import Derived.Shelf.Strconv.Itoa0
import Derived.Shelf.Strconv.Itoa1
import Derived.Shelf.LaysM
import Derived.Shelf.Strconv.Itoa2
import Derived.Shelf.Strconv.Itoa3
import Derived.Shelf.Strings.Search1
import Derived.Shelf.Strings.Search2
import Derived.Shelf.Strings.Search3
import Derived.Shelf.Strings.Count
import Derived.Shelf.Strings.Shaped
import Derived.Shelf.Strings.Replace
import Derived.Shelf.Bits.Mul64
import Derived.Shelf.Strings.Repeat
import Derived.Shelf.Slices.Turned
import Derived.Shelf.Slices.Equal
import Derived.Test.YtipicaoinnblpaaGreatDoorProg
import Derived.Test.YtipicaoinnblpaaGreatDoorPkMem
import Derived.Test.YtipicaoinnblpaaGreatDoorPkPara
import Derived.Laws.CopyOwn
import Derived.Laws.MakeOwn
import Derived.Maps.RangeWalk
import Derived.Test.YtipicaoinnblpaaGreatDoorPkRound
import Derived.Lib.Repeat
namespace Go.Proofs
open Go.Shelf
def Tryz.lays212_ren : Go.Shelf.Ren := ⟨fun | 212 => 59 | 263 => 114 | 264 => 115 | n => n, fun | 46 => 87 | 51 => 122 | 146 => 123 | 53 => 125 | 148 => 126 | n => n, fun | n => n⟩
theorem Tryz.lays212 : Go.Proofs.Lays.n212 Tryz.prog Tryz.lays212_ren := {
  mixed := by kernel_rfl
  f212 := Tryz.func59.trans (congrArg some (by kernel_rfl))
  f263 := Tryz.func114.trans (congrArg some (by kernel_rfl))
  f264 := Tryz.func115.trans (congrArg some (by kernel_rfl))
  t46 := Tryz.underlying87
  a46 := Tryz.isAgg87
  z46 := Tryz.sizeOf87
  v46 := Tryz.zeroValue87
  t51 := Tryz.underlying122
  a51 := Tryz.isAgg122
  z51 := Tryz.sizeOf122
  v51 := Tryz.zeroValue122
  t53 := Tryz.underlying125
  a53 := Tryz.isAgg125
  z53 := Tryz.sizeOf125
  v53 := Tryz.zeroValue125
  t146 := Tryz.underlying123
  a146 := Tryz.isAgg123
  z146 := Tryz.sizeOf123
  v146 := Tryz.zeroValue123
  t148 := Tryz.underlying126
  a148 := Tryz.isAgg126
  z148 := Tryz.sizeOf126
  v148 := Tryz.zeroValue126 }
open Go.RowKit Go.Lib in
theorem Tryz.bits_Mul (x y : Nat) (hx : x < 18446744073709551616) (hy : y < 18446744073709551616) (w : World) :
    Calls Tryz.prog 59 #[.int .u64 x, .int .u64 y] w fun e w' => e = .returned (.tuple #[.int .u64 ((x * y / 18446744073709551616 : Nat) : Int), .int .u64 ((x * y % 18446744073709551616 : Nat) : Int)]) ∧ w' = w := Any.bits_Mul Tryz.lays212 x y hx hy w
end Go.Proofs
namespace Go.Proofs.YtipicaoinnblpaaGreatDoor
open Go.RowKit

def repCells (A : Value) (k n : Nat) : List Value := List.replicate n A ++ List.replicate (k - n) (.string ByteArray.empty)
theorem rep_splice (A : Value) (k n m : Nat) (hn : n + m ≤ k) : splice (repCells A k n) n (List.replicate m A) = repCells A k (n + m) := by
  unfold splice repCells
  rw [List.take_left' (by simp), List.length_replicate, List.drop_append, List.drop_of_length_le (by simp), List.nil_append, List.length_replicate, List.drop_replicate, ← List.replicate_append_replicate (n := n), List.append_assoc]
  congr 3
  omega
theorem rep_length (A : Value) (k n : Nat) (hn : n ≤ k) : (repCells A k n).length = k := by unfold repCells; simp; omega
theorem rep_at (A : Value) (k n j : Nat) (hj : j < n) : (repCells A k n)[j]? = some A := by
  unfold repCells
  rw [List.getElem?_append_left (by simpa using hj), List.getElem?_replicate, if_pos hj]
theorem made_rep (k : Nat) : (madeCells (Value.string ByteArray.empty).cells k).toList = List.replicate k (.string ByteArray.empty) := by
  unfold madeCells
  apply List.ext_getElem
  · simp
  · intro i h1 h2
    simp [Value.cells, Nat.mod_one]

set_option maxRecDepth 100000 in
set_option maxHeartbeats 2000000 in
theorem repeat_any (a : ByteArray) (k g c : Nat) (w : World) (hk : 1 ≤ k) (hk2 : k ≤ 2000) (hg : w.heap[g]? = some (.cells #[.string a] 9 (0, 0))) :
    Calls Tryz.prog 30 #[.slice (some ⟨g, 0, none⟩) 1 c, .int .i64 k] w fun e w' => e = .returned (.slice (some ⟨w.heap.size, 0, none⟩) k k) ∧ w'.heap[w.heap.size]? = some (.cells (repCells (.string a) k k).toArray 9 (0, 0)) ∧ Below w.heap.size w w' := by
  obtain ⟨i0, hi, hz0, hz1, hz2⟩ := info_parts info_str
  have hmul := Tryz.bits_Mul 1 k (by decide) (by omega) w
  rw [show 1 * k / 18446744073709551616 = 0 by omega, show 1 * k % 18446744073709551616 = k by omega] at hmul
  have HM := Lib.hid (show Calls Tryz.prog 59 #[.int .u64 1, .int .u64 k] w (fun e w' => e = .returned (.tuple #[.int .u64 0, .int .u64 k]) ∧ w = w') from hmul.mono fun e w' h => ⟨h.1, h.2.symm⟩)
  have hmk : (Instr.makeSlice 45 (.int .i64 (k : Int)) (.int .i64 (k : Int))).run Tryz.prog w = .ok (.slice (some ⟨w.heap.size, 0, none⟩) k k) (w.alloc (.cells (repCells (.string a) k 0).toArray 9)) := by
    have h := run_make (P := Tryz.prog) w 45 9 i0 (.string ByteArray.empty) Tryz.underlying45 hi hz0 .i64 .i64 k k (by omega) (by omega) (by rw [hz2]; omega) (by omega)
    rw [hz1, Int.toNat_natCast, Nat.mul_one] at h
    rw [h]
    have e : madeCells (Value.string ByteArray.empty).cells k = (repCells (.string a) k 0).toArray := by
      apply Array.toList_inj.1
      rw [made_rep]
      simp [repCells]
    rw [e]
  have hgl := lt_of_block hg
  have hsz : (Tryz.prog.info? 9).map (·.size) = some 1 := by kernel_rfl
  have hkI : (1 : Int) ≤ (k : Int) := by omega
  have hkJ : (k : Int) ≤ 2000 := by omega
  have hkK : ¬ (k : Int) < 0 := by omega
  clear hi hz0 hz1 hz2 i0 hmul
  have HGG := Lib.hid hg
  clear hg
  go_enter Tryz.func30, Tryz.ntmps30
  go_wp2_with fail
  refine HM.out.mono ?_
  rintro e w' ⟨rfl, rfl⟩
  have hg := HGG.out
  have hc1 : (w.alloc (.cells (repCells (.string a) k 0).toArray 9)).cell? ⟨g, 0, none⟩ = some (.string a) := (((Below.refl _ _).alloc (Nat.le_refl _) _).cell (p := ⟨g, 0, none⟩) hgl).trans (cell_of_one hg)
  have HC1 := Lib.hid hc1
  clear hc1 hg
  go_wp2_with (with_reducible refine wpList_copy_splice rfl (.tmp 31) (.tmp 32) 45 45 rfl 9 Tryz.underlying45 hsz (some ⟨w.heap.size, 0, none⟩) (some ⟨g, 0, none⟩) k k 1 c rfl rfl w.heap.size 0 (repCells (.string a) k 0) 9 (heap_alloc_new w _) (List.replicate 1 (.string a)) ?c1 (fun _ => ⟨rfl, ⟨g, 0, none⟩, rfl, ?c2⟩) ?c3 ?c4 w.heap.size w ((Below.refl _ _).alloc (Nat.le_refl _) _) (Nat.le_refl _) ?c5)
  case c1 => show 1 = Nat.min 1 k; unfold Nat.min; omega
  case c2 =>
    intro j v hj
    have hj0 : j = 0 := by
      have := (List.getElem?_eq_some_iff.1 hj).1
      simpa using this
    subst hj0
    rw [Go.WideShapes.add_plain]
    simp at hj
    subst hj
    exact HC1.out
  case c3 => rw [rep_length _ _ _ (Nat.zero_le _)]; simpa using hk
  case c4 => intro v hv; rw [List.eq_of_mem_replicate hv]; rfl
  case c5 =>
  intro W1 hw1 hb1
  have hw1 : Hid (W1.heap[w.heap.size]? = some (.cells (repCells (.string a) k 1).toArray 9 (0, 0))) := by
    have h := hw1.out
    have e := rep_splice (.string a) k 0 1 (by omega)
    rw [show List.replicate 1 (Value.string a) = [.string a] from rfl] at e
    rw [e] at h
    exact h
  go_wp2
  go_loopw [8] (fun x wr => ∃ n : Nat, 1 ≤ n ∧ n ≤ k ∧ x = .int .i64 n ∧ Hid (wr.heap[w.heap.size]? = some (.cells (repCells (.string a) k n).toArray 9 (0, 0))) ∧ Below w.heap.size w wr) (fun x _ => k - (intOf x).toNat)
  case atStart => exact ⟨1, Nat.le_refl _, hk, rfl, hw1, hb1⟩
  case round =>
    obtain ⟨n, hn1, hn, rfl, hwr, hb⟩ := hrel
    by_cases hlt : n < k
    · have hnI : (n : Int) < (k : Int) := by omega
      have hn0 : (0 : Int) ≤ (n : Int) := by omega
      have hnk : (n : Int) ≤ (k : Int) := by omega
      obtain ⟨m, hm⟩ : ∃ m, m = min (k - n) n := ⟨_, rfl⟩
      have hm1 : 1 ≤ m := by omega
      have hm2 : n + m ≤ k := by omega
      have hw9 : IntKind.i64.wrap ((n : Int) + (m : Int)) = (n : Int) + (m : Int) := IntWalk.i64_in _ (by omega)
      have HMM := Lib.hid hm
      have hkn : ¬ k = n := by omega
      obtain ⟨d, hd⟩ : ∃ d, k - n = d := ⟨_, rfl⟩
      have HCE := Lib.hid (show ∀ (j : Nat) (v : Value), (List.replicate m (Value.string a))[j]? = some v → wr.drew.cell? ((⟨w.heap.size, 0, none⟩ : Addr).add j) = some v by
        intro j v hj
        have hjm : j < m := by have := (List.getElem?_eq_some_iff.1 hj).1; simpa using this
        rw [List.getElem?_replicate, if_pos hjm] at hj
        rw [Go.WideShapes.add_plain, Nat.zero_add]
        refine (cell_of_row _ _ j _ _ _ (show wr.drew.heap[w.heap.size]? = _ from hwr.out)).trans ?_
        rw [List.getElem?_toArray, rep_at _ _ _ _ (by omega)]; exact hj)
      clear hm
      go_wp2
      go_region_law ((refine step_copy_splice rfl (.tmp 41) (.tmp 44) 45 45 rfl 9 Tryz.underlying45 hsz (some ⟨w.heap.size, n, none⟩) (some ⟨w.heap.size, 0, none⟩) d d n k (by go_simp) (by go_simp) w.heap.size n (repCells (.string a) k n) 9 hwr.out (List.replicate m (.string a)) (by rw [List.length_replicate, HMM.out, hd]; exact Nat.min_comm _ _) (fun _ => ⟨rfl, ⟨w.heap.size, 0, none⟩, rfl, HCE.out⟩) (by rw [rep_length _ _ _ hn, List.length_replicate]; exact hm2) (fun v hv => by rw [List.eq_of_mem_replicate hv]; rfl) w.heap.size w hb.drew (Nat.le_refl _) ?_); intro w9 hw9' hb9)
      simp only [Act.put, List.getElem_toArray, List.getElem_cons_succ, List.getElem_cons_zero, List.setIfInBounds_toArray, List.set_cons_succ, List.set_cons_zero]
      have e := hw9'.out
      rw [rep_splice _ _ _ _ hm2] at e
      go_roundw
      case rel =>
        (repeat apply Exists.intro)
        refine And.intro ?_ rfl
        exact ⟨n + m, by omega, hm2, by go_num, e, hb9⟩
      case measure => simp [intOf]; omega
    · obtain rfl : n = k := by omega
      have hnI : ¬ (n : Int) < (n : Int) := by omega
      go_wp2
      go_ret
      exact ⟨rfl, hwr.out, hb⟩
end Go.Proofs.YtipicaoinnblpaaGreatDoor
namespace Go.Proofs.YtipicaoinnblpaaGreatDoor

def chainDc (k : Nat) : Dc := ⟨7, 0, bs [], List.replicate k (bs [97]), [], .zero, bs [], .zero, .zero, bs []⟩
theorem okName_a : okName (bs [97]) = true := by decide +kernel
theorem chain_names (k : Nat) : okNames (List.replicate k (bs [97])) = true := List.all_eq_true.2 fun x hx => by rw [List.eq_of_mem_replicate hx]; exact okName_a
theorem chain_ok (k : Nat) (h : 0 < k) : okDc (chainDc k) = true := by
  have e : decide (0 < (chainDc k).names.length) = true := by simp [chainDc, h]
  have e2 : okNames (chainDc k).names = true := chain_names k
  have h1 : hasNames 7 = true := by decide
  unfold okDc
  rw [e, e2]
  show (decide (1 ≤ (7 : Int)) && decide ((7 : Int) ≤ 7) && (hasName 7 == !decide ((bs []).size = 0)) && (hasNames 7 == true) && (hasFaults 7 == decide (0 < ([] : List Ft).length)) && (decide ((bs []).size = 0) || okName (bs [])) && (decide ((bs []).size = 0) || okName (bs [])) && true && ([] : List Ft).all okFt &&
    (if hasTerm 7 then okTm .zero else blank .zero) && (if hasConfig 7 then (bs [] == (⟨#[99, 114, 97, 115, 104]⟩ : ByteArray) || bs [] == (⟨#[98, 121, 122, 97, 110, 116, 105, 110, 101]⟩ : ByteArray)) && okTm .zero && okTm .zero && !decide ((bs []).size = 0) else decide ((bs []).size = 0) && blank .zero && blank .zero && (mayUse 7 || decide ((bs []).size = 0)))) = true
  decide +kernel
theorem chain_toks_tail (k : Nat) : (toksOf ((List.replicate k (nameP (bs [97]))).flatMap (comSep ++ ·))).length = 2 * k := by
  induction k with
  | zero => rfl
  | succ k ih => rw [List.replicate_succ, List.flatMap_cons, toksOf_append, List.length_append, ih]; simp [comSep, nameP, toksOf, Pc.toks]; omega
theorem chain_toks (k : Nat) (h : 0 < k) : (toksOf (dcP (chainDc k))).length = 2 * k + 1 := by
  have e : dcP (chainDc k) = [.word [99, 104, 97, 105, 110], .gap [32]] ++ (namesP (List.replicate k (bs [97])) ++ [.sym 59]) := by
    unfold dcP chainDc
    rfl
  have e2 : namesP (List.replicate k (bs [97])) = nameP (bs [97]) ++ (List.replicate (k - 1) (nameP (bs [97]))).flatMap (comSep ++ ·) := by
    obtain ⟨j, rfl⟩ : ∃ j, k = j + 1 := ⟨k - 1, by omega⟩
    unfold namesP
    rw [List.map_replicate, List.replicate_succ]; rfl
  rw [e, e2, toksOf_append, toksOf_append, toksOf_append, List.length_append, List.length_append, List.length_append, chain_toks_tail]
  simp [toksOf, Pc.toks, nameP]; omega
theorem chain_all (k : Nat) (h : 0 < k) : [chainDc k].all okDc = true := by simp [chain_ok k h]
theorem chain_text (k : Nat) (h : 0 < k) : dcText (chainDc k) = [99, 104, 97, 105, 110, 32, 97] ++ Lib.repeatL [44, 32, 97] (k - 1) ++ [59] := by
  have e : dcText (chainDc k) = [99, 104, 97, 105, 110, 32] ++ nameList (List.replicate k (bs [97])) ++ [59] := by
    unfold dcText chainDc
    rfl
  have e2 : nameList (List.replicate k (bs [97])) = [97] ++ Lib.repeatL [44, 32, 97] (k - 1) := by
    obtain ⟨j, rfl⟩ : ∃ j, k = j + 1 := ⟨k - 1, by omega⟩
    unfold nameList joined lst
    rw [List.map_replicate, List.replicate_succ, Lib.join_cons, bs_data]
    have : ∀ j, Lib.joinTail [44, 32] (List.replicate j [97]) = Lib.repeatL [44, 32, 97] j := by
      intro j
      induction j with
      | zero => rfl
      | succ j ih =>
        have e : Lib.joinTail [44, 32] (List.replicate (j + 1) [97]) = [44, 32] ++ [97] ++ Lib.joinTail [44, 32] (List.replicate j [97]) := by rw [List.replicate_succ]; simp [Lib.joinTail]
        rw [e, ih]; rfl
    rw [this]; simp
  rw [e, e2]; simp
theorem repeat_length (l : List UInt8) (j : Nat) : (Lib.repeatL l j).length = l.length * j := by
  induction j with
  | zero => simp [Lib.repeatL]
  | succ j ih => simp [Lib.repeatL, ih, Nat.mul_succ]; omega
theorem chain_len (k : Nat) (h : 0 < k) : (dcText (chainDc k)).length = 3 * k + 5 := by
  rw [chain_text k h]
  simp [repeat_length]; omega
theorem chain_neat (k : Nat) (h : 0 < k) : Neat (dcP (chainDc k)) := dc_neat (chain_ok k h)
theorem chain_bytes (k : Nat) : bytesOf (dcP (chainDc k)) = dcText (chainDc k) := dc_bytes rfl
theorem chain_dcs_toks (k : Nat) : toksOf (dcsP [chainDc k]) = toksOf (dcP (chainDc k)) := by rw [dcs_toks]; simp
/-- What Parse returns at the text. -/
theorem chain_few (k : Nat) (h : 0 < k) (hk : k ≤ 1499) : ∃ d, parseOf 4 (dcText (chainDc k)) = ([d], 0, 0) := by
  obtain ⟨l', h1, h2⟩ := parse_pcs 4 (chain_all k h) (chain_neat k h) (chain_dcs_toks k).symm (by rw [chain_bytes, chain_len k h]; omega) (by rw [chain_toks k h]; omega)
  rw [chain_bytes] at h1
  have hl : l'.length = 1 := by have := congrArg List.length h2; simpa using this
  obtain ⟨d, rfl⟩ := List.length_eq_one_iff.1 hl
  exact ⟨d, h1⟩
theorem chain_many (k : Nat) (hk : 1500 ≤ k) (hk2 : k ≤ 2000) : parseOf 4 (dcText (chainDc k)) = ([], 0, 3) := by
  have hn := chain_neat k (by omega)
  obtain ⟨L, h1, h2⟩ := lex_pcs _ false hn.1 hn.2 1 []
  rw [List.nil_append, chain_bytes] at h1
  have hll : L.length = 2 * k + 1 := by rw [← chain_toks k (by omega), ← List.length_map (f := (·.1)), h2]
  unfold parseOf
  rw [h1]
  simp only
  rw [if_neg (by rw [chain_len k (by omega)]; omega), if_neg (by simp), if_pos (by omega)]
theorem chain_sized (k : Nat) (h : 0 < k) (hk2 : k ≤ 2000) : sizedOk (dcsText [chainDc k]) = decide (k ≤ 1499) := by
  have hn := dcs_neat (chain_all k h)
  obtain ⟨L, h1, h2⟩ := lex_pcs _ false hn.1 hn.2 1 []
  rw [List.nil_append, dcs_bytes (chain_all k h)] at h1
  have hll : L.length = 2 * k + 1 := by rw [← chain_toks k h, ← chain_dcs_toks, ← List.length_map (f := (·.1)), h2]
  have hl : (dcsText [chainDc k]).length = 3 * k + 6 := by unfold dcsText; simp [chain_len k h]
  unfold sizedOk
  rw [h1, hl]
  simp only
  rw [decide_eq_true (show 3 * k + 6 ≤ 65536 by omega), hll]
  by_cases h3 : k ≤ 1499
  · rw [decide_eq_true h3, decide_eq_true (show 2 * k + 1 ≤ 3000 by omega)]; rfl
  · rw [decide_eq_false h3, decide_eq_false (show ¬ 2 * k + 1 ≤ 3000 by omega)]; rfl
/-- What Valid returns. -/
theorem chain_valid (k : Nat) (h : 0 < k) (hk2 : k ≤ 2000) : (formatOf [chainDc k]).2 = if k ≤ 1499 then 0 else 3 := by
  unfold formatOf sizedOf
  rw [if_pos (chain_all k h), chain_sized k h hk2]
  by_cases h3 : k ≤ 1499
  · rw [if_pos h3, decide_eq_true h3]; rfl
  · rw [if_neg h3, decide_eq_false h3]; rfl
end Go.Proofs.YtipicaoinnblpaaGreatDoor
