/- The contracts of the library's functions at this seat's program, as the kit's tool lays them (lay-shelf, lay-plain); each by one application. The contracts of the program's texts of lists and terms: list, joinedText, termText. The contract of the program's text of a fault with sets of names: Gg at FaultSets. The contract of the program's text of a fault: Gg. -/
import Derived.Test.YtbmglebipepdmaaGreatDoorPkLex
import Derived.Shelf.Strings.Builder1
import Derived.Shelf.Strings.Builder2
import Derived.Shelf.Strings.OnBuilder
import Derived.Shelf.Strconv.Itoa0
import Derived.Shelf.Strconv.Itoa1
import Derived.Shelf.LaysM
import Derived.Shelf.Strconv.Itoa2
import Derived.Shelf.Strconv.Itoa3
import Derived.Shelf.Strings.Search1
import Derived.Shelf.Strings.Search2
import Derived.Shelf.Strings.Search3
import Derived.Shelf.Strings.Count
import Derived.Shelf.Strings.Shaped
import Derived.Shelf.Slices.Turned
import Derived.Shelf.Slices.Equal
import Derived.Test.YtbmglebipepdmaaGreatDoorProg
import Derived.Test.YtbmglebipepdmaaGreatDoorPkValc
import Derived.Test.YtbmglebipepdmaaGreatDoorPkPlain
import Derived.Lib.SmallJoins
import Derived.Lib.AppendIntMem
import Derived.Deep.RegionHeld3
namespace Go.Proofs
open Go.Shelf
def Tryz.laysM171_ren : Go.Shelf.Ren := ⟨fun | 171 => 106 | 243 => 138 | 246 => 151 | 283 => 165 | 284 => 166 | 285 => 167 | 286 => 168 | 129 => 180 | 317 => 179 | 318 => 181 | 319 => 182 | 320 => 183 | 337 => 188 | 338 => 189 | n => n, fun | 3 => 3 | 9 => 9 | 2 => 2 | 4 => 4 | 171 => 169 | 0 => 0 | 53 => 170 | 37 => 118 | 5 => 5 | 173 => 173 | 212 => 181 | 51 => 182 | 20 => 20 | 213 => 183 | 46 => 184 | 232 => 188 | 233 => 189 | n => n, fun | 17 => 0 | 18 => 2 | 19 => 3 | n => n⟩
theorem Tryz.laysM171 : Go.Proofs.LaysM.n171 Tryz.prog Tryz.laysM171_ren := {
 mixed := by kernel_rfl
 f129 := Tryz.func180.trans (congrArg some (by kernel_rfl))
 f171 := Tryz.func106.trans (congrArg some (by kernel_rfl))
 f243 := Tryz.func138.trans (congrArg some (by kernel_rfl))
 f246 := Tryz.func151.trans (congrArg some (by kernel_rfl))
 f283 := Tryz.func165.trans (congrArg some (by kernel_rfl))
 f284 := Tryz.func166.trans (congrArg some (by kernel_rfl))
 f285 := Tryz.func167.trans (congrArg some (by kernel_rfl))
 f286 := Tryz.func168.trans (congrArg some (by kernel_rfl))
 f317 := Tryz.func179.trans (congrArg some (by kernel_rfl))
 f318 := Tryz.func181.trans (congrArg some (by kernel_rfl))
 f319 := Tryz.func182.trans (congrArg some (by kernel_rfl))
 f320 := Tryz.func183.trans (congrArg some (by kernel_rfl))
 f337 := Tryz.func188.trans (congrArg some (by kernel_rfl))
 f338 := Tryz.func189.trans (congrArg some (by kernel_rfl))
 t0 := Tryz.underlying0
 a0 := Tryz.isAgg0
 z0 := Tryz.sizeOf0
 v0 := Tryz.zeroValue0
 t2 := Tryz.underlying2
 a2 := Tryz.isAgg2
 z2 := Tryz.sizeOf2
 v2 := Tryz.zeroValue2
 t3 := Tryz.underlying3
 a3 := Tryz.isAgg3
 z3 := Tryz.sizeOf3
 v3 := Tryz.zeroValue3
 t4 := Tryz.underlying4
 a4 := Tryz.isAgg4
 z4 := Tryz.sizeOf4
 v4 := Tryz.zeroValue4
 t5 := Tryz.underlying5
 a5 := Tryz.isAgg5
 z5 := Tryz.sizeOf5
 v5 := Tryz.zeroValue5
 t9 := Tryz.underlying9
 a9 := Tryz.isAgg9
 z9 := Tryz.sizeOf9
 v9 := Tryz.zeroValue9
 t20 := Tryz.underlying20
 a20 := Tryz.isAgg20
 z20 := Tryz.sizeOf20
 v20 := Tryz.zeroValue20
 t37 := Tryz.underlying118
 a37 := Tryz.isAgg118
 z37 := Tryz.sizeOf118
 v37 := Tryz.zeroValue118
 t46 := Tryz.underlying184
 a46 := Tryz.isAgg184
 z46 := Tryz.sizeOf184
 v46 := Tryz.zeroValue184
 t51 := Tryz.underlying182
 a51 := Tryz.isAgg182
 z51 := Tryz.sizeOf182
 v51 := Tryz.zeroValue182
 t53 := Tryz.underlying170
 a53 := Tryz.isAgg170
 z53 := Tryz.sizeOf170
 v53 := Tryz.zeroValue170
 t171 := Tryz.underlying169
 a171 := Tryz.isAgg169
 z171 := Tryz.sizeOf169
 v171 := Tryz.zeroValue169
 t173 := Tryz.underlying173
 a173 := Tryz.isAgg173
 z173 := Tryz.sizeOf173
 v173 := Tryz.zeroValue173
 t212 := Tryz.underlying181
 a212 := Tryz.isAgg181
 z212 := Tryz.sizeOf181
 v212 := Tryz.zeroValue181
 t213 := Tryz.underlying183
 a213 := Tryz.isAgg183
 z213 := Tryz.sizeOf183
 t232 := Tryz.underlying188
 a232 := Tryz.isAgg188
 z232 := Tryz.sizeOf188
 v232 := Tryz.zeroValue188
 t233 := Tryz.underlying189
 a233 := Tryz.isAgg189
 z233 := Tryz.sizeOf189
 v233 := Tryz.zeroValue189
 g17 := by kernel_rfl
 g18 := by kernel_rfl
 g19 := by kernel_rfl
 i0 := by kernel_rfl
 i2 := by kernel_rfl
 i3 := by kernel_rfl
 i4 := by kernel_rfl
 i5 := by kernel_rfl
 i9 := by kernel_rfl
 i20 := by kernel_rfl
 i37 := by kernel_rfl
 i46 := by kernel_rfl
 i51 := by kernel_rfl
 i53 := by kernel_rfl
 i171 := by kernel_rfl
 i173 := by kernel_rfl
 i212 := by kernel_rfl
 i232 := by kernel_rfl
 i233 := by kernel_rfl
 m17 := by kernel_rfl
 m18 := by kernel_rfl
 m19 := by kernel_rfl }
open Go.RowKit Go.Sort Go.Lib in
theorem Tryz.strconv_Itoa (n : Int) (h0 : -9223372036854775808 ≤ n) (h1 : n ≤ 9223372036854775807) (w : World) (htab : Lib.TabIs Tryz.prog w "internal/strconv.uint64pow10" .u64 Lib.pow10Tab) :
  Calls Tryz.prog 106 #[.int .i64 n] w fun e w' => e = .returned (.string ⟨(Lib.itoa n).toArray⟩) ∧ ∃ k os, w' = grow (w.drewN k) os := Any.strconv_Itoa Tryz.laysM171 n h0 h1 w htab
def Tryz.lays107_ren : Go.Shelf.Ren := ⟨fun | 107 => 100 | 108 => 134 | n => n, fun | 28 => 36 | 3 => 3 | 4 => 4 | 0 => 0 | n => n, fun | n => n⟩
theorem Tryz.lays107 : Go.Proofs.Lays.n107 Tryz.prog Tryz.lays107_ren := {
 mixed := by kernel_rfl
 f107 := Tryz.func100.trans (congrArg some (by kernel_rfl))
 f108 := Tryz.func134.trans (congrArg some (by kernel_rfl))
 t0 := Tryz.underlying0
 a0 := Tryz.isAgg0
 z0 := Tryz.sizeOf0
 v0 := Tryz.zeroValue0
 t3 := Tryz.underlying3
 a3 := Tryz.isAgg3
 z3 := Tryz.sizeOf3
 v3 := Tryz.zeroValue3
 t4 := Tryz.underlying4
 a4 := Tryz.isAgg4
 z4 := Tryz.sizeOf4
 v4 := Tryz.zeroValue4
 t28 := Tryz.underlying36
 a28 := Tryz.isAgg36
 z28 := Tryz.sizeOf36
 v28 := Tryz.zeroValue36 }
open Go.Lib in
theorem Tryz.slices_Contains_int (b off n c : Nat) (zs : List Int) (x : Int) (w : World) (hz : n ≤ zs.length) (hbig : n ≤ 9223372036854775807) (hc : ∀ j, j < zs.length → w.cell? ⟨b, off + j, none⟩ = some (.int .i64 (zs.getD j 0))) :
  Calls Tryz.prog 100 #[.slice (some ⟨b, off, none⟩) n c, .int .i64 x] w fun e w' => e = .returned (.bool ((zs.take n).contains x)) ∧ w' = w := Any.slices_Contains_int Tryz.lays107 b off n c zs x w hz hbig hc
end Go.Proofs
namespace Go.Proofs.YtbmglebipepdmaaGreatDoor
open Go.RowKit

def Pow (w : World) : Prop := Lib.TabIs Tryz.prog w "internal/strconv.uint64pow10" .u64 Lib.pow10Tab
theorem gPow : Tryz.prog.globalNamed "internal/strconv.uint64pow10" = some 0 := by kernel_rfl
theorem Pow.below {w w' : World} (h : Pow w) (hb : Below w.heap.size w w') : Pow w' := Joins.tab_stays gPow h hb (Nat.le_refl _)
theorem nC (n : Int) (h : small n = true) (w : World) (hp : Pow w) : Calls Tryz.prog 106 #[.int .i64 n] w fun e w' => e = .returned (.string (bs (Lib.itoa n))) ∧ Below w.heap.size w w' := by
 have := nK h
 refine (Tryz.strconv_Itoa n (by omega) (by omega) w hp).mono ?_
 rintro e w' ⟨rfl, k, os, rfl⟩
 exact ⟨rfl, Lib.below_grow _ _ (Nat.le_refl _) k os⟩

theorem sV (xs : List ByteArray) (A : Option Addr) (c : Nat) (sep : ByteArray) (w : World) (S : Nat → Prop) (h : aL w S 1 A xs.length (aC xs)) (hS : ∀ g, S g → g < w.heap.size) (hc : xs.length ≤ c) (hlen : (joined xs sep.data.toList).length ≤ 100000000000000) (hn : xs.length ≤ 1000000000000) :
  Calls Tryz.prog 133 #[.slice A xs.length c, .string sep] w fun e w' => e = .returned (.string (bs (joined xs sep.data.toList))) ∧ Below w.heap.size w w' := by
 cases hx : xs with
 |nil =>
  refine (Tryz.strings_Join_none A c sep w).mono ?_
  rintro e w' ⟨rfl, rfl⟩
  exact ⟨rfl, Below.refl _ _⟩
 |cons y r =>
  rw [← hx]
  obtain ⟨g, o, rfl, hSg, hcell⟩ := h.cells (by rw [hx]; simp)
  refine (Tryz.strings_Join g o c xs sep w (fun j x hj => hcell j _ (by simp [aC, hj])) (hS g hSg) (by omega) hc ?_).mono ?_
  ·exact Nat.le_trans hlen (by omega)
  ·rintro e w' ⟨rfl, hb⟩
   exact ⟨rfl, hb⟩
set_option maxHeartbeats 1000000 in
theorem sU (xs : List ByteArray) (A : Option Addr) (c : Nat) (w : World) (S : Nat → Prop) (h : aL w S 1 A xs.length (aC xs)) (hS : ∀ g, S g → g < w.heap.size) (hc : xs.length ≤ c) (hlen : (dV xs).length ≤ 100000000000000) (hn : xs.length ≤ 1000000000000) :
  Calls Tryz.prog 123 #[.slice A xs.length c] w fun e w' => e = .returned (.string (bs (dV xs))) ∧ Below w.heap.size w w' := by
 have HJ := Lib.hid (sV xs A c ⟨#[44, 32]⟩ w S h hS hc hlen hn)
 clear h
 go_enter Tryz.func123, Tryz.ntmps123
 go_wp2_with fail
 refine HJ.out.mono ?_
 rintro e w' ⟨rfl, hb⟩
 go_wp2
 go_ret
 exact ⟨rfl, hb⟩

def TOk (t : Tm) : Prop := ∀ (v : Value) (w : World) (S : Nat → Prop), eG w S t v → (∀ g, S g → g < w.heap.size) → iZ t = true → au t ≤ 1000000000 → Pow w →
 Calls Tryz.prog 93 #[v] w fun e w' => e = .returned (.string (bs (aU t))) ∧ Below w.heap.size w w'

def lU (ops : List Int) (l : List Tm) : List ByteArray := l.map fun k => bs (par ops k (aU k))
theorem vU (ops : List Int) (l : List Tm) (k : Nat) (h : k < l.length) : lU ops (l.take (k + 1)) = lU ops (l.take k) ++ [bs (par ops l[k] (aU l[k]))] := by
 unfold lU; rw [List.take_succ_eq_append_getElem h, List.map_append]; rfl
theorem rV (ops : List Int) (l : List Tm) (sep : List UInt8) : joined (lU ops l) sep = Lib.join (l.map fun k => par ops k (aU k)) sep := by
 unfold joined lU lst
 rw [List.map_map]
 congr 1
theorem fQ {w : World} {S : Nat → Prop} {A : Option Addr} {l : List Tm} (h : aT (eG w S) w S 5 A l) {i : Nat} (hi : i < l.length) :
  ∃ g o op nm nd wA wn wc kA kn kc, A = some ⟨g, o, none⟩ ∧ S g ∧ eG w S l[i] (.agg #[.int .i64 op, .string nm, .int .i64 nd, .slice wA wn wc, .slice kA kn kc]) ∧ w.cell? ⟨g, o + i * 5, none⟩ = some (.int .i64 op) ∧ w.cell? ⟨g, o + i * 5 + 1, none⟩ = some (.string nm) ∧
   w.cell? ⟨g, o + i * 5 + 2, none⟩ = some (.int .i64 nd) ∧ w.cell? ⟨g, o + i * 5 + 3, none⟩ = some (.slice wA wn wc) ∧ w.cell? ⟨g, o + i * 5 + 4, none⟩ = some (.slice kA kn kc) ∧ op = l[i].op := by
 obtain ⟨g, o, v, hA, hS, hp, hc⟩ := fJ (fun x v h => by obtain ⟨op, nm, nd, wA, wn, wc, kA, kn, kc, rfl⟩ := h.form; rfl) h hi
 have hp2 := hp
 obtain ⟨op, nm, nd, wA, wn, wc, kA, kn, kc, rfl⟩ := hp.form
 refine ⟨g, o, _, _, _, _, _, _, _, _, _, hA, hS, hp2, hc 0 _ rfl, hc 1 _ rfl, hc 2 _ rfl, hc 3 _ rfl, hc 4 _ rfl, ?_⟩
 generalize l[i] = t at hp
 cases hp
 rfl

set_option maxRecDepth 100000 in
set_option maxHeartbeats 4000000 in
theorem tT (l : List Tm) (ops : List Int) (sep : ByteArray) (S : Nat → Prop) (A oA : Option Addr) (c oc : Nat) (w : World) (hl : aT (eG w S) w S 5 A l) (hS : ∀ g, S g → g < w.heap.size)
  (ho : aL w (· < w.heap.size) 1 oA ops.length (ops.map (Value.int .i64))) (hon : 0 < ops.length) (hol : ops.length ≤ 10) (hok : ∀ k ∈ l, iZ k = true) (hT : ∀ k ∈ l, TOk k) (hsz : aX l ≤ 1000000000) (hsep : sep.size ≤ 3) (hpw : Pow w) :
  Calls Tryz.prog 122 #[.slice A l.length c, .string sep, .slice oA ops.length oc] w fun e w' => e = .returned (.string (bs (Lib.join (l.map fun k => par ops k (aU k)) sep.data.toList))) ∧ Below w.heap.size w w' := by
 have HL := Lib.hid hl
 have HO := Lib.hid ho
 have HK := Lib.hid hok
 have HT := Lib.hid hT
 have HP := Lib.hid hpw
 have hll := jI l
 clear hl ho hok hT hpw
 go_enter Tryz.func122, Tryz.ntmps122
 go_wp2
 go_loopw [7, 13] (fun v x wr => ∃ k : Nat, k ≤ l.length ∧ x = .int .i64 k ∧ wr.ownsRow w.heap.size 9 1 v k (aC (lU ops (l.take k))) ∧ Below w.heap.size w wr) (fun _ x _ => l.length - (intOf x).toNat)
 case atStart => exact ⟨0, Nat.zero_le _, rfl, World.ownsRow_nil _ _ _ _, Below.refl _ _⟩
 case round =>
  obtain ⟨k, hk, rfl, hown, hb⟩ := hrel
  have hsr := hb.size
  by_cases hlt : k < l.length
  ·have hlr := HL.out.keep (P' := eG wr S) (aA hb hS) (fun _ _ h => h.keep (aA hb hS))
   obtain ⟨g, o, op, nm, nd, wA, wn, wc, kA, kn, kc, rfl, hSg, htm, k0, k1, k2, k3, k4, hop⟩ := fQ hlr hlt
   have hgs : g < wr.heap.size := by have := hS g hSg; omega
   have hkI : (k : Int) < (l.length : Int) := by omega
   have hk0 : (0 : Int) ≤ (k : Int) := by omega
   obtain ⟨t, ht⟩ : ∃ t, t = l[k] := ⟨_, rfl⟩
   have hmem : t ∈ l := by rw [ht]; exact List.getElem_mem hlt
   rw [← ht] at htm hop
   have HTX := Lib.hid ht
   have HOP := Lib.hid hop
   have htl := fM (HK.out t hmem)
   have hts := bI hmem
   have hbA : ∀ o, Below wr.heap.size wr (wr.alloc o) := fun o => (Below.refl _ _).alloc (Nat.le_refl _) o
   have HC := Lib.hid (fun o => HT.out t hmem _ (wr.alloc o) S (htm.keep (aP (hbA o))) (fun g hg => by have := hS g hg; simp; omega) (HK.out t hmem) (by omega) ((HP.out.below hb).below (hbA o)))
   clear ht hop hlr htm
   go_wp2_with fail
   refine (HC.out _).mono ?_
   rintro e W1 ⟨rfl, hb1⟩
   have hs1 := hb1.size
   rw [show (wr.alloc (.cells #[.int .i64 op, .string nm, .int .i64 nd, .slice wA wn wc, .slice kA kn kc] 39)).heap.size = wr.heap.size + 1 by simp] at hs1 hb1
   have hw1 : Below wr.heap.size wr W1 := (hbA _).trans (hb1.mono (by omega))
   have pR : Below w.heap.size w W1 := hb.trans (hw1.mono hsr)
   have c0 : W1.cell? ⟨wr.heap.size, 0, none⟩ = some (.int .i64 op) := (hb1.cell (p := ⟨wr.heap.size, 0, none⟩) (by simp)).trans (by simp)
   obtain ⟨g2, o2, rfl, hg2, hoc⟩ := (HO.out.keep (BU (B := w.heap.size) pR)).cells hon
   have HCI := Lib.hid (Tryz.slices_Contains_int g2 o2 ops.length oc ops op W1 (Nat.le_refl _) (by omega) (fun j hj => by
    have := hoc j (.int .i64 (ops.getD j 0)) (by simp [hj])
    exact this))
   obtain ⟨T, hTT⟩ : ∃ T : ByteArray, T = bs (aU t) := ⟨_, rfl⟩
   have hTs : T.size ≤ 48000000000 := by rw [hTT, cK]; omega
   rw [← hTT]
   have HTT := Lib.hid hTT
   have hown1 := own_below hown hw1 (Nat.le_refl _)
   have hsw1 : w.heap.size ≤ W1.heap.size := pR.size
   clear hTT k0 k1 k2 k3 k4 hoc HC hown
   rw [List.take_length] at HCI
   go_wp2_with fail
   refine HCI.out.mono ?_
   rintro e W2 ⟨rfl, rfl⟩
   cases hpo : ops.contains op
   ·have EQ := Lib.hid (show T = bs (par ops t (aU t)) by rw [HTT.out]; unfold par; rw [← HOP.out, hpo]; rfl)
    go_wp2_with (at_builtin; refine eX W2 rfl (.tmp 26) (.tmp 28) rfl w.heap.size _ _ _ hown1 rfl T rfl (by omega) hsw1 ?_; intro v' w3 hown3 hg3 hv3)
    go_roundw
    case rel =>
     refine ⟨k + 1, by omega, by go_num, ?_, pR.trans (aM hown1 hg3 hsw1)⟩
     rw [vU _ _ _ hlt, jB, ← HTX.out, ← EQ.out]; exact hown3
    case measure => simp [intOf]; omega
   ·have EQ := Lib.hid (show (⟨#[40]⟩ : ByteArray) ++ T ++ (⟨#[41]⟩ : ByteArray) = bs (par ops t (aU t)) by
     rw [HTT.out]; unfold par; rw [← HOP.out, hpo]
     rw [show (⟨#[40]⟩ : ByteArray) = bs [40] from rfl, show (⟨#[41]⟩ : ByteArray) = bs [41] from rfl, bV, bV]; rfl)
    go_wp2_with (at_builtin; refine eX W2 rfl (.tmp 26) (.tmp 28) rfl w.heap.size _ _ _ hown1 rfl ((⟨#[40]⟩ : ByteArray) ++ T ++ (⟨#[41]⟩ : ByteArray)) rfl (by omega) hsw1 ?_; intro v' w3 hown3 hg3 hv3)
    go_roundw
    case rel =>
     refine ⟨k + 1, by omega, by go_num, ?_, pR.trans (aM hown1 hg3 hsw1)⟩
     rw [vU _ _ _ hlt, jB, ← HTX.out, ← EQ.out]; exact hown3
    case measure => simp [intOf]; omega
  ·obtain rfl : k = l.length := by omega
   obtain ⟨A9, c9, rfl, hc9⟩ := aS hown
   rw [List.take_length] at hown
   have hlen : (lU ops l).length = l.length := by simp [lU]
   have hjl : (joined (lU ops l) sep.data.toList).length ≤ 48 * aX l := by rw [rV]; exact JW HK.out ops _ (by simpa using hsep)
   have hj := sV (lU ops l) A9 c9 sep wr (· < wr.heap.size) (by rw [hlen]; exact (aL.own hown).mono (fun g _ h => h) (by decide)) (fun g h => h) (by rw [hlen]; exact hc9) (by omega) (by omega)
   rw [hlen, rV] at hj
   have HJ := Lib.hid hj
   clear hj hjl hlen
   have hkI : ¬ (l.length : Int) < (l.length : Int) := by omega
   go_wp2_with fail
   refine HJ.out.mono ?_
   rintro e w' ⟨rfl, hb9⟩
   go_wp2
   go_ret
   exact ⟨rfl, hb.trans (hb9.mono hsr)⟩

theorem text3 (name : ByteArray) (need : Int) (ws : List Int) (kids : List Tm) : aU (.mk 3 name need ws kids) = Lib.join (kids.map fun k => par [3, 4] k (aU k)) [32, 38, 32] := by rw [jy]; show Lib.join (List.zipWith (par [3, 4]) kids (kids.map aU)) [32, 38, 32] = _; rw [zip_map]
theorem text4 (name : ByteArray) (need : Int) (ws : List Int) (kids : List Tm) : aU (.mk 4 name need ws kids) = Lib.join (kids.map fun k => par [4] k (aU k)) [32, 124, 32] := by rw [jy]; show Lib.join (List.zipWith (par [4]) kids (kids.map aU)) [32, 124, 32] = _; rw [zip_map]
theorem text5 (name : ByteArray) (need : Int) (ws : List Int) (k : Tm) : aU (.mk 5 name need ws [k]) = [100, 117, 97, 108, 40] ++ aU k ++ [41] := by rw [jy]; rfl
theorem text2 (name : ByteArray) (need : Int) (ws : List Int) (kids : List Tm) : aU (.mk 2 name need ws kids) = Lib.itoa need ++ [40] ++ Lib.join (weighed ws (kids.map aU)) [44, 32] ++ [41] := by rw [jy]; rfl
theorem text6 (name : ByteArray) (need : Int) (ws : List Int) (kids : List Tm) : aU (.mk 6 name need ws kids) = [109, 97, 106, 111, 114, 105, 116, 121, 40] ++ name.data.toList ++ [41] := by rw [jy]; rfl
theorem text7 (name : ByteArray) (need : Int) (ws : List Int) (kids : List Tm) : aU (.mk 7 name need ws kids) = [97, 108, 108, 40] ++ name.data.toList ++ [41] := by rw [jy]; rfl
theorem text8 (name : ByteArray) (need : Int) (ws : List Int) (kids : List Tm) : aU (.mk 8 name need ws kids) = [97, 110, 121, 40] ++ name.data.toList ++ [41] := by rw [jy]; rfl
theorem text1 (name : ByteArray) (need : Int) (ws : List Int) (kids : List Tm) : aU (.mk 1 name need ws kids) = name.data.toList := by rw [jy]; rfl
theorem yj (a b c : List UInt8) (A B C : ByteArray) (ha : A = bs a) (hb : B = bs b) (hc : C = bs c) : A ++ B ++ C = bs (a ++ b ++ c) := by rw [ha, hb, hc, bV, bV]
theorem cat2 (a b : List UInt8) (A B : ByteArray) (ha : A = bs a) (hb : B = bs b) : A ++ B = bs (a ++ b) := by rw [ha, hb, bV]
def pq (ws : List Int) (l : List Tm) : List ByteArray := (weighed ws (l.map aU)).map bs
theorem uY (ws : List Int) (l : List Tm) (sep : List UInt8) : joined (pq ws l) sep = Lib.join (weighed ws (l.map aU)) sep := by
 unfold joined pq lst
 rw [List.map_map]
 congr 1
 exact List.map_id'' (fun x => eZ x) _
theorem Hr (l : List Tm) (k : Nat) (h : k < l.length) : pq [] (l.take (k + 1)) = pq [] (l.take k) ++ [bs (aU l[k])] := by
 show ((l.take (k + 1)).map aU).map bs = ((l.take k).map aU).map bs ++ _
 rw [List.take_succ_eq_append_getElem h, List.map_append, List.map_append]; rfl
theorem Hq (ws : List Int) (l : List Tm) (k : Nat) (hw : k < ws.length) (h : k < l.length) : pq (ws.take (k + 1)) (l.take (k + 1)) = pq (ws.take k) (l.take k) ++ [bs (aU l[k] ++ ([42] ++ Lib.itoa ws[k]))] := by
 unfold pq
 have e : ∀ (a : List Int) (b : List Tm), a.length = b.length → weighed a (b.map aU) = List.zipWith (fun x w => x ++ ([42] ++ Lib.itoa w)) (b.map aU) a := by
  intro a b hab
  unfold weighed
  by_cases h0 : a.length = 0
  ·have ha : a = [] := List.length_eq_zero_iff.1 h0
   have hb : b = [] := List.length_eq_zero_iff.1 (by omega)
   subst ha hb; rfl
  ·rw [if_neg h0]
 rw [e _ _ (by simp; omega), e _ _ (by simp; omega), List.take_succ_eq_append_getElem h, List.take_succ_eq_append_getElem hw, List.map_append, List.zipWith_append (by simp; omega), List.map_append]
 rfl
theorem CV (ws : List Int) (l : List Tm) (h : ws.length = 0 ∨ ws.length = l.length) : (pq ws l).length = l.length := by
 unfold pq weighed
 split
 ·simp
 ·simp; omega

set_option maxRecDepth 100000 in
set_option maxHeartbeats 4000000 in
theorem Dh (t : Tm) (ih : ∀ k ∈ t.kids, TOk k) : TOk t := by
 intro v w S hv hS hok hsz hpw
 obtain ⟨hhead, hws, hks⟩ := nE hok
 have hss := dU t
 have htl := fM hok
 cases hv with
 |mk op nm need ws kids wA kA cw kc vs hw hwc hk hkc hl h =>
 have hss : au (.mk op nm need ws kids) = 1 + nm.size + ws.length + aX kids := hss
 have hnm : nm.size ≤ 1000000000 := by omega
 have hkz : aX kids ≤ 1000000000 := by omega
 have hkl := jI kids
 have hwl : ws.length ≤ 1000000000 := by omega
 have IH := Lib.hid (show ∀ k ∈ kids, TOk k from ih)
 have M7 := Lib.hid (show ∀ k ∈ kids, iZ k = true from hks)
 have HWok := Lib.hid (show ∀ k ∈ ws, small k = true from hws)
 have HH := Lib.hid hhead
 have HWs := Lib.hid hw
 have HKs := Lib.hid hk
 have HLv := Lib.hid hl
 have HV := Lib.hid h
 have HP := Lib.hid hpw
 have HTL := Lib.hid (show (aU (.mk op nm need ws kids)).length ≤ 48000000000 by omega)
 have hbA : ∀ o, Below w.heap.size w (w.alloc o) := fun o => (Below.refl _ _).alloc (Nat.le_refl _) o
 clear ih hks hws hhead hw hk hl h hpw htl hss hok hsz
 by_cases h3 : op = 3
 ·subst h3
  have E := Lib.hid (text3 nm need ws kids)
  have hj : Calls Tryz.prog 122 #[.slice kA kids.length kc, .string ⟨#[32, 38, 32]⟩, .slice (some ⟨w.heap.size + 1, 0, none⟩) 2 2] ((w.alloc (.cells #[.int .i64 3, .string nm, .int .i64 need, .slice wA ws.length cw, .slice kA kids.length kc] 39)).alloc (.cells #[.int .i64 3, .int .i64 4] 3)) (fun e w' => e = .returned (.string (bs (Lib.join (kids.map fun k => par [3, 4] k (aU k)) [32, 38, 32]))) ∧ Below w.heap.size w w') := by
   obtain ⟨W0, hW0⟩ : ∃ W0 : World, W0 = w.alloc (.cells #[.int .i64 3, .string nm, .int .i64 need, .slice wA ws.length cw, .slice kA kids.length kc] 39) := ⟨_, rfl⟩
   rw [← hW0]
   have hs0 : W0.heap.size = w.heap.size + 1 := by rw [hW0]; simp
   have hb0 : Below w.heap.size w W0 := by rw [hW0]; exact hbA _
   have hb1 : Below w.heap.size w (W0.alloc (.cells #[.int .i64 3, .int .i64 4] 3)) := hb0.alloc hb0.size _
   have hr1 := heap_alloc_new W0 (.cells #[.int .i64 3, .int .i64 4] 3)
   have hs1 : (W0.alloc (.cells #[.int .i64 3, .int .i64 4] 3)).heap.size = w.heap.size + 1 + 1 := by simp [hs0]
   rw [hs0] at hr1
   clear hW0
   generalize W0.alloc (.cells #[.int .i64 3, .int .i64 4] 3) = W1 at hr1 hs1 hb1
   exact (tT kids [3, 4] ⟨#[32, 38, 32]⟩ S kA (some ⟨w.heap.size + 1, 0, none⟩) kc 2 W1 ⟨vs, HLv.out, HKs.out.keep (aA hb1 hS), fun i x u hx hu => (HV.out i x u hx hu).keep (aA hb1 hS)⟩ (fun g hg => by have := hS g hg; omega)
    ⟨rfl, fun _ => ⟨w.heap.size + 1, 0, rfl, by omega, fun j u hu => by rw [Nat.zero_add, cell_of_row _ _ j _ _ _ hr1]; simpa using hu⟩⟩ (by decide) (by decide) M7.out IH.out (by omega) (by decide) (HP.out.below hb1)).mono fun e w' h => ⟨h.1, hb1.trans (h.2.mono hb1.size)⟩
  have HJ := Lib.hid hj
  clear hj
  go_enter Tryz.func93, Tryz.ntmps93
  go_wp2_with fail
  refine HJ.out.mono ?_
  rintro e w' ⟨rfl, hb2⟩
  go_wp2
  go_ret
  exact ⟨congrArg (fun b => Ending.returned (.string (bs b))) E.out.symm, hb2⟩
 have q3 : (op == 3) = false := by rw [beq_eq_false_iff_ne]; exact h3
 by_cases h4 : op = 4
 ·subst h4
  have E := Lib.hid (text4 nm need ws kids)
  have hj : Calls Tryz.prog 122 #[.slice kA kids.length kc, .string ⟨#[32, 124, 32]⟩, .slice (some ⟨w.heap.size + 1, 0, none⟩) 1 1] ((w.alloc (.cells #[.int .i64 4, .string nm, .int .i64 need, .slice wA ws.length cw, .slice kA kids.length kc] 39)).alloc (.cells #[.int .i64 4] 3)) (fun e w' => e = .returned (.string (bs (Lib.join (kids.map fun k => par [4] k (aU k)) [32, 124, 32]))) ∧ Below w.heap.size w w') := by
   obtain ⟨W0, hW0⟩ : ∃ W0 : World, W0 = w.alloc (.cells #[.int .i64 4, .string nm, .int .i64 need, .slice wA ws.length cw, .slice kA kids.length kc] 39) := ⟨_, rfl⟩
   rw [← hW0]
   have hs0 : W0.heap.size = w.heap.size + 1 := by rw [hW0]; simp
   have hb0 : Below w.heap.size w W0 := by rw [hW0]; exact hbA _
   have hb1 : Below w.heap.size w (W0.alloc (.cells #[.int .i64 4] 3)) := hb0.alloc hb0.size _
   have hr1 := heap_alloc_new W0 (.cells #[.int .i64 4] 3)
   have hs1 : (W0.alloc (.cells #[.int .i64 4] 3)).heap.size = w.heap.size + 1 + 1 := by simp [hs0]
   rw [hs0] at hr1
   clear hW0
   generalize W0.alloc (.cells #[.int .i64 4] 3) = W1 at hr1 hs1 hb1
   exact (tT kids [4] ⟨#[32, 124, 32]⟩ S kA (some ⟨w.heap.size + 1, 0, none⟩) kc 1 W1 ⟨vs, HLv.out, HKs.out.keep (aA hb1 hS), fun i x u hx hu => (HV.out i x u hx hu).keep (aA hb1 hS)⟩ (fun g hg => by have := hS g hg; omega)
    ⟨rfl, fun _ => ⟨w.heap.size + 1, 0, rfl, by omega, fun j u hu => by rw [Nat.zero_add, cell_of_row _ _ j _ _ _ hr1]; simpa using hu⟩⟩ (by decide) (by decide) M7.out IH.out (by omega) (by decide) (HP.out.below hb1)).mono fun e w' h => ⟨h.1, hb1.trans (h.2.mono hb1.size)⟩
  have HJ := Lib.hid hj
  clear hj
  go_enter Tryz.func93, Tryz.ntmps93
  go_wp2_with fail
  refine HJ.out.mono ?_
  rintro e w' ⟨rfl, hb2⟩
  go_wp2
  go_ret
  exact ⟨congrArg (fun b => Ending.returned (.string (bs b))) E.out.symm, hb2⟩
 have q4 : (op == 4) = false := by rw [beq_eq_false_iff_ne]; exact h4
 by_cases h5 : op = 5
 ·subst h5
  obtain ⟨k, rfl⟩ : ∃ k, kids = [k] := by
   have h5 := HH.out
   have e : bY (.mk 5 nm need ws kids) = (decide (nm.size = 0) && decide (need = 0) && decide (ws.length = 0) && decide (kids.length = 1)) := rfl
   rw [e] at h5
   simp only [Bool.and_eq_true, decide_eq_true_eq] at h5
   exact List.length_eq_one_iff.1 h5.2
  obtain ⟨g, o, op, nm2, nd, wA2, wn, wc2, kA2, kn, kc2, rfl, hSg, htm, k0, k1, k2, k3, k4, -⟩ := fQ (l := [k]) (i := 0) (S := S) (A := kA) ⟨vs, HLv.out, HKs.out, HV.out⟩ (by simp)
  rw [Nat.zero_mul, Nat.add_zero] at k0 k1 k2 k3 k4
  have htm : eG w S k _ := htm
  have hgs : g < w.heap.size := hS g hSg
  have hmem : k ∈ [k] := by simp
  have htl := fM (M7.out k hmem)
  have hts := bI hmem
  have HC := Lib.hid (fun o => IH.out k hmem _ (w.alloc o) S (htm.keep (aP (hbA o))) (fun g hg => by have := hS g hg; simp; omega) (M7.out k hmem) (by omega) (HP.out.below (hbA o)))
  have E := Lib.hid (text5 nm need ws k)
  obtain ⟨T, hTT⟩ : ∃ T : ByteArray, T = bs (aU k) := ⟨_, rfl⟩
  have hTs : T.size ≤ 48000000000 := by rw [hTT, cK]; omega
  have HTT := Lib.hid hTT
  clear htm hTT
  go_enter Tryz.func93, Tryz.ntmps93
  go_wp2_with fail
  refine (HC.out _).mono ?_
  rintro e w' ⟨rfl, hb2⟩
  rw [← HTT.out]
  go_wp2
  go_ret
  refine ⟨?_, (hbA _).trans (hb2.mono (by simp))⟩
  rw [E.out]
  exact congrArg (fun b => Ending.returned (.string b)) (yj _ _ _ _ _ _ rfl HTT.out rfl)
 have q5 : (op == 5) = false := by rw [beq_eq_false_iff_ne]; exact h5
 by_cases h6 : op = 6
 ·subst h6
  have E := Lib.hid (show (⟨#[109, 97, 106, 111, 114, 105, 116, 121, 40]⟩ : ByteArray) ++ nm ++ (⟨#[41]⟩ : ByteArray) = bs (aU (.mk 6 nm need ws kids)) by
   rw [text6]; exact yj _ _ _ _ _ _ rfl (dS nm).symm rfl)
  go_enter Tryz.func93, Tryz.ntmps93
  go_wp2
  go_ret
  exact ⟨congrArg (fun b => Ending.returned (.string b)) E.out, hbA _⟩
 have q6 : (op == 6) = false := by rw [beq_eq_false_iff_ne]; exact h6
 by_cases h7 : op = 7
 ·subst h7
  have E := Lib.hid (show (⟨#[97, 108, 108, 40]⟩ : ByteArray) ++ nm ++ (⟨#[41]⟩ : ByteArray) = bs (aU (.mk 7 nm need ws kids)) by
   rw [text7]; exact yj _ _ _ _ _ _ rfl (dS nm).symm rfl)
  go_enter Tryz.func93, Tryz.ntmps93
  go_wp2
  go_ret
  exact ⟨congrArg (fun b => Ending.returned (.string b)) E.out, hbA _⟩
 have q7 : (op == 7) = false := by rw [beq_eq_false_iff_ne]; exact h7
 by_cases h8 : op = 8
 ·subst h8
  have E := Lib.hid (show (⟨#[97, 110, 121, 40]⟩ : ByteArray) ++ nm ++ (⟨#[41]⟩ : ByteArray) = bs (aU (.mk 8 nm need ws kids)) by
   rw [text8]; exact yj _ _ _ _ _ _ rfl (dS nm).symm rfl)
  go_enter Tryz.func93, Tryz.ntmps93
  go_wp2
  go_ret
  exact ⟨congrArg (fun b => Ending.returned (.string b)) E.out, hbA _⟩
 have q8 : (op == 8) = false := by rw [beq_eq_false_iff_ne]; exact h8
 by_cases h2 : op = 2
 ·subst h2
  obtain ⟨hnd, hk0, hww⟩ : small need = true ∧ 0 < kids.length ∧ (ws.length = 0 ∨ ws.length = kids.length) := by
   have h5 := HH.out
   have e : bY (.mk 2 nm need ws kids) = (decide (nm.size = 0) && small need && decide (0 < kids.length) && (decide (ws.length = 0) || decide (ws.length = kids.length))) := rfl
   rw [e] at h5
   simp only [Bool.and_eq_true, Bool.or_eq_true, decide_eq_true_eq] at h5
   exact ⟨h5.1.1.2, h5.1.2, h5.2⟩
  have E := Lib.hid (text2 nm need ws kids)
  have HND := Lib.hid hnd
  have HWW := Lib.hid hww
  clear hnd hww
  go_enter Tryz.func93, Tryz.ntmps93
  go_wp2
  obtain ⟨W0, hW0⟩ : ∃ W0 : World, W0 = w.alloc (.cells #[.int .i64 2, .string nm, .int .i64 need, .slice wA ws.length cw, .slice kA kids.length kc] 39) := ⟨_, rfl⟩
  have hb0 : Below w.heap.size w W0 := by rw [hW0]; exact hbA _
  have hs0 : w.heap.size < W0.heap.size := by rw [hW0]; simp
  have hr0 : W0.heap[w.heap.size]? = some (.cells #[.int .i64 2, .string nm, .int .i64 need, .slice wA ws.length cw, .slice kA kids.length kc] 39 (0, 0)) := by rw [hW0]; exact heap_alloc_new w _
  rw [← hW0]
  have HR0 := Lib.hid hr0
  clear hW0 hr0
  go_loopw [3, 53] (fun v x wr => ∃ k : Nat, k ≤ kids.length ∧ x = .int .i64 k ∧ wr.ownsRow W0.heap.size 9 1 v k (aC (pq (ws.take k) (kids.take k))) ∧ Below W0.heap.size W0 wr) (fun _ x _ => kids.length - (intOf x).toNat)
  case atStart => exact ⟨0, Nat.zero_le _, rfl, World.ownsRow_nil _ _ _ _, Below.refl _ _⟩
  case round =>
   obtain ⟨k, hk, rfl, hown, hb⟩ := hrel
   have hsr := hb.size
   have hbw : Below w.heap.size w wr := hb0.trans (hb.mono (Nat.le_of_lt hs0))
   have hrr := (hb.block _ hs0).trans HR0.out
   by_cases hlt : k < kids.length
   ·obtain ⟨g, o, op, nm2, nd, wA2, wn, wc2, kA2, kn, kc2, rfl, hSg, htm, k0, k1, k2, k3, k4, -⟩ := fQ (l := kids) (i := k) (S := S) (A := kA) (w := wr) ⟨vs, HLv.out, HKs.out.keep (aA hbw hS), fun i x u hx hu => (HV.out i x u hx hu).keep (aA hbw hS)⟩ hlt
    have hgs : g < wr.heap.size := by have := hS g hSg; omega
    have hkI : (k : Int) < (kids.length : Int) := by omega
    have hkz0 : (0 : Int) ≤ (k : Int) := by omega
    obtain ⟨t, ht⟩ : ∃ t, t = kids[k] := ⟨_, rfl⟩
    have hmem : t ∈ kids := by rw [ht]; exact List.getElem_mem hlt
    rw [← ht] at htm
    have HTX := Lib.hid ht
    have htl := fM (M7.out t hmem)
    have hts := bI hmem
    have hbA : ∀ o, Below wr.heap.size wr (wr.alloc o) := fun o => (Below.refl _ _).alloc (Nat.le_refl _) o
    have HC := Lib.hid (fun o => IH.out t hmem _ (wr.alloc o) S (htm.keep (aP (hbA o))) (fun g hg => by have := hS g hg; simp; omega) (M7.out t hmem) (by omega) ((HP.out.below hbw).below (hbA o)))
    have c3r := ai hrr 3 _ rfl
    obtain ⟨T, hTT⟩ : ∃ T : ByteArray, T = bs (aU t) := ⟨_, rfl⟩
    have hTs : T.size ≤ 48000000000 := by rw [hTT, cK]; omega
    have HTT := Lib.hid hTT
    clear ht htm hTT
    go_wp2_with fail
    refine (HC.out _).mono ?_
    rintro e W1 ⟨rfl, hb1⟩
    rw [← HTT.out]
    have hs1 := hb1.size
    rw [show (wr.alloc (.cells #[.int .i64 op, .string nm2, .int .i64 nd, .slice wA2 wn wc2, .slice kA2 kn kc2] 39)).heap.size = wr.heap.size + 1 by simp] at hs1 hb1
    have hw1 : Below wr.heap.size wr W1 := (hbA _).trans (hb1.mono (by omega))
    have pR : Below w.heap.size w W1 := hbw.trans (hw1.mono hbw.size)
    have hbx1 : Below W0.heap.size W0 W1 := hb.trans (hw1.mono hsr)
    have hr1 := (hw1.block _ (Nat.lt_of_lt_of_le hs0 hsr)).trans hrr
    have c3 := ai hr1 3 _ rfl
    have hown1 := own_below hown hw1 (Nat.le_refl _)
    have hsw1 : W0.heap.size ≤ W1.heap.size := hbx1.size
    clear k0 k1 k2 k3 k4 HC hown hr1 hrr c3r
    by_cases hz : ws.length = 0
    ·have HWN := Lib.hid (show ws = [] from List.length_eq_zero_iff.1 hz)
     have hzI : ¬ (0 : Int) < (ws.length : Int) := by omega
     clear hz
     go_wp2_with (at_builtin; refine eX W1 rfl (.tmp 73) (.tmp 75) rfl W0.heap.size _ _ _ hown1 rfl T rfl (by omega) hsw1 ?_; intro v' w3 hown3 hg3 hv3)
     go_roundw
     case rel =>
      refine ⟨k + 1, by omega, by go_num, ?_, hbx1.trans (aM hown1 hg3 hsw1)⟩
      rw [HWN.out, List.take_nil] at hown3 ⊢
      rw [Hr _ _ hlt, jB, ← HTX.out, ← HTT.out]; exact hown3
     case measure => simp [intOf]; omega
    ·have hzI : (0 : Int) < (ws.length : Int) := by omega
     have hwk : k < ws.length := by rcases HWW.out with h | h <;> omega
     have hwkI : (k : Int) < (ws.length : Int) := by omega
     obtain ⟨g2, o2, rfl, hS2, kw⟩ := one_cell (HWs.out.keep (aA pR hS)) hwk
     have hg2 : g2 < W1.heap.size := by have := hS g2 hS2; have := pR.size; omega
     obtain ⟨m, hm⟩ : ∃ m, m = ws[k] := ⟨_, rfl⟩
     have hsm : small m = true := by rw [hm]; exact HWok.out _ (List.getElem_mem hwk)
     rw [← hm] at kw
     have HM := Lib.hid hm
     have HI := Lib.hid (nC m hsm W1 (HP.out.below pR))
     obtain ⟨I, hI⟩ : ∃ I : ByteArray, I = bs (Lib.itoa m) := ⟨_, rfl⟩
     have hIs : I.size ≤ 21 := by rw [hI, cK]; exact gF hsm
     have HIE := Lib.hid hI
     clear hm hsm hI
     go_wp2_with fail
     refine HI.out.mono ?_
     rintro e W2 ⟨rfl, hb2⟩
     rw [← HIE.out]
     have hs2 := hb2.size
     have hown2 := own_below hown1 hb2 (Nat.le_refl _)
     have Kj : Below W0.heap.size W0 W2 := hbx1.trans (hb2.mono hsw1)
     have hsw2 := Kj.size
     clear c3 kw hown1
     go_wp2_with (at_builtin; refine eX W2 rfl (.tmp 73) (.tmp 75) rfl W0.heap.size _ _ _ hown2 rfl (T ++ ((⟨#[42]⟩ : ByteArray) ++ I)) rfl (by omega) hsw2 ?_; intro v' w3 hown3 hg3 hv3)
     go_roundw
     case rel =>
      refine ⟨k + 1, by omega, by go_num, ?_, Kj.trans (aM hown2 hg3 hsw2)⟩
      rw [Hq _ _ _ hwk hlt, jB, ← HTX.out, ← HM.out, ← cat2 _ _ _ _ HTT.out (cat2 _ _ _ _ (rfl : (⟨#[42]⟩ : ByteArray) = bs [42]) HIE.out)]; exact hown3
     case measure => simp [intOf]; omega
   ·obtain rfl : k = kids.length := by omega
    obtain ⟨A9, c9, rfl, hc9⟩ := aS hown
    have hwt : ws.take kids.length = ws := List.take_of_length_le (by rcases HWW.out with h | h <;> omega)
    rw [List.take_length, hwt] at hown
    have hlen := CV ws kids HWW.out
    have hjl : (dV (pq ws kids)).length ≤ 48000000000 := by
     have := HTL.out
     rw [E.out] at this
     unfold dV
     rw [uY]
     simp only [List.length_append] at this
     omega
    have c2 := ai hrr 2 _ rfl
    have HI := Lib.hid (nC need HND.out wr (HP.out.below hbw))
    obtain ⟨I, hI⟩ : ∃ I : ByteArray, I = bs (Lib.itoa need) := ⟨_, rfl⟩
    have hIs : I.size ≤ 21 := by rw [hI, cK]; exact gF HND.out
    have HIE := Lib.hid hI
    have HOWN := Lib.hid hown
    have HLEN := Lib.hid hlen
    have HHT := Lib.hid hwt
    have hkI : ¬ (kids.length : Int) < (kids.length : Int) := by omega
    clear hI hrr hown hlen hwt
    go_wp2_with fail
    refine HI.out.mono ?_
    rintro e W1 ⟨rfl, hb1⟩
    rw [← HIE.out]
    have hs1 := hb1.size
    have hj := sU (pq ws kids) A9 c9 W1 (· < W1.heap.size) (by rw [HLEN.out]; exact (aL.own (own_below HOWN.out hb1 (Nat.le_refl _))).mono (fun g _ h => h) (by decide)) (fun g h => h) (by rw [HLEN.out]; exact hc9) (by omega) (by rw [HLEN.out]; omega)
    rw [HLEN.out] at hj
    obtain ⟨L, hL⟩ : ∃ L : ByteArray, L = bs (dV (pq ws kids)) := ⟨_, rfl⟩
    have hLs : L.size ≤ 48000000000 := by rw [hL, cK]; exact hjl
    rw [← hL] at hj
    have HJ := Lib.hid hj
    have HLE := Lib.hid hL
    clear hj hL c2 hjl
    go_wp2_with fail
    refine HJ.out.mono ?_
    rintro e W2 ⟨rfl, hb2⟩
    go_wp2
    go_ret
    refine ⟨?_, (hbw.trans (hb1.mono hbw.size)).trans (hb2.mono (Nat.le_trans hbw.size hs1))⟩
    rw [E.out]
    refine congrArg (fun b => Ending.returned (.string b)) ?_
    refine cat2 _ _ _ _ (yj _ _ _ _ _ _ HIE.out rfl ?_) rfl
    rw [HLE.out]; unfold dV; rw [uY]
 have q2 : (op == 2) = false := by rw [beq_eq_false_iff_ne]; exact h2
 by_cases h1 : op = 1
 ·subst h1
  have E := Lib.hid (show nm = bs (aU (.mk 1 nm need ws kids)) by rw [text1]; exact (dS nm).symm)
  go_enter Tryz.func93, Tryz.ntmps93
  go_wp2
  go_ret
  exact ⟨congrArg (fun b => Ending.returned (.string b)) E.out, hbA _⟩
 have := HH.out
 simp [bY, Tm.op, h1, h2, h3, h4, h5, h6, h7, h8] at this
theorem oH (t : Tm) : TOk t := by
 have : ∀ (n : Nat) (t : Tm), au t ≤ n → TOk t := by
  intro n
  induction n with
  |zero =>
    intro t ht; have : 0 < au t := by (cases t; rw [au]; omega)
    omega
  |succ n ih => intro t ht; exact Dh t (fun k hk => ih k (by have := gI hk; omega))
 exact this _ t (Nat.le_refl _)
end Go.Proofs.YtbmglebipepdmaaGreatDoor
namespace Go.Proofs.YtbmglebipepdmaaGreatDoor
open Go.RowKit

theorem lH {x : ByteArray} (h : bG x = true) : x.size ≤ 24 ∧ 0 < x.size := by
 unfold bG dR at h
 rw [Bool.and_eq_true] at h
 have h1 := h.1
 split at h1
 ·cases h1
 ·rename_i c r e
  simp only [Bool.and_eq_true, decide_eq_true_eq] at h1
  have e0 : x.data.toList.length = x.size := by simp
  have h2 : x.data.toList.length ≤ 24 := h1.1.1
  have h3 : 0 < x.data.toList.length := by rw [e]; simp
  omega
theorem Iz {l : List ByteArray} (h : bg l = true) : ∀ x ∈ l, bG x = true := List.all_eq_true.1 h
theorem pO {l : List ByteArray} (h : ∀ x ∈ l, bG x = true) : tot l ≤ 24 * l.length := by
 induction l with
 |nil => simp [tot]
 |cons x r ih =>
  have h1 := (lH (h x (by simp))).1
  have h2 := ih (fun y hy => h y (by simp [hy]))
  have : x.data.toList.length = x.size := by simp
  simp only [tot, List.map_cons, List.sum_cons, List.length_cons] at h2 ⊢
  omega
theorem fT {l : List ByteArray} (h : bg l = true) : (dV l).length ≤ 26 * l.length := by
 have a := kW l [44, 32]
 have b := pO (Iz h)
 unfold dV
 simp only [List.length_cons, List.length_nil] at a
 omega
theorem ft3 (nm : ByteArray) (x y : Int) (bl cl : List ByteArray) : iB ⟨3, nm, x, y, bl, cl⟩ = Lib.join (qE ⟨3, nm, x, y, bl, cl⟩) [32] := rfl
theorem ft2 (nm : ByteArray) (x y : Int) (bl cl : List ByteArray) : iB ⟨2, nm, x, y, bl, cl⟩ = [116, 104, 114, 101, 115, 104, 111, 108, 100, 32] ++ Lib.itoa x ++ [32] ++ Lib.itoa y := rfl
theorem nQ {f : Ft} (h : jG f = true) : (iB f).length ≤ 100 + 26 * (f.ay.length + f.ak.length) := by
 obtain ⟨op, nm, x, y, bl, cl⟩ := f
 show (iB ⟨op, nm, x, y, bl, cl⟩).length ≤ 100 + 26 * (bl.length + cl.length)
 have hnm : nm.data.toList.length = nm.size := by simp
 by_cases h1 : op = 1
 ·subst h1
  show 4 ≤ _
  omega
 by_cases h2 : op = 2
 ·subst h2
  have e : jG ⟨2, nm, x, y, bl, cl⟩ = (decide (nm.size = 0) && small x && small y && !jD ⟨2, nm, x, y, bl, cl⟩) := rfl
  rw [e] at h
  simp only [Bool.and_eq_true, decide_eq_true_eq] at h
  have a := gF h.1.1.2
  have b := gF h.1.2
  rw [ft2]
  simp only [List.length_append, List.length_cons, List.length_nil]
  omega
 by_cases h3 : op = 3
 ·subst h3
  have e : jG ⟨3, nm, x, y, bl, cl⟩ = (decide (nm.size = 0) && !gQ ⟨3, nm, x, y, bl, cl⟩ && jD ⟨3, nm, x, y, bl, cl⟩ && bg bl && bg cl) := rfl
  rw [e] at h
  simp only [Bool.and_eq_true] at h
  have a := fT h.1.2
  have b := fT h.2
  rw [ft3]
  have c := join_length_le (qE ⟨3, nm, x, y, bl, cl⟩) [32]
  refine Nat.le_trans c ?_
  have e2 : qE ⟨3, nm, x, y, bl, cl⟩ = (if bl.length = 0 then [] else [mH [98, 121, 122] bl]) ++ (if cl.length = 0 then [] else [mH [99, 114, 97, 115, 104] cl]) := rfl
  rw [e2]
  by_cases g1 : bl.length = 0 <;> by_cases g2 : cl.length = 0 <;> simp [g1, g2, Lib.lens, mH] <;> omega
 by_cases h4 : op = 4 ∨ op = 5 ∨ op = 6
 ·have e : jG ⟨op, nm, x, y, bl, cl⟩ = (bG nm && !gQ ⟨op, nm, x, y, bl, cl⟩ && !jD ⟨op, nm, x, y, bl, cl⟩) := by
   unfold jG
   simp only
   rw [if_neg h1, if_neg h2, if_neg h3, if_pos h4]
  rw [e] at h
  simp only [Bool.and_eq_true] at h
  have a := (lH h.1.1).1
  rcases h4 with rfl | rfl | rfl
  ·show ([115, 105, 116, 101, 32] ++ nm.data.toList ++ [32, 98, 121, 122]).length ≤ _
   simp only [List.length_append, List.length_cons, List.length_nil]; omega
  ·show ([115, 105, 116, 101, 32] ++ nm.data.toList ++ [32, 99, 114, 97, 115, 104]).length ≤ _
   simp only [List.length_append, List.length_cons, List.length_nil]; omega
  ·show nm.data.toList.length ≤ _
   omega
 ·have e : jG ⟨op, nm, x, y, bl, cl⟩ = false := by
   unfold jG
   simp only
   rw [if_neg h1, if_neg h2, if_neg h3, if_neg h4]
  rw [e] at h
  cases h

set_option maxRecDepth 100000 in
set_option maxHeartbeats 4000000 in
theorem sets_any (nm : ByteArray) (x y : Int) (bl cl : List ByteArray) (bA : Option Addr) (bc : Nat) (cA : Option Addr) (cc : Nat) (w : World) (S : Nat → Prop) (hsb : aL w S 1 bA bl.length (bl.map Value.string)) (hlb : bl.length ≤ bc) (hsc : aL w S 1 cA cl.length (cl.map Value.string)) (hlc : cl.length ≤ cc) (hS : ∀ g, S g → g < w.heap.size) (hok : jG ⟨3, nm, x, y, bl, cl⟩ = true) (hlim : bl.length + cl.length ≤ 1000000000) :
  Calls Tryz.prog 132 #[.agg #[.int .i64 3, .string nm, .int .i64 x, .int .i64 y, .slice bA bl.length bc, .slice cA cl.length cc]] w fun e w' => e = .returned (.string (bs (iB ⟨3, nm, x, y, bl, cl⟩))) ∧ Below w.heap.size w w' := by
 have hbA : ∀ o, Below w.heap.size w (w.alloc o) := fun o => (Below.refl _ _).alloc (Nat.le_refl _) o
 have HB := Lib.hid hsb
 have HC := Lib.hid hsc
 obtain ⟨hn, hob, hoc⟩ : 0 < bl.length + cl.length ∧ bg bl = true ∧ bg cl = true := by
  have h := hok
  have e : jG ⟨3, nm, x, y, bl, cl⟩ = (decide (nm.size = 0) && !gQ ⟨3, nm, x, y, bl, cl⟩ && decide (0 < bl.length + cl.length) && bg bl && bg cl) := rfl
  rw [e] at h
  simp only [Bool.and_eq_true, decide_eq_true_eq] at h
  exact ⟨h.1.1.2, h.1.2, h.2⟩
 have hnb := fT hob
 have hnc := fT hoc
 obtain ⟨TB, hTB⟩ : ∃ T : ByteArray, T = bs (dV bl) := ⟨_, rfl⟩
 have hTBs : TB.size ≤ 26000000000 := by rw [hTB, cK]; omega
 obtain ⟨TC, hTC⟩ : ∃ T : ByteArray, T = bs (dV cl) := ⟨_, rfl⟩
 have hTCs : TC.size ≤ 26000000000 := by rw [hTC, cK]; omega
 have HLB := Lib.hid (fun (W : World) (hb : Below w.heap.size w W) => show Calls Tryz.prog 123 #[.slice bA bl.length bc] W (fun e w' => e = .returned (.string TB) ∧ Below W.heap.size W w') by rw [hTB]; exact sU bl bA bc W S (HB.out.keep (aA hb hS)) (fun g hg => by have := hS g hg; have := hb.size; omega) hlb (by omega) (by omega))
 have HLC := Lib.hid (fun (W : World) (hb : Below w.heap.size w W) => show Calls Tryz.prog 123 #[.slice cA cl.length cc] W (fun e w' => e = .returned (.string TC) ∧ Below W.heap.size W w') by rw [hTC]; exact sU cl cA cc W S (HC.out.keep (aA hb hS)) (fun g hg => by have := hS g hg; have := hb.size; omega) hlc (by omega) (by omega))
 have EB := Lib.hid (show ((⟨#[98, 121, 122, 32, 123, 32]⟩ : ByteArray) ++ TB ++ (⟨#[32, 125]⟩ : ByteArray)) = bs (mH [98, 121, 122] bl) from yj _ _ _ _ _ _ rfl hTB rfl)
 have EC := Lib.hid (show ((⟨#[99, 114, 97, 115, 104, 32, 123, 32]⟩ : ByteArray) ++ TC ++ (⟨#[32, 125]⟩ : ByteArray)) = bs (mH [99, 114, 97, 115, 104] cl) from yj _ _ _ _ _ _ rfl hTC rfl)
 have ZB := Lib.hid (show ((⟨#[98, 121, 122, 32, 123, 32]⟩ : ByteArray) ++ TB ++ (⟨#[32, 125]⟩ : ByteArray)).size ≤ 27000000000 by rw [ByteArray.size_append, ByteArray.size_append]; show 6 + TB.size + 2 ≤ _; omega)
 have ZC := Lib.hid (show ((⟨#[99, 114, 97, 115, 104, 32, 123, 32]⟩ : ByteArray) ++ TC ++ (⟨#[32, 125]⟩ : ByteArray)).size ≤ 27000000000 by rw [ByteArray.size_append, ByteArray.size_append]; show 8 + TC.size + 2 ≤ _; omega)
 have EF := Lib.hid (ft3 nm x y bl cl)
 have ES := Lib.hid (show qE ⟨3, nm, x, y, bl, cl⟩ = (if bl.length = 0 then [] else [mH [98, 121, 122] bl]) ++ (if cl.length = 0 then [] else [mH [99, 114, 97, 115, 104] cl]) from rfl)
 have one_len : ∀ (X : ByteArray), X.size ≤ 27000000000 → (joined [X] [32]).length ≤ 100000000000000 := by
  intro X hX
  have := kW [X] [32]
  simp only [tot, List.map_cons, List.map_nil, List.sum_cons, List.sum_nil, List.length_cons, List.length_nil] at this
  have e : X.data.toList.length = X.size := by simp
  omega
 have two_len : ∀ (X Y : ByteArray), X.size ≤ 27000000000 → Y.size ≤ 27000000000 → (joined [X, Y] [32]).length ≤ 100000000000000 := by
  intro X Y hX hY
  have := kW [X, Y] [32]
  simp only [tot, List.map_cons, List.map_nil, List.sum_cons, List.sum_nil, List.length_cons, List.length_nil] at this
  have e : X.data.toList.length = X.size := by simp
  have e : Y.data.toList.length = Y.size := by simp
  omega
 have ONE := Lib.hid one_len
 have TWO := Lib.hid two_len
 clear hob hoc hnb hnc hTB hTC hsb hsc hok one_len two_len
 by_cases zb : bl.length = 0
 ·have hzb : ¬ (0 : Int) < (bl.length : Int) := by omega
  have hzc : (0 : Int) < (cl.length : Int) := by omega
  have HZB := Lib.hid zb
  have HN := Lib.hid hn
  clear zb hn
  go_enter Tryz.func132, Tryz.ntmps132
  go_wp2_with fail
  refine (HLC.out _ (hbA _)).mono ?_
  rintro e W1 ⟨rfl, hb1⟩
  have hs1 := hb1.size
  rw [show (w.alloc (.cells #[.int .i64 3, .string nm, .int .i64 x, .int .i64 y, .slice bA bl.length bc, .slice cA cl.length cc] 82)).heap.size = w.heap.size + 1 by simp] at hs1 hb1
  have pR : Below w.heap.size w W1 := (hbA _).trans (hb1.mono (by omega))
  have hown0 := World.ownsRow_nil W1 (w.heap.size + 1) 9 1
  go_wp2_with (at_builtin; refine eX W1 rfl (.tmp 49) (.tmp 55) rfl (w.heap.size + 1) _ _ _ hown0 rfl ((⟨#[99, 114, 97, 115, 104, 32, 123, 32]⟩ : ByteArray) ++ TC ++ (⟨#[32, 125]⟩ : ByteArray)) rfl (by omega) hs1 ?_; intro v' w3 hown3 hg3 hv3)
  have hb3 := aM hown0 hg3 hs1
  obtain ⟨A9, c9, rfl, hc9⟩ := aS hown3
  have HJ := Lib.hid (sV [((⟨#[99, 114, 97, 115, 104, 32, 123, 32]⟩ : ByteArray) ++ TC ++ (⟨#[32, 125]⟩ : ByteArray))] A9 c9 ⟨#[32]⟩ w3 (· < w3.heap.size) ((aL.own hown3).mono (fun g _ h => h) (by decide)) (fun g h => h) hc9 (ONE.out _ ZC.out) (by simp))
  go_wp2_with fail
  refine HJ.out.mono ?_
  rintro e W4 ⟨rfl, hb4⟩
  go_wp2
  go_ret
  refine ⟨congrArg (fun b => Ending.returned (.string b)) ?_, (pR.trans (hb3.mono (by omega))).trans (hb4.mono (by have := hb3.size; omega))⟩
  rw [EF.out, ES.out, if_pos HZB.out, if_neg (by have := HN.out; have := HZB.out; omega), List.nil_append, Lib.join_one, EC.out, BV, eZ]
 ·have hzb : (0 : Int) < (bl.length : Int) := by omega
  have HZB := Lib.hid zb
  clear zb hn
  by_cases zc : cl.length = 0
  ·have hzc : ¬ (0 : Int) < (cl.length : Int) := by omega
   have HZC := Lib.hid zc
   clear zc
   go_enter Tryz.func132, Tryz.ntmps132
   go_wp2_with fail
   refine (HLB.out _ (hbA _)).mono ?_
   rintro e W1 ⟨rfl, hb1⟩
   have hs1 := hb1.size
   rw [show (w.alloc (.cells #[.int .i64 3, .string nm, .int .i64 x, .int .i64 y, .slice bA bl.length bc, .slice cA cl.length cc] 82)).heap.size = w.heap.size + 1 by simp] at hs1 hb1
   have pR : Below w.heap.size w W1 := (hbA _).trans (hb1.mono (by omega))
   have hown0 := World.ownsRow_nil W1 (w.heap.size + 1) 9 1
   have c5 : W1.cell? ⟨w.heap.size, 5, none⟩ = some (.slice cA cl.length cc) := (hb1.cell (p := ⟨w.heap.size, 5, none⟩) (by simp)).trans (by simp)
   have HC5 := Lib.hid c5
   clear c5
   go_wp2_with (at_builtin; refine eX W1 rfl (.tmp 37) (.tmp 43) rfl (w.heap.size + 1) _ _ _ hown0 rfl ((⟨#[98, 121, 122, 32, 123, 32]⟩ : ByteArray) ++ TB ++ (⟨#[32, 125]⟩ : ByteArray)) rfl (by omega) hs1 ?_; intro v' w3 hown3 hg3 hv3; have hb3 := aM hown0 hg3 hs1; have c5 : w3.cell? ⟨w.heap.size, 5, none⟩ = some (.slice cA cl.length cc) := (hb3.cell (p := ⟨w.heap.size, 5, none⟩) (by simp)).trans HC5.out)
   obtain ⟨A9, c9, rfl, hc9⟩ := aS hown3
   have HJ := Lib.hid (sV [((⟨#[98, 121, 122, 32, 123, 32]⟩ : ByteArray) ++ TB ++ (⟨#[32, 125]⟩ : ByteArray))] A9 c9 ⟨#[32]⟩ w3 (· < w3.heap.size) ((aL.own hown3).mono (fun g _ h => h) (by decide)) (fun g h => h) hc9 (ONE.out _ ZB.out) (by simp))
   go_wp2_with fail
   refine HJ.out.mono ?_
   rintro e W4 ⟨rfl, hb4⟩
   go_wp2
   go_ret
   refine ⟨congrArg (fun b => Ending.returned (.string b)) ?_, (pR.trans (hb3.mono (by omega))).trans (hb4.mono (by have := hb3.size; omega))⟩
   rw [EF.out, ES.out, if_neg HZB.out, if_pos HZC.out, List.append_nil, Lib.join_one, EB.out, BV, eZ]
  ·have hzc : (0 : Int) < (cl.length : Int) := by omega
   have HZC := Lib.hid zc
   clear zc
   go_enter Tryz.func132, Tryz.ntmps132
   go_wp2_with fail
   refine (HLB.out _ (hbA _)).mono ?_
   rintro e W1 ⟨rfl, hb1⟩
   have hs1 := hb1.size
   rw [show (w.alloc (.cells #[.int .i64 3, .string nm, .int .i64 x, .int .i64 y, .slice bA bl.length bc, .slice cA cl.length cc] 82)).heap.size = w.heap.size + 1 by simp] at hs1 hb1
   have pR : Below w.heap.size w W1 := (hbA _).trans (hb1.mono (by omega))
   have hown0 := World.ownsRow_nil W1 (w.heap.size + 1) 9 1
   have c5 : W1.cell? ⟨w.heap.size, 5, none⟩ = some (.slice cA cl.length cc) := (hb1.cell (p := ⟨w.heap.size, 5, none⟩) (by simp)).trans (by simp)
   have HC5 := Lib.hid c5
   clear c5
   go_wp2_with (at_builtin; refine eX W1 rfl (.tmp 37) (.tmp 43) rfl (w.heap.size + 1) _ _ _ hown0 rfl ((⟨#[98, 121, 122, 32, 123, 32]⟩ : ByteArray) ++ TB ++ (⟨#[32, 125]⟩ : ByteArray)) rfl (by omega) hs1 ?_; intro v' w3 hown3 hg3 hv3; have hb3 := aM hown0 hg3 hs1; have c5 : w3.cell? ⟨w.heap.size, 5, none⟩ = some (.slice cA cl.length cc) := (hb3.cell (p := ⟨w.heap.size, 5, none⟩) (by simp)).trans HC5.out)
   have hs3 := hb3.size
   have Ch := pR.trans (hb3.mono (by omega))
   go_wp2_with fail
   refine (HLC.out _ Ch).mono ?_
   rintro e W4 ⟨rfl, hb4⟩
   have hs4 := hb4.size
   have hbw4 := Ch.trans (hb4.mono Ch.size)
   have ic := own_below hown3 hb4 (Nat.le_refl _)
   have hbs : w.heap.size + 1 ≤ W4.heap.size := by omega
   clear c5 hown3
   go_wp2_with (at_builtin; refine eX W4 rfl (.tmp 49) (.tmp 55) rfl (w.heap.size + 1) _ _ _ ic rfl ((⟨#[99, 114, 97, 115, 104, 32, 123, 32]⟩ : ByteArray) ++ TC ++ (⟨#[32, 125]⟩ : ByteArray)) rfl (by omega) hbs ?_; intro v'' w5 hown5 hg5 hv5)
   have hb5 := aM ic hg5 hbs
   have Cg := hbw4.trans (hb5.mono (by omega))
   obtain ⟨A9, c9, rfl, hc9⟩ := aS hown5
   have HJ := Lib.hid (sV [((⟨#[98, 121, 122, 32, 123, 32]⟩ : ByteArray) ++ TB ++ (⟨#[32, 125]⟩ : ByteArray)), ((⟨#[99, 114, 97, 115, 104, 32, 123, 32]⟩ : ByteArray) ++ TC ++ (⟨#[32, 125]⟩ : ByteArray))] A9 c9 ⟨#[32]⟩ w5 (· < w5.heap.size) ((aL.own hown5).mono (fun g _ h => h) (by decide)) (fun g h => h) hc9 (TWO.out _ _ ZB.out ZC.out) (by simp))
   go_wp2_with fail
   refine HJ.out.mono ?_
   rintro e W6 ⟨rfl, hb6⟩
   go_wp2
   go_ret
   refine ⟨congrArg (fun b => Ending.returned (.string b)) ?_, Cg.trans (hb6.mono Cg.size)⟩
   rw [EF.out, ES.out, if_neg HZB.out, if_neg HZC.out, EB.out, EC.out]
   unfold joined lst
   simp only [List.map_cons, List.map_nil, eZ]; rfl
end Go.Proofs.YtbmglebipepdmaaGreatDoor
namespace Go.Proofs.YtbmglebipepdmaaGreatDoor
open Go.RowKit

set_option maxRecDepth 100000 in
set_option maxHeartbeats 4000000 in
theorem Ee (f : Ft) (v : Value) (w : World) (S : Nat → Prop) (hf : lm w S f v) (hS : ∀ g, S g → g < w.heap.size) (hok : jG f = true) (hlim : f.ay.length + f.ak.length ≤ 1000000000) (hpw : Pow w) :
  Calls Tryz.prog 132 #[v] w fun e w' => e = .returned (.string (bs (iB f))) ∧ Below w.heap.size w w' := by
 have hlen := nQ hok
 obtain ⟨op, nm, x, y, bl, cl⟩ := f
 obtain ⟨bA, bc, cA, cc, rfl, hsb, hlb, hsc, hlc⟩ := hf
 simp only at hsb hlb hsc hlc hlim hlen
 have hbA : ∀ o, Below w.heap.size w (w.alloc o) := fun o => (Below.refl _ _).alloc (Nat.le_refl _) o
 have HB := Lib.hid hsb
 have HC := Lib.hid hsc
 have HP := Lib.hid hpw
 have HOK := Lib.hid hok
 have HLN := Lib.hid hlen
 have hnm : nm.size ≤ 24 := by
  by_cases h : op = 4 ∨ op = 5 ∨ op = 6
  ·have e : jG ⟨op, nm, x, y, bl, cl⟩ = (bG nm && !gQ ⟨op, nm, x, y, bl, cl⟩ && !jD ⟨op, nm, x, y, bl, cl⟩) := by
    unfold jG
    simp only
    rw [if_neg (by omega), if_neg (by omega), if_neg (by omega), if_pos h]
   rw [e] at hok
   simp only [Bool.and_eq_true] at hok
   exact (lH hok.1.1).1
  ·by_cases h0 : nm.size = 0
   ·omega
   ·have e : jG ⟨op, nm, x, y, bl, cl⟩ = false := by
     unfold jG
     simp only
     rw [if_neg h]
     simp [h0]
    rw [e] at hok
    cases hok
 clear hsb hsc hpw hok hlen
 by_cases h1 : op = 1
 ·subst h1
  go_enter Tryz.func132, Tryz.ntmps132
  go_wp2
  go_ret
  exact ⟨rfl, hbA _⟩
 have q1 : (op == 1) = false := by rw [beq_eq_false_iff_ne]; exact h1
 by_cases h2 : op = 2
 ·subst h2
  obtain ⟨hx, hy⟩ : small x = true ∧ small y = true := by
   have h := HOK.out
   have e : jG ⟨2, nm, x, y, bl, cl⟩ = (decide (nm.size = 0) && small x && small y && !jD ⟨2, nm, x, y, bl, cl⟩) := rfl
   rw [e] at h
   simp only [Bool.and_eq_true] at h
   exact ⟨h.1.1.2, h.1.2⟩
  obtain ⟨I, hI⟩ : ∃ I : ByteArray, I = bs (Lib.itoa x) := ⟨_, rfl⟩
  have hIs : I.size ≤ 21 := by rw [hI, cK]; exact gF hx
  obtain ⟨J, hJ⟩ : ∃ J : ByteArray, J = bs (Lib.itoa y) := ⟨_, rfl⟩
  have hJs : J.size ≤ 21 := by rw [hJ, cK]; exact gF hy
  have HIE := Lib.hid hI
  have HJE := Lib.hid hJ
  have HX := Lib.hid (fun (W : World) (hb : Below w.heap.size w W) => show Calls Tryz.prog 106 #[.int .i64 x] W (fun e w' => e = .returned (.string I) ∧ Below W.heap.size W w') by rw [hI]; exact nC x hx W (HP.out.below hb))
  have HY := Lib.hid (fun (W : World) (hb : Below w.heap.size w W) => show Calls Tryz.prog 106 #[.int .i64 y] W (fun e w' => e = .returned (.string J) ∧ Below W.heap.size W w') by rw [hJ]; exact nC y hy W (HP.out.below hb))
  clear hI hJ hx hy
  go_enter Tryz.func132, Tryz.ntmps132
  go_wp2
  obtain ⟨W0, hW0⟩ : ∃ W0 : World, W0 = w.alloc (.cells #[.int .i64 2, .string nm, .int .i64 x, .int .i64 y, .slice bA bl.length bc, .slice cA cl.length cc] 82) := ⟨_, rfl⟩
  have hb0 : Below w.heap.size w W0 := by rw [hW0]; exact hbA _
  have hs0 : w.heap.size < W0.heap.size := by rw [hW0]; simp
  have hr0 : W0.heap[w.heap.size]? = some (.cells #[.int .i64 2, .string nm, .int .i64 x, .int .i64 y, .slice bA bl.length bc, .slice cA cl.length cc] 82 (0, 0)) := by rw [hW0]; exact heap_alloc_new w _
  rw [← hW0]
  have c2 : W0.cell? ⟨w.heap.size, 2, none⟩ = some (.int .i64 x) := ai hr0 2 _ rfl
  have c3 : W0.cell? ⟨w.heap.size, 3, none⟩ = some (.int .i64 y) := ai hr0 3 _ rfl
  clear hW0 hr0
  have hA1 := fun W => run_string_add_sum (P := Tryz.prog) W (⟨#[116, 104, 114, 101, 115, 104, 111, 108, 100, 32]⟩ : ByteArray) I (by show 10 + I.size ≤ _; omega)
  have hA2 := fun W => run_string_add_sum (P := Tryz.prog) W ((⟨#[116, 104, 114, 101, 115, 104, 111, 108, 100, 32]⟩ : ByteArray) ++ I) (⟨#[32]⟩ : ByteArray) (by rw [ByteArray.size_append]; show 10 + I.size + 1 ≤ _; omega)
  have hA3 := fun W => run_string_add_sum (P := Tryz.prog) W ((⟨#[116, 104, 114, 101, 115, 104, 111, 108, 100, 32]⟩ : ByteArray) ++ I ++ (⟨#[32]⟩ : ByteArray)) J (by rw [ByteArray.size_append, ByteArray.size_append]; show 10 + I.size + 1 + J.size ≤ _; omega)
  go_region_held3 (fun w' => w'.cell? ⟨w.heap.size, 2, none⟩ = some (.int .i64 x) ∧ w'.cell? ⟨w.heap.size, 3, none⟩ = some (.int .i64 y)) (first | go_keep | (refine ⟨?_, ?_⟩ <;> (rw [hb2.cell (by simp; omega)]; go_keep)) | (refine ⟨?_, ?_⟩ <;> (rw [hb3.cell (by have := hb2.size; simp at this ⊢; omega), hb2.cell (by simp; omega)]; go_keep)))
   (first | (go_at_call 106; (refine (HX.out _ (below_drewN hb0 _)).mono ?_; rintro e w2 ⟨rfl, hb2⟩)) | (go_at_call 106; (refine (HY.out _ ((below_drewN hb0 _).trans (hb2.mono (by simp; omega)))).mono ?_; rintro e w3 ⟨rfl, hb3⟩)))
  all_goals (
   go_wp2
   go_ret
   refine ⟨congrArg (fun b => Ending.returned (.string b)) ?_, ((below_drewN hb0 _).trans (hb2.mono (by simp; omega))).trans (hb3.mono (by have := hb2.size; simp at this; omega))⟩
   rw [ft2]
   exact cat2 _ _ _ _ (yj _ _ _ _ _ _ rfl HIE.out rfl) HJE.out)
 have q2 : (op == 2) = false := by rw [beq_eq_false_iff_ne]; exact h2
 by_cases h4 : op = 4
 ·subst h4
  go_enter Tryz.func132, Tryz.ntmps132
  go_wp2
  go_ret
  refine ⟨congrArg (fun b => Ending.returned (.string b)) ?_, hbA _⟩
  exact yj _ _ _ _ _ _ rfl (dS nm).symm rfl
 have q4 : (op == 4) = false := by rw [beq_eq_false_iff_ne]; exact h4
 by_cases h5 : op = 5
 ·subst h5
  go_enter Tryz.func132, Tryz.ntmps132
  go_wp2
  go_ret
  refine ⟨congrArg (fun b => Ending.returned (.string b)) ?_, hbA _⟩
  exact yj _ _ _ _ _ _ rfl (dS nm).symm rfl
 have q5 : (op == 5) = false := by rw [beq_eq_false_iff_ne]; exact h5
 by_cases h3 : op = 3
 ·subst h3
  exact sets_any nm x y bl cl bA bc cA cc w S HB.out hlb HC.out hlc hS HOK.out hlim
 have q3 : (op == 3) = false := by rw [beq_eq_false_iff_ne]; exact h3
 by_cases h6 : op = 6
 ·subst h6
  go_enter Tryz.func132, Tryz.ntmps132
  go_wp2
  go_ret
  refine ⟨congrArg (fun b => Ending.returned (.string b)) ?_, hbA _⟩
  exact (dS nm).symm
 have q6 : (op == 6) = false := by rw [beq_eq_false_iff_ne]; exact h6
 have := HOK.out
 simp [jG, h1, h2, h3, h4, h5, h6] at this
end Go.Proofs.YtbmglebipepdmaaGreatDoor
