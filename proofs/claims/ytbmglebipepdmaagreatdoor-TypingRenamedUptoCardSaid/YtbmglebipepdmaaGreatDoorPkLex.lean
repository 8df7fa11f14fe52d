/- The contracts of the mM tests on bytes. The contracts of the library's functions at this seat's program, as the kit's tool lays them (lay-shelf, lay-plain); each by one application. The contracts of the mM functions space and prefix. The contract of the mM function space. The contract of the mM function number. The contract of the mM function escape. The contract of (*strings.Builder).WriteByte at a Builder of the call's own. The contract of the mM function literal, at a text that begins with a quotation mark. The contracts of the mM functions IsName and next. The contract of the mM function Tokens. -/
import Derived.Test.YtbmglebipepdmaaGreatDoorPkPara
import Derived.Shelf.Strings.Builder1
import Derived.Shelf.Strings.Builder2
import Derived.Shelf.Strings.OnBuilder
import Derived.Shelf.Small.Strs
import Derived.Shelf.Strings.BuilderF
import Derived.Shelf.Strconv.Itoa0
import Derived.Shelf.Strconv.Itoa1
import Derived.Shelf.LaysM
import Derived.Shelf.Strconv.Itoa2
import Derived.Shelf.Strconv.Itoa3
import Derived.Shelf.Strings.Search1
import Derived.Shelf.Strings.Search2
import Derived.Shelf.Strings.Search3
import Derived.Shelf.Strings.Count
import Derived.Shelf.Strings.Shaped
import Derived.Shelf.Strings.Prefix
import Derived.Shelf.Strings.Split
import Derived.Shelf.Slices.Turned
import Derived.Shelf.Slices.Equal
import Derived.Test.YtbmglebipepdmaaGreatDoorProg
import Derived.Shelf.Abstract
import Derived.Laws.DeepStrings4
import Derived.Test.YtbmglebipepdmaaGreatDoorPkPlain
import Derived.Laws.ResultCell
namespace Go.Proofs.YtbmglebipepdmaaGreatDoor
open Go.RowKit

set_option maxHeartbeats 1000000 in
theorem xP (c : Nat) (w : World) : Calls Tryz.prog 155 #[.int .u8 c] w fun e w' => e = .returned (.bool (dX c)) ∧ w = w' := by
 have key : ∀ r : Bool, (r = true ↔ (c = 95 ∨ (65 ≤ c ∧ c ≤ 90) ∨ (97 ≤ c ∧ c ≤ 122))) → r = dX c := by
  intro r h
  rw [Bool.eq_iff_iff, h]
  simp [dX]
  try omega
 have HK := Lib.hid key
 clear key
 by_cases h1 : c = 95
 ·have q1 : ((c : Int) == 95) = true := lq h1
  go_enter Tryz.func155, Tryz.ntmps155
  go_wp2
  go_ret
  exact ⟨congrArg (fun b => Ending.returned (.bool b)) (HK.out true (by simp [h1])), rfl⟩
 ·have q1 : ((c : Int) == 95) = false := eP h1
  have H1 := Lib.hid h1
  clear h1
  go_enter Tryz.func155, Tryz.ntmps155
  go_wp2
  all_goals go_ret
  all_goals refine ⟨congrArg (fun b => Ending.returned (.bool b)) (HK.out _ ?_), rfl⟩
  all_goals have h1 := H1.out
  all_goals simp
  all_goals omega

set_option maxHeartbeats 1000000 in
theorem uO (c : Nat) (w : World) : Calls Tryz.prog 170 #[.int .u8 c] w fun e w' => e = .returned (.bool (isDigit c)) ∧ w = w' := by
 have key : ∀ r : Bool, (r = true ↔ (48 ≤ c ∧ c ≤ 57)) → r = isDigit c := by
  intro r h
  rw [Bool.eq_iff_iff, h]
  simp [isDigit]
  try omega
 have HK := Lib.hid key
 clear key
 go_enter Tryz.func170, Tryz.ntmps170
 go_wp2
 all_goals go_ret
 all_goals refine ⟨congrArg (fun b => Ending.returned (.bool b)) (HK.out _ ?_), rfl⟩
 all_goals simp
 all_goals omega

set_option maxHeartbeats 1000000 in
theorem wP (c : Nat) (w : World) : Calls Tryz.prog 157 #[.int .u8 c] w fun e w' => e = .returned (.bool (cu c)) ∧ w = w' := by
 have hb := xP c w
 have hd := uO c w
 unfold cu
 cases hl : dX c
 ·rw [hl] at hb
  have HB := Lib.hid hb
  have HD := Lib.hid hd
  clear hb hd hl
  go_enter Tryz.func157, Tryz.ntmps157
  go_wp2_with fail
  refine HB.out.mono ?_
  rintro e w' ⟨rfl, rfl⟩
  go_wp2_with fail
  refine HD.out.mono ?_
  rintro e w' ⟨rfl, rfl⟩
  go_wp2
  go_ret
  exact ⟨rfl, rfl⟩
 ·rw [hl] at hb
  have HB := Lib.hid hb
  clear hb hd hl
  go_enter Tryz.func157, Tryz.ntmps157
  go_wp2_with fail
  refine HB.out.mono ?_
  rintro e w' ⟨rfl, rfl⟩
  go_wp2
  go_ret
  exact ⟨rfl, rfl⟩
end Go.Proofs.YtbmglebipepdmaaGreatDoor
namespace Go.Proofs
open Go.Shelf
def Tryz.lays169_ren : Go.Shelf.Ren := ⟨fun | 169 => 99 | n => n, fun | 70 => 117 | 9 => 9 | 0 => 0 | 72 => 120 | 37 => 118 | 127 => 147 | 3 => 3 | 5 => 5 | n => n, fun | n => n⟩
theorem Tryz.lays169 : Go.Proofs.Lays.n169 Tryz.prog Tryz.lays169_ren := {
 mixed := by kernel_rfl
 f169 := Tryz.func99.trans (congrArg some (by kernel_rfl))
 t0 := Tryz.underlying0
 a0 := Tryz.isAgg0
 z0 := Tryz.sizeOf0
 v0 := Tryz.zeroValue0
 t3 := Tryz.underlying3
 a3 := Tryz.isAgg3
 z3 := Tryz.sizeOf3
 v3 := Tryz.zeroValue3
 t9 := Tryz.underlying9
 a9 := Tryz.isAgg9
 z9 := Tryz.sizeOf9
 v9 := Tryz.zeroValue9
 t37 := Tryz.underlying118
 a37 := Tryz.isAgg118
 z37 := Tryz.sizeOf118
 v37 := Tryz.zeroValue118
 t70 := Tryz.underlying117
 a70 := Tryz.isAgg117
 z70 := Tryz.sizeOf117
 v70 := Tryz.zeroValue117
 t72 := Tryz.underlying120
 a72 := Tryz.isAgg120
 z72 := Tryz.sizeOf120
 v72 := Tryz.zeroValue120
 t127 := Tryz.underlying147
 a127 := Tryz.isAgg147
 z127 := Tryz.sizeOf147
 v127 := Tryz.zeroValue147 }
theorem Tryz.Builder_Extra_169 : Builder.Extra Tryz.prog Tryz.lays169_ren := {
 sizeBuilder := by kernel_rfl
 liesBuilder := by kernel_rfl
 t5 := Tryz.underlying5
 a5 := Tryz.isAgg5
 z5 := Tryz.sizeOf5
 v5 := Tryz.zeroValue5
 infoByte := by kernel_rfl
 cellsByte := by kernel_rfl
 sizeByte := by kernel_rfl
 neB5 := by decide }
open Go.RowKit in
theorem Tryz.Builder_String_any (B b : Nat) (l : List UInt8) (w : World) (h : Lib.IsBuilder 120 5 B b (Lib.byteCells l) w) (hBw : B ≤ w.heap.size) :
  Calls Tryz.prog 99 #[.pointer (some ⟨b, 0, none⟩)] w fun e w' => e = .returned (.string ⟨l.toArray⟩) ∧ Below B w w' := Any.Builder_String_any Tryz.lays169 Tryz.Builder_Extra_169 B b l w h hBw
def Tryz.lays156_ren : Go.Shelf.Ren := ⟨fun | 156 => 133 | 165 => 150 | 166 => 97 | 169 => 99 | 240 => 131 | 241 => 164 | 276 => 149 | 277 => 178 | n => n, fun | 31 => 34 | 9 => 9 | 3 => 3 | 4 => 4 | 0 => 0 | 20 => 20 | 72 => 120 | 76 => 123 | 70 => 117 | 37 => 118 | 75 => 122 | 127 => 147 | 164 => 157 | 5 => 5 | 80 => 106 | n => n, fun | n => n⟩
theorem Tryz.lays156 : Go.Proofs.Lays.n156 Tryz.prog Tryz.lays156_ren := {
 mixed := by kernel_rfl
 f156 := Tryz.func133.trans (congrArg some (by kernel_rfl))
 f165 := Tryz.func150.trans (congrArg some (by kernel_rfl))
 f166 := Tryz.func97.trans (congrArg some (by kernel_rfl))
 f169 := Tryz.func99.trans (congrArg some (by kernel_rfl))
 f240 := Tryz.func131.trans (congrArg some (by kernel_rfl))
 f241 := Tryz.func164.trans (congrArg some (by kernel_rfl))
 f276 := Tryz.func149.trans (congrArg some (by kernel_rfl))
 f277 := Tryz.func178.trans (congrArg some (by kernel_rfl))
 t0 := Tryz.underlying0
 a0 := Tryz.isAgg0
 z0 := Tryz.sizeOf0
 v0 := Tryz.zeroValue0
 t3 := Tryz.underlying3
 a3 := Tryz.isAgg3
 z3 := Tryz.sizeOf3
 v3 := Tryz.zeroValue3
 t4 := Tryz.underlying4
 a4 := Tryz.isAgg4
 z4 := Tryz.sizeOf4
 v4 := Tryz.zeroValue4
 t9 := Tryz.underlying9
 a9 := Tryz.isAgg9
 z9 := Tryz.sizeOf9
 v9 := Tryz.zeroValue9
 t20 := Tryz.underlying20
 a20 := Tryz.isAgg20
 z20 := Tryz.sizeOf20
 v20 := Tryz.zeroValue20
 t31 := Tryz.underlying34
 a31 := Tryz.isAgg34
 z31 := Tryz.sizeOf34
 v31 := Tryz.zeroValue34
 t37 := Tryz.underlying118
 a37 := Tryz.isAgg118
 z37 := Tryz.sizeOf118
 v37 := Tryz.zeroValue118
 t70 := Tryz.underlying117
 a70 := Tryz.isAgg117
 z70 := Tryz.sizeOf117
 v70 := Tryz.zeroValue117
 t72 := Tryz.underlying120
 a72 := Tryz.isAgg120
 z72 := Tryz.sizeOf120
 v72 := Tryz.zeroValue120
 t75 := Tryz.underlying122
 a75 := Tryz.isAgg122
 z75 := Tryz.sizeOf122
 v75 := Tryz.zeroValue122
 t76 := Tryz.underlying123
 a76 := Tryz.isAgg123
 z76 := Tryz.sizeOf123
 v76 := Tryz.zeroValue123
 t127 := Tryz.underlying147
 a127 := Tryz.isAgg147
 z127 := Tryz.sizeOf147
 v127 := Tryz.zeroValue147
 t164 := Tryz.underlying157
 a164 := Tryz.isAgg157
 z164 := Tryz.sizeOf157
 v164 := Tryz.zeroValue157 }
theorem Tryz.Builder_Extra_156 : Builder.Extra Tryz.prog Tryz.lays156_ren := {
 sizeBuilder := by kernel_rfl
 liesBuilder := by kernel_rfl
 t5 := Tryz.underlying5
 a5 := Tryz.isAgg5
 z5 := Tryz.sizeOf5
 v5 := Tryz.zeroValue5
 infoByte := by kernel_rfl
 cellsByte := by kernel_rfl
 sizeByte := by kernel_rfl
 neB5 := by decide }
open Go.RowKit in
theorem Tryz.strings_Join_none (a : Option Addr) (c : Nat) (sep : ByteArray) (w : World) :
  Calls Tryz.prog 133 #[.slice a 0 c, .string sep] w fun e w' => e = .returned (.string ⟨#[]⟩) ∧ w' = w := Any.strings_Join_none Tryz.lays156 Tryz.Builder_Extra_156 a c sep w
open Go.RowKit in
theorem Tryz.strings_Join (bk o c : Nat) (xs : List ByteArray) (sep : ByteArray) (w : World) (hcells : ∀ (j : Nat) x, xs[j]? = some x → w.cell? ⟨bk, o + j, none⟩ = some (.string x)) (hbk : bk < w.heap.size) (hN : xs.length ≤ 140737488355328) (hcap : xs.length ≤ c) (hlen : (Lib.join (xs.map (·.data.toList)) sep.data.toList).length ≤ 140737488355328) :
  Calls Tryz.prog 133 #[.slice (some ⟨bk, o, none⟩) xs.length c, .string sep] w fun e w' => e = .returned (.string ⟨(Lib.join (xs.map (·.data.toList)) sep.data.toList).toArray⟩) ∧ Below w.heap.size w w' := Any.strings_Join Tryz.lays156 Tryz.Builder_Extra_156 bk o c xs sep w hcells hbk hN hcap hlen
def Tryz.lays137_ren : Go.Shelf.Ren := ⟨fun | 137 => 161 | 217 => 175 | 266 => 185 | n => n, fun | 9 => 9 | 5 => 5 | 3 => 3 | n => n, fun | n => n⟩
theorem Tryz.lays137 : Go.Proofs.Lays.n137 Tryz.prog Tryz.lays137_ren := {
 mixed := by kernel_rfl
 f137 := Tryz.func161.trans (congrArg some (by kernel_rfl))
 f217 := Tryz.func175.trans (congrArg some (by kernel_rfl))
 f266 := Tryz.func185.trans (congrArg some (by kernel_rfl))
 t3 := Tryz.underlying3
 a3 := Tryz.isAgg3
 z3 := Tryz.sizeOf3
 v3 := Tryz.zeroValue3
 t5 := Tryz.underlying5
 a5 := Tryz.isAgg5
 z5 := Tryz.sizeOf5
 v5 := Tryz.zeroValue5
 t9 := Tryz.underlying9
 a9 := Tryz.isAgg9
 z9 := Tryz.sizeOf9
 v9 := Tryz.zeroValue9 }
open Go.RowKit in
theorem Tryz.strings_IndexByte (s : ByteArray) (c : Int) (w : World) :
  Calls Tryz.prog 161 #[.string s, .int .u8 c] w fun e w' => e = .returned (.int .i64 (Lib.indexByte s.data.toList c.toNat.toUInt8)) ∧ w' = w := Any.strings_IndexByte Tryz.lays137 s c w
def Tryz.lays138_ren : Go.Shelf.Ren := ⟨fun | 138 => 159 | 195 => 171 | 218 => 172 | 143 => 173 | 219 => 184 | 217 => 175 | 225 => 190 | 224 => 191 | 267 => 192 | 266 => 185 | 314 => 193 | n => n, fun | 9 => 9 | 3 => 3 | 4 => 4 | 5 => 5 | 0 => 0 | 46 => 184 | 146 => 190 | 51 => 182 | n => n, fun | 1 => 1 | n => n⟩
theorem Tryz.lays138 : Go.Proofs.Lays.n138 Tryz.prog Tryz.lays138_ren := {
 mixed := by kernel_rfl
 f138 := Tryz.func159.trans (congrArg some (by kernel_rfl))
 f143 := Tryz.func173.trans (congrArg some (by kernel_rfl))
 f195 := Tryz.func171.trans (congrArg some (by kernel_rfl))
 f217 := Tryz.func175.trans (congrArg some (by kernel_rfl))
 f218 := Tryz.func172.trans (congrArg some (by kernel_rfl))
 f219 := Tryz.func184.trans (congrArg some (by kernel_rfl))
 f224 := Tryz.func191.trans (congrArg some (by kernel_rfl))
 f225 := Tryz.func190.trans (congrArg some (by kernel_rfl))
 f266 := Tryz.func185.trans (congrArg some (by kernel_rfl))
 f267 := Tryz.func192.trans (congrArg some (by kernel_rfl))
 f314 := Tryz.func193.trans (congrArg some (by kernel_rfl))
 t0 := Tryz.underlying0
 a0 := Tryz.isAgg0
 z0 := Tryz.sizeOf0
 v0 := Tryz.zeroValue0
 t3 := Tryz.underlying3
 a3 := Tryz.isAgg3
 z3 := Tryz.sizeOf3
 v3 := Tryz.zeroValue3
 t4 := Tryz.underlying4
 a4 := Tryz.isAgg4
 z4 := Tryz.sizeOf4
 v4 := Tryz.zeroValue4
 t5 := Tryz.underlying5
 a5 := Tryz.isAgg5
 z5 := Tryz.sizeOf5
 v5 := Tryz.zeroValue5
 t9 := Tryz.underlying9
 a9 := Tryz.isAgg9
 z9 := Tryz.sizeOf9
 v9 := Tryz.zeroValue9
 t46 := Tryz.underlying184
 a46 := Tryz.isAgg184
 z46 := Tryz.sizeOf184
 v46 := Tryz.zeroValue184
 t51 := Tryz.underlying182
 a51 := Tryz.isAgg182
 z51 := Tryz.sizeOf182
 v51 := Tryz.zeroValue182
 t146 := Tryz.underlying190
 a146 := Tryz.isAgg190
 z146 := Tryz.sizeOf190
 v146 := Tryz.zeroValue190
 g1 := by kernel_rfl }
open Go.RowKit Go.Lib in
theorem Tryz.strings_Count_one (s : ByteArray) (c : UInt8) (w : World) :
  Calls Tryz.prog 159 #[.string s, .string ⟨#[c]⟩] w fun e w' => e = .returned (.int .i64 (Lib.countByte s.data.toList c)) ∧ w' = w := Any.strings_Count_one Tryz.lays138 s c w
def Tryz.lays99_ren : Go.Shelf.Ren := ⟨fun | 99 => 160 | 206 => 174 | n => n, fun | 9 => 9 | 4 => 4 | 3 => 3 | n => n, fun | n => n⟩
theorem Tryz.lays99 : Go.Proofs.Lays.n99 Tryz.prog Tryz.lays99_ren := {
 mixed := by kernel_rfl
 f99 := Tryz.func160.trans (congrArg some (by kernel_rfl))
 f206 := Tryz.func174.trans (congrArg some (by kernel_rfl))
 t3 := Tryz.underlying3
 a3 := Tryz.isAgg3
 z3 := Tryz.sizeOf3
 v3 := Tryz.zeroValue3
 t4 := Tryz.underlying4
 a4 := Tryz.isAgg4
 z4 := Tryz.sizeOf4
 v4 := Tryz.zeroValue4
 t9 := Tryz.underlying9
 a9 := Tryz.isAgg9
 z9 := Tryz.sizeOf9
 v9 := Tryz.zeroValue9 }
open Go.RowKit Go.Lib in
theorem Tryz.strings_HasPrefix (s p : ByteArray) (w : World) :
  Calls Tryz.prog 160 #[.string s, .string p] w fun e w' => e = .returned (.bool (Lib.hasPrefix s.data.toList p.data.toList)) ∧ w' = w := Any.strings_HasPrefix Tryz.lays99 s p w
end Go.Proofs
namespace Go.Proofs.YtbmglebipepdmaaGreatDoor
open Go.RowKit

theorem lZ (p : Nat → Bool) (s : ByteArray) (k : Nat) (h : k < s.size) (hp : p (s[k].toNat) = true) : pre p (s.data.toList.drop k) = 1 + pre p (s.data.toList.drop (k + 1)) := by
 rw [List.drop_eq_getElem_cons (by simpa using h)]
 unfold pre
 rw [List.takeWhile_cons, if_pos (by exact hp)]
 simp; omega
theorem uw (p : Nat → Bool) (s : ByteArray) (k : Nat) (h : k < s.size) (hp : p (s[k].toNat) = false) : pre p (s.data.toList.drop k) = 0 := by
 rw [List.drop_eq_getElem_cons (by simpa using h)]
 unfold pre
 have hp' : p (s.data.toList[k]'(by simpa using h)).toNat = false := hp
 rw [List.takeWhile_cons, if_neg (by rw [hp']; simp)]; rfl
theorem Fy (p : Nat → Bool) (s : ByteArray) (k : Nat) (h : s.size ≤ k) : pre p (s.data.toList.drop k) = 0 := by
 rw [List.drop_of_length_le (by simpa using h)]; rfl

set_option maxHeartbeats 1000000 in
theorem sJ (s : ByteArray) (fid : Nat) (he : ∀ (args : Array Value) (w : World), (callFunc fid args).run Tryz.prog w = .ok (.enter fid args) w) (p : Nat → Bool)
  (hf : ∀ (c : Nat) (w : World), c < 256 → Calls Tryz.prog fid #[.int .u8 c] w fun e w' => e = .returned (.bool (p c)) ∧ w = w') (w : World) (hs : s.size ≤ 1000000000) :
  Calls Tryz.prog 156 #[.string s, .func (.func fid) #[] #[]] w fun e w' => e = .returned (.int .i64 (pre p s.data.toList : Nat)) ∧ w = w' := by
 have HF := Lib.hid hf
 clear hf
 go_enter Tryz.func156, Tryz.ntmps156
 go_wp2
 go_loop [5] (fun x => ∃ k : Nat, k ≤ s.size ∧ x = .int .i64 k ∧ Hid (pre p s.data.toList = k + pre p (s.data.toList.drop k))) (fun x => s.size - (intOf x).toNat)
 case atStart => exact ⟨0, Nat.zero_le _, rfl, by show pre p s.data.toList = 0 + pre p (s.data.toList.drop 0); simp⟩
 case round =>
  obtain ⟨k, hk, rfl, hpre⟩ := hrel
  by_cases hlt : k < s.size
  ·have hc := HF.out (s[k].toNat) w s[k].toNat_lt
   cases hp : p (s[k].toNat)
   ·have hz := uw p s k hlt hp
    rw [hp] at hc
    have HC := Lib.hid hc
    have HZ := Lib.hid hz
    clear hc hz hp
    go_wp2_with fail
    refine HC.out.mono ?_
    rintro e w' ⟨rfl, rfl⟩
    go_wp2
    go_ret
    exact ⟨by rw [hpre.out, HZ.out]; rfl, rfl⟩
   ·have hz := lZ p s k hlt hp
    rw [hp] at hc
    have HC := Lib.hid hc
    have HZ := Lib.hid hz
    clear hc hz hp
    go_wp2_with fail
    refine HC.out.mono ?_
    rintro e w' ⟨rfl, rfl⟩
    go_wp2
    go_round
    case rel => exact ⟨k + 1, by omega, by go_num, by show pre p s.data.toList = _; rw [hpre.out, HZ.out]; omega⟩
    case measure => simp [intOf]; omega
  ·have hz := Fy p s k (by omega)
   have HZ := Lib.hid hz
   clear hz
   go_wp2
   go_ret
   exact ⟨by rw [hpre.out, HZ.out]; rfl, rfl⟩
end Go.Proofs.YtbmglebipepdmaaGreatDoor
namespace Go.Proofs.YtbmglebipepdmaaGreatDoor
open Go.RowKit

theorem G9 : ∀ c : Fin 256, decide (0 ≤ Lib.indexByte [32, 9, 13, 10] ((c.1 : Int).toNat.toUInt8)) = fG c.1 := by decide +kernel
set_option maxHeartbeats 1000000 in
theorem Fh (c : Nat) (hc : c < 256) (w : World) : Calls Tryz.prog 158 #[.int .u8 c] w fun e w' => e = .returned (.bool (fG c)) ∧ w = w' := by
 have h := G9 ⟨c, hc⟩
 simp only at h
 rw [← h]
 have HI := Lib.hid (Tryz.strings_IndexByte ⟨#[32, 9, 13, 10]⟩ c w)
 clear h
 go_enter Tryz.func158, Tryz.ntmps158
 go_wp2_with fail
 refine HI.out.mono ?_
 rintro e w' ⟨rfl, rfl⟩
 obtain ⟨z, hz⟩ : ∃ z, z = Lib.indexByte (⟨#[32, 9, 13, 10]⟩ : ByteArray).data.toList ((c : Int).toNat.toUInt8) := ⟨_, rfl⟩
 rw [← hz]
 have HZ := Lib.hid hz
 clear hz
 go_wp2
 go_ret
 refine ⟨?_, rfl⟩
 show Ending.returned (.bool (decide (0 ≤ z))) = _
 rw [HZ.out]
end Go.Proofs.YtbmglebipepdmaaGreatDoor
namespace Go.Proofs.YtbmglebipepdmaaGreatDoor
open Go.RowKit

def pK (l : List UInt8) : Nat := (num l).getD 0
def uH (l : List UInt8) : Bool := (num l).isSome && !l.isEmpty
theorem cB (s : ByteArray) (k : Nat) (h : k < s.size) : s.data.toList.drop k = s[k] :: s.data.toList.drop (k + 1) := by
 rw [List.drop_eq_getElem_cons (by simpa using h)]; rfl
theorem rP (s : ByteArray) (h : 0 < s.size) : s.data.toList.isEmpty = false := by
 have e : s.data.toList = s[0] :: s.data.toList.drop 1 := cB s 0 h
 rw [e]; rfl

set_option maxRecDepth 100000 in
set_option maxHeartbeats 2000000 in
theorem DT (s : ByteArray) (w : World) (hs : s.size ≤ 1000000000) (hd : ∀ k (h : k < s.size), isDigit s[k].toNat = true) (h0 : 0 < s.size) :
  Calls Tryz.prog 176 #[.string s] w fun e w' => e = .returned (.tuple #[.int .i64 (pK s.data.toList), .bool (uH s.data.toList)]) ∧ w = w' := by
 have HD := Lib.hid hd
 clear hd
 by_cases hz : 1 < s.size ∧ s[0].toNat = 48
 ·obtain ⟨hz1, hz2⟩ := hz
  have q0 : ((s[0].toNat : Int) == 48) = true := lq hz2
  have e : num s.data.toList = none := by
   unfold num
   rw [if_pos]
   refine ⟨by simpa using hz1, ?_⟩
   have : s.data.toList = s[0] :: s.data.toList.drop 1 := cB s 0 h0
   rw [this]
   simp
   have h2 : s[0] = 48 := UInt8.toNat_inj.1 hz2
   exact h2
  have e1 : pK s.data.toList = 0 := by unfold pK; rw [e]; rfl
  have e2 : uH s.data.toList = false := by unfold uH; rw [e]; rfl
  rw [e1, e2]
  have hz1I : (1 : Int) < (s.size : Int) := by omega
  clear e e1 e2 hz2
  go_enter Tryz.func176, Tryz.ntmps176
  go_wp2
  go_ret2
  exact ⟨rfl, rfl⟩
 ·have hn : num s.data.toList = mh 0 (s.data.toList.drop 0) := by
   unfold num
   rw [if_neg, List.drop_zero]
   intro hh
   refine hz ⟨by simpa using hh.1, ?_⟩
   have e : s.data.toList = s[0] :: s.data.toList.drop 1 := cB s 0 h0
   have h2 := hh.2
   rw [e] at h2
   simp at h2
   rw [h2]; rfl
  have HN := Lib.hid hn
  have hz2 : 1 < s.size → ((s[0].toNat : Int) == 48) = false := fun h => eP (fun e => hz ⟨h, e⟩)
  clear hn hz
  by_cases h1 : 1 < s.size
  ·have q0 := hz2 h1
   clear hz2
   go_enter Tryz.func176, Tryz.ntmps176
   go_wp2
   go_loop [4, 17] (fun x y => ∃ k v : Nat, k ≤ s.size ∧ x = .int .i64 v ∧ y = .int .i64 k ∧ v ≤ 9223372036854775807 ∧ Hid (num s.data.toList = mh v (s.data.toList.drop k))) (fun _ y => s.size - (intOf y).toNat)
   case atStart => exact ⟨0, 0, Nat.zero_le _, rfl, rfl, by decide, HN.out⟩
   case round =>
    obtain ⟨k, v, hk, rfl, rfl, hv, hgo⟩ := hrel
    by_cases hlt : k < s.size
    ·have hdk := HD.out k hlt
     unfold isDigit at hdk
     simp only [Bool.and_eq_true, decide_eq_true_eq] at hdk
     obtain ⟨hd1, hd2⟩ := hdk
     have hdr := cB s k hlt
     have xD := hgo.out
     rw [hdr, mh] at xD
     have HG := Lib.hid xD
     clear hdr xD
     have hd1I : (48 : Int) ≤ (s[k].toNat : Int) := by omega
     have hd2I : (s[k].toNat : Int) ≤ 57 := by omega
     by_cases hbig : (9223372036854775807 - (s[k].toNat - 48)) / 10 < v
     ·have e : num s.data.toList = none := by
       have := HG.out
       rw [if_pos hbig] at this; exact this
      have e1 : pK s.data.toList = 0 := by unfold pK; rw [e]; rfl
      have e2 : uH s.data.toList = false := by unfold uH; rw [e]; rfl
      have E1 := Lib.hid e1
      have E2 := Lib.hid e2
      have hbI : (9223372036854775807 - ((s[k].toNat : Int) - 48)) / 10 < (v : Int) := by omega
      clear e e1 e2
      go_wp2
      go_ret2
      rw [E1.out, E2.out]
      exact ⟨rfl, rfl⟩
     ·have e := HG.out
      rw [if_neg hbig] at e
      have HE := Lib.hid e
      have hbI : ¬ (9223372036854775807 - ((s[k].toNat : Int) - 48)) / 10 < (v : Int) := by omega
      clear e HG
      go_wp2
      go_round
      case rel => exact ⟨k + 1, 10 * v + (s[k].toNat - 48), by omega, by congr 1; omega, by go_num, by omega, HE.out⟩
      case measure => simp [intOf]; omega
    ·have e : num s.data.toList = some v := by
      have := hgo.out
      rw [List.drop_of_length_le (by simp; omega)] at this
      exact this
     have e1 : pK s.data.toList = v := by unfold pK; rw [e]; rfl
     have e2 : uH s.data.toList = true := by
      unfold uH; rw [e, rP s h0]; rfl
     have E1 := Lib.hid e1
     have E2 := Lib.hid e2
     have hne : s.toList.isEmpty = false := by
      rw [ByteArray.toList_eq]; exact rP s h0
     clear e e1 e2
     go_wp2
     go_ret2
     rw [E1.out, E2.out]
     exact ⟨rfl, rfl⟩
  ·clear hz2
   go_enter Tryz.func176, Tryz.ntmps176
   go_wp2
   go_loop [4, 17] (fun x y => ∃ k v : Nat, k ≤ s.size ∧ x = .int .i64 v ∧ y = .int .i64 k ∧ v ≤ 9223372036854775807 ∧ Hid (num s.data.toList = mh v (s.data.toList.drop k))) (fun _ y => s.size - (intOf y).toNat)
   case atStart => exact ⟨0, 0, Nat.zero_le _, rfl, rfl, by decide, HN.out⟩
   case round =>
    obtain ⟨k, v, hk, rfl, rfl, hv, hgo⟩ := hrel
    by_cases hlt : k < s.size
    ·have hdk := HD.out k hlt
     unfold isDigit at hdk
     simp only [Bool.and_eq_true, decide_eq_true_eq] at hdk
     obtain ⟨hd1, hd2⟩ := hdk
     have hdr := cB s k hlt
     have xD := hgo.out
     rw [hdr, mh] at xD
     have HG := Lib.hid xD
     clear hdr xD
     have hd1I : (48 : Int) ≤ (s[k].toNat : Int) := by omega
     have hd2I : (s[k].toNat : Int) ≤ 57 := by omega
     by_cases hbig : (9223372036854775807 - (s[k].toNat - 48)) / 10 < v
     ·have e : num s.data.toList = none := by
       have := HG.out
       rw [if_pos hbig] at this; exact this
      have e1 : pK s.data.toList = 0 := by unfold pK; rw [e]; rfl
      have e2 : uH s.data.toList = false := by unfold uH; rw [e]; rfl
      have E1 := Lib.hid e1
      have E2 := Lib.hid e2
      have hbI : (9223372036854775807 - ((s[k].toNat : Int) - 48)) / 10 < (v : Int) := by omega
      clear e e1 e2
      go_wp2
      go_ret2
      rw [E1.out, E2.out]
      exact ⟨rfl, rfl⟩
     ·have e := HG.out
      rw [if_neg hbig] at e
      have HE := Lib.hid e
      have hbI : ¬ (9223372036854775807 - ((s[k].toNat : Int) - 48)) / 10 < (v : Int) := by omega
      clear e HG
      go_wp2
      go_round
      case rel => exact ⟨k + 1, 10 * v + (s[k].toNat - 48), by omega, by congr 1; omega, by go_num, by omega, HE.out⟩
      case measure => simp [intOf]; omega
    ·have e : num s.data.toList = some v := by
      have := hgo.out
      rw [List.drop_of_length_le (by simp; omega)] at this
      exact this
     have e1 : pK s.data.toList = v := by unfold pK; rw [e]; rfl
     have e2 : uH s.data.toList = true := by
      unfold uH; rw [e, rP s h0]; rfl
     have E1 := Lib.hid e1
     have E2 := Lib.hid e2
     have hne : s.toList.isEmpty = false := by
      rw [ByteArray.toList_eq]; exact rP s h0
     clear e e1 e2
     go_wp2
     go_ret2
     rw [E1.out, E2.out]
     exact ⟨rfl, rfl⟩
end Go.Proofs.YtbmglebipepdmaaGreatDoor
namespace Go.Proofs.YtbmglebipepdmaaGreatDoor
open Go.RowKit

def jl (l : List UInt8) : Nat := match esc l with | some (c, _) => c.toNat | none => 0
def iN (l : List UInt8) : Nat := match esc l with | some (_, n) => n | none => 0

theorem Cf : ∀ c : Fin 256, Lib.indexByte [48, 49, 50, 51, 52, 53, 54, 55, 56, 57, 97, 98, 99, 100, 101, 102] ((c.1 : Int).toNat.toUInt8) = (match D5 c.1 with | some v => (v : Int) | none => -1) := by decide +kernel
theorem DZ : ∀ c : Fin 256, ∀ v, D5 c.1 = some v → v < 16 := by
 intro c v h
 have := c.2
 unfold D5 at h
 split at h
 ·simp at h; omega
 ·split at h
  ·simp at h; omega
  ·simp at h

theorem hex_byte : ∀ a b : Fin 16, bits BinOp.or IntKind.i64 ((a.1 : Int) * 16) (b.1 : Int) % 256 = ((UInt8.ofNat (16 * a.1 + b.1)).toNat : Int) := by decide +kernel
theorem kg (c : UInt8) (r : List UInt8) : esc (c :: r) = if c = 34 ∨ c = 92 then some (c, 1) else if c = 110 then some (10, 1) else if c = 120 then (match r with
  |a :: b :: _ => (match D5 a.toNat, D5 b.toNat with
   |some x, some y => some (UInt8.ofNat (16 * x + y), 3)
   |_, _ => none)
  |_ => none) else none := rfl
theorem esc_lit {s : ByteArray} (h : 0 < s.size) (h2 : s[0].toNat = 34 ∨ s[0].toNat = 92) : jl s.data.toList = s[0].toNat ∧ iN s.data.toList = 1 := by
 have e : esc s.data.toList = some (s[0], 1) := by
  rw [show s.data.toList = s[0] :: s.data.toList.drop 1 from cB s 0 h, kg, if_pos]
  rcases h2 with h2 | h2
  ·exact Or.inl (UInt8.toNat_inj.1 h2)
  ·exact Or.inr (UInt8.toNat_inj.1 h2)
 unfold jl iN; rw [e]; exact ⟨rfl, rfl⟩
theorem esc_n {s : ByteArray} (h : 0 < s.size) (h2 : s[0].toNat = 110) : jl s.data.toList = 10 ∧ iN s.data.toList = 1 := by
 have e : esc s.data.toList = some (10, 1) := by
  have hc : s[0] = 110 := UInt8.toNat_inj.1 h2
  rw [show s.data.toList = s[0] :: s.data.toList.drop 1 from cB s 0 h, kg, hc]
  rfl
 unfold jl iN; rw [e]; exact ⟨rfl, rfl⟩
theorem esc_other {s : ByteArray} (h : 0 < s.size) (h1 : s[0].toNat ≠ 34) (h2 : s[0].toNat ≠ 92) (h3 : s[0].toNat ≠ 110) (h4 : s[0].toNat ≠ 120) : jl s.data.toList = 0 ∧ iN s.data.toList = 0 := by
 have e : esc s.data.toList = none := by
  rw [show s.data.toList = s[0] :: s.data.toList.drop 1 from cB s 0 h, kg, if_neg, if_neg, if_neg]
  ·intro e; exact h4 (by rw [e]; rfl)
  ·intro e; exact h3 (by rw [e]; rfl)
  ·rintro (e | e)
   ·exact h1 (by rw [e]; rfl)
   ·exact h2 (by rw [e]; rfl)
 unfold jl iN; rw [e]; exact ⟨rfl, rfl⟩
theorem esc_short {s : ByteArray} (h : 0 < s.size) (h4 : s[0].toNat = 120) (h3 : s.size < 3) : jl s.data.toList = 0 ∧ iN s.data.toList = 0 := by
 have hc : s[0] = 120 := UInt8.toNat_inj.1 h4
 have e : esc s.data.toList = none := by
  rw [show s.data.toList = s[0] :: s.data.toList.drop 1 from cB s 0 h, kg, hc]
  have hlen : s.data.toList.length = s.size := by simp
  have hl : (s.data.toList.drop 1).length ≤ 1 := by rw [List.length_drop]; omega
  match hr : s.data.toList.drop 1, hl with
  |[], _ => rfl
  |[a], _ => rfl
 unfold jl iN; rw [e]; exact ⟨rfl, rfl⟩
theorem esc_hex {s : ByteArray} (h3 : 3 ≤ s.size) (h4 : s[0].toNat = 120) : esc s.data.toList = (match D5 s[1].toNat, D5 s[2].toNat with | some x, some y => some (UInt8.ofNat (16 * x + y), 3) | _, _ => none) := by
 have hc : s[0] = 120 := UInt8.toNat_inj.1 h4
 rw [show s.data.toList = s[0] :: s.data.toList.drop 1 from cB s 0 (by omega), cB s 1 (by omega), cB s 2 (by omega), kg, hc]
 rfl
theorem esc_empty {s : ByteArray} (h : ¬ 0 < s.size) : jl s.data.toList = 0 ∧ iN s.data.toList = 0 := by
 have hl : s.data.toList.length = s.size := by simp
 have e : s.data.toList = [] := List.length_eq_zero_iff.1 (by omega)
 unfold jl iN; rw [e]; exact ⟨rfl, rfl⟩

set_option maxRecDepth 100000 in
set_option maxHeartbeats 2000000 in
theorem Mq (s : ByteArray) (w : World) (hs : s.size ≤ 1000000000) :
  Calls Tryz.prog 186 #[.string s] w fun e w' => e = .returned (.tuple #[.int .u8 (jl s.data.toList), .int .i64 (iN s.data.toList)]) ∧ ∃ q, w' = w.drewN q := by
 by_cases h0 : 0 < s.size
 ·have e0 : s.data.toList = s[0] :: s.data.toList.drop 1 := cB s 0 h0
  have hne : s.toList.isEmpty = false := by rw [ByteArray.toList_eq]; exact rP s h0
  have hne2 : (s.toList == []) = false := by
   cases h : s.toList with
   |nil => rw [h] at hne; simp at hne
   |cons a l => rfl
  by_cases h34 : s[0].toNat = 34
  ·have q34 : ((s[0].toNat : Int) == 34) = true := lq h34
   obtain ⟨e1, e2⟩ := esc_lit h0 (Or.inl h34)
   have E1 := Lib.hid e1
   have E2 := Lib.hid e2
   clear e1 e2 e0
   clear h34
   go_enter Tryz.func186, Tryz.ntmps186
   go_wp2
   go_ret2
   exact ⟨by rw [E1.out, E2.out]; rfl, 0, rfl⟩
  ·have q34 : ((s[0].toNat : Int) == 34) = false := eP h34
   by_cases h92 : s[0].toNat = 92
   ·have q92 : ((s[0].toNat : Int) == 92) = true := lq h92
    obtain ⟨e1, e2⟩ := esc_lit h0 (Or.inr h92)
    have E1 := Lib.hid e1
    have E2 := Lib.hid e2
    clear e1 e2 e0
    clear h92
    go_enter Tryz.func186, Tryz.ntmps186
    go_wp2
    go_ret2
    exact ⟨by rw [E1.out, E2.out]; rfl, 0, rfl⟩
   ·have q92 : ((s[0].toNat : Int) == 92) = false := eP h92
    by_cases h110 : s[0].toNat = 110
    ·have q110 : ((s[0].toNat : Int) == 110) = true := lq h110
     obtain ⟨e1, e2⟩ := esc_n h0 h110
     have E1 := Lib.hid e1
     have E2 := Lib.hid e2
     clear e1 e2 e0
     clear h110
     go_enter Tryz.func186, Tryz.ntmps186
     go_wp2
     go_ret2
     exact ⟨by rw [E1.out, E2.out]; rfl, 0, rfl⟩
    ·have q110 : ((s[0].toNat : Int) == 110) = false := eP h110
     by_cases h120 : s[0].toNat = 120
     ·have q120 : ((s[0].toNat : Int) == 120) = true := lq h120
      by_cases h3 : s.size < 3
      ·obtain ⟨e1, e2⟩ := esc_short h0 h120 h3
       have E1 := Lib.hid e1
       have E2 := Lib.hid e2
       clear e1 e2 e0
       have h3I : (s.size : Int) < 3 := by omega
       clear h120
       go_enter Tryz.func186, Tryz.ntmps186
       go_wp2
       go_ret2
       exact ⟨by rw [E1.out, E2.out]; rfl, 0, rfl⟩
      ·have h3 : 3 ≤ s.size := by omega
       have hx := esc_hex h3 h120
       have i1 := Cf ⟨s[1].toNat, UInt8.toNat_lt _⟩
       have i2 := Cf ⟨s[2].toNat, UInt8.toNat_lt _⟩
       simp only at i1 i2
       have hI1 := fun (k : Nat) => (Tryz.strings_IndexByte ⟨#[48, 49, 50, 51, 52, 53, 54, 55, 56, 57, 97, 98, 99, 100, 101, 102]⟩ (s[1].toNat : Int) (w.drewN k)).mono (fun e w' h => (⟨h.1, k, h.2⟩ : e = .returned (.int .i64 _) ∧ ∃ m, w' = w.drewN m))
       have hI2 := fun (k : Nat) => (Tryz.strings_IndexByte ⟨#[48, 49, 50, 51, 52, 53, 54, 55, 56, 57, 97, 98, 99, 100, 101, 102]⟩ (s[2].toNat : Int) (w.drewN k)).mono (fun e w' h => (⟨h.1, k, h.2⟩ : e = .returned (.int .i64 _) ∧ ∃ m, w' = w.drewN m))
       have hs3I : (3 : Int) ≤ (s.size : Int) := by omega
       have hb1 : (1 : Int) < (s.size : Int) := by omega
       have hb2 : (2 : Int) < (s.size : Int) := by omega
       have hb1' : 1 < s.size := by omega
       have hb2' : 2 < s.size := by omega
       have hI1 : ∀ k : Nat, Calls Tryz.prog 161 #[.string ⟨#[48, 49, 50, 51, 52, 53, 54, 55, 56, 57, 97, 98, 99, 100, 101, 102]⟩, .int .u8 (s[1].toNat : Int)] (w.drewN k) fun e w' => e = .returned (.int .i64 (match D5 s[1].toNat with | some v => (v : Int) | none => -1)) ∧ ∃ m, w' = w.drewN m := by
        intro k
        have := hI1 k
        rw [show Lib.indexByte (⟨#[48, 49, 50, 51, 52, 53, 54, 55, 56, 57, 97, 98, 99, 100, 101, 102]⟩ : ByteArray).data.toList ((s[1].toNat : Int).toNat.toUInt8) = _ from i1] at this
        exact this
       have hI2 : ∀ k : Nat, Calls Tryz.prog 161 #[.string ⟨#[48, 49, 50, 51, 52, 53, 54, 55, 56, 57, 97, 98, 99, 100, 101, 102]⟩, .int .u8 (s[2].toNat : Int)] (w.drewN k) fun e w' => e = .returned (.int .i64 (match D5 s[2].toNat with | some v => (v : Int) | none => -1)) ∧ ∃ m, w' = w.drewN m := by
        intro k
        have := hI2 k
        rw [show Lib.indexByte (⟨#[48, 49, 50, 51, 52, 53, 54, 55, 56, 57, 97, 98, 99, 100, 101, 102]⟩ : ByteArray).data.toList ((s[2].toNat : Int).toNat.toUInt8) = _ from i2] at this
        exact this
       cases hv1 : D5 s[1].toNat with
       |none =>
        rw [hv1] at hI1 hx
        simp only at hI1 hx
        cases hv2 : D5 s[2].toNat with
        |none =>
         rw [hv2] at hI2
         try rw [hv2] at hx
         simp only at hI2
         try simp only at hx
         clear hv1 hv2
         have H1 := Lib.hid hI1
         have H2 := Lib.hid hI2
         have HX := Lib.hid hx
         clear hI1 hI2 hx i1 i2 e0 h120
         go_enter Tryz.func186, Tryz.ntmps186
         go_wp2
         go_quiet ((first | (go_at_call 161; exact H1.out _) | (go_at_call 161; exact H2.out _)))
         go_wp2
         go_ret2
         unfold jl iN
         rw [HX.out]
         exact ⟨rfl, _, rfl⟩
        |some v2 =>
         rw [hv2] at hI2
         simp only at hI2
         clear hv1 hv2
         have H1 := Lib.hid hI1
         have H2 := Lib.hid hI2
         have HX := Lib.hid hx
         clear hI1 hI2 hx i1 i2 e0 h120
         go_enter Tryz.func186, Tryz.ntmps186
         go_wp2
         go_quiet ((first | (go_at_call 161; exact H1.out _) | (go_at_call 161; exact H2.out _)))
         go_wp2
         go_ret2
         unfold jl iN
         rw [HX.out]
         exact ⟨rfl, _, rfl⟩
       |some v1 =>
        rw [hv1] at hI1 hx
        simp only at hI1 hx
        have hv1l := DZ ⟨s[1].toNat, UInt8.toNat_lt _⟩ v1 hv1
        cases hv2 : D5 s[2].toNat with
        |none =>
         rw [hv2] at hI2
         try rw [hv2] at hx
         simp only at hI2
         try simp only at hx
         clear hv1 hv2
         have H1 := Lib.hid hI1
         have H2 := Lib.hid hI2
         have HX := Lib.hid hx
         clear hI1 hI2 hx i1 i2 e0 h120
         go_enter Tryz.func186, Tryz.ntmps186
         go_wp2
         go_quiet ((first | (go_at_call 161; exact H1.out _) | (go_at_call 161; exact H2.out _)))
         go_wp2
         go_ret2
         unfold jl iN
         rw [HX.out]
         exact ⟨rfl, _, rfl⟩
        |some v2 =>
         rw [hv2] at hI2 hx
         simp only at hI2 hx
         have hv2l := DZ ⟨s[2].toNat, UInt8.toNat_lt _⟩ v2 hv2
         clear hv1 hv2
         have H1 := Lib.hid hI1
         have H2 := Lib.hid hI2
         have HX := Lib.hid hx
         clear hI1 hI2 hx i1 i2 e0 h120
         go_enter Tryz.func186, Tryz.ntmps186
         go_wp2
         go_quiet ((first | (go_at_call 161; exact H1.out _) | (go_at_call 161; exact H2.out _)))
         go_wp2
         go_ret2
         unfold jl iN
         rw [HX.out]
         have hb := hex_byte ⟨v1, hv1l⟩ ⟨v2, hv2l⟩
         simp only at hb
         refine ⟨?_, _, rfl⟩
         show Ending.returned (.tuple #[.int .u8 (bits BinOp.or IntKind.i64 ((v1 : Int) * 16) (v2 : Int) % 256), .int .i64 3]) = _
         rw [hb]
         rfl
     ·have q120 : ((s[0].toNat : Int) == 120) = false := eP h120
      obtain ⟨e1, e2⟩ := esc_other h0 h34 h92 h110 h120
      have E1 := Lib.hid e1
      have E2 := Lib.hid e2
      clear e1 e2 e0
      go_enter Tryz.func186, Tryz.ntmps186
      go_wp2
      go_ret2
      exact ⟨by rw [E1.out, E2.out]; rfl, 0, rfl⟩
 ·obtain ⟨e1, e2⟩ := esc_empty h0
  have E1 := Lib.hid e1
  have E2 := Lib.hid e2
  have hl : s.data.toList.length = s.size := by simp
  have e0 : s.toList = [] := by rw [ByteArray.toList_eq]; exact List.length_eq_zero_iff.1 (by omega)
  have hne2 : (s.toList == []) = true := by rw [e0]; rfl
  have hne : s.toList.isEmpty = true := by rw [e0]; rfl
  clear e1 e2 hl e0
  go_enter Tryz.func186, Tryz.ntmps186
  go_wp2
  go_ret2
  exact ⟨by rw [E1.out, E2.out]; rfl, 0, rfl⟩
end Go.Proofs.YtbmglebipepdmaaGreatDoor
namespace Go.Proofs.YtbmglebipepdmaaGreatDoor
open Go.RowKit Go.Shelf

theorem info_byte : (Tryz.prog.info? 5).map (fun i => (i.zero, i.size, i.bytes)) = some (some (.int .u8 0), 1, 1) := by kernel_rfl
theorem push_byte (w : World) {ops : Array Oper} {rest : List Oper} {o : Oper} {a : Act} {Q : Exit → Act → World → Prop} (hgd : o.guard = none) (s x : Operand)
  (ho : o.op = .call { callee := .builtin .append, args := #[s, x], argTypes := #[118, 118] })
  (base : Nat) (v : Value) (n : Nat) (xs : List Value) (hown : w.ownsRow base 5 1 v n xs) (hs : a.eval s = v)
  (u : Int) (hx : a.eval x = .slice (some ⟨w.heap.size, 0, none⟩) 1 1)
  (hlim : n ≤ 100000000000) (hbase : base ≤ w.heap.size)
  (h : ∀ v' w', w'.ownsRow base 5 1 v' (n + 1) (xs ++ [.int .u8 u]) → w.grownBy w' v.ownBlock → (v'.ownBlock = v.ownBlock ∨ v'.ownBlock = some (w.heap.size + 1)) → wpList Tryz.prog ops Q rest (a.put o.dst v') w') :
  wpList Tryz.prog ops Q (o :: rest) a (w.alloc (.cells #[.int .u8 u] 5)) := by
 obtain ⟨i0, hi, hz0, hz1, hz2⟩ := info_parts info_byte
 exact iq w hgd s x _ ho base 5 i0 (.int .u8 0) 1 1 Tryz.underlying118 hi hz0 hz1 hz2 rfl (by decide) v n xs hown hs [.int .u8 u] hx rfl (by simp [Value.oneCell']) (by omega) (by omega) hbase h
theorem copy_any (B b : Nat) (l : List UInt8) (w : World) (h : Lib.IsBuilder 120 5 B b (Lib.byteCells l) w) :
  Calls Tryz.prog 131 #[.pointer (some ⟨b, 0, none⟩)] w fun e w' => e = .returned (.tuple #[]) ∧ Lib.BuilderAt 120 5 B b (.pointer (some ⟨b, 0, none⟩)) (Lib.byteCells l) w' ∧ Below B w w' :=
 Any.Builder_copyCheck (ρ := Tryz.lays156_ren) { Tryz.lays156 with } Tryz.Builder_Extra_156.toX72 B b (Lib.byteCells l) w h

set_option maxHeartbeats 1000000 in
theorem uW (B b : Nat) (l : List UInt8) (c : UInt8) (w : World) (h : Lib.IsBuilder 120 5 B b (Lib.byteCells l) w) (hlen : l.length ≤ 1000000000) (hBw : B ≤ w.heap.size) :
  Calls Tryz.prog 187 #[.pointer (some ⟨b, 0, none⟩), .int .u8 c.toNat] w fun e w' => e = .returned .nilIface ∧ Lib.IsBuilder 120 5 B b (Lib.byteCells (l ++ [c])) w' ∧ Below B w w' := by
 have HC := Lib.hid (copy_any B b l w h)
 clear h
 go_enter Tryz.func187, Tryz.ntmps187
 go_wp2_with fail
 refine HC.out.mono ?_
 rintro e W ⟨rfl, hb, hB⟩
 obtain ⟨h1, v, h2, h3, h4⟩ := hb
 have hsW := hB.size
 have hbs := lt_of_block h2
 have c1 : W.cell? ⟨b, 1, none⟩ = some v := (cell_of_row _ _ _ _ _ _ h2).trans rfl
 have hl : (Lib.byteCells l).length = l.length := by simp [Lib.byteCells]
 obtain ⟨Av, cv, rfl, hcv⟩ := aS h3
 have H2 := Lib.hid h2
 have HL := Lib.hid hl
 have hlc : (Lib.byteCells l).length ≤ 100000000000 := by omega
 clear h2 hl
 go_wp2_with (at_builtin; refine push_byte W rfl (.tmp 11) (.tmp 13) rfl B _ _ _ h3 rfl (c.toNat : Int) rfl hlc (by omega) ?_; intro v' W2 hown2 hg2 hv2; obtain ⟨A2, c2, rfl, hc2⟩ := aS hown2; have hb2 := (hg2.block b hbs (fun e => h4 e.symm)).trans H2.out; have d1 : W2.cell? ⟨b, 1, none⟩ = some (.slice Av (Lib.byteCells l).length cv) := (cell_of_row _ _ _ _ _ _ hb2).trans rfl; have df : W2.frozen? ⟨b, 1, none⟩ = false := frozen_of_row _ _ 1 _ _ hb2; have HB2 := Lib.hid hb2; clear hb2)
 go_ret
 have hgx : W2.grownBy (W2.setCell ⟨b, 1, none⟩ (.slice A2 ((Lib.byteCells l).length + 1) c2)) (some b) := aF (aJ _ _) _ _
 have hne2 : (Value.slice A2 ((Lib.byteCells l).length + 1) c2).ownBlock ≠ some b := by
  rcases hv2 with hv2 | hv2
  ·rw [hv2]; exact h4
  ·rw [hv2]; intro e; injection e; omega
 have e1 : Lib.byteCells (l ++ [c]) = Lib.byteCells l ++ [.int .u8 c.toNat] := by simp [Lib.byteCells]
 refine ⟨rfl, Or.inr ⟨h1, _, aQ HB2.out _, ?_, hne2⟩, ?_⟩
 ·rw [e1, List.length_append]
  exact yI hown2 (fun g e => hgx.block g (hown2.lt g e).2 (fun e2 => hne2 (by rw [e]; exact e2)))
 ·exact (hB.trans (aM h3 hg2 (by omega))).trans (below_grown hgx h1 (by have := hg2.size; omega))
end Go.Proofs.YtbmglebipepdmaaGreatDoor
namespace Go.Proofs.YtbmglebipepdmaaGreatDoor
open Go.RowKit

def xW (r : List UInt8) : List UInt8 := match lit r with | some (v, _) => v | none => []
def xX (r : List UInt8) : Nat := match lit r with | some (_, n) => n | none => 0
theorem J5 {r v : List UInt8} {n : Nat} (h : lit r = some (v, n)) : xW r = v ∧ xX r = n := by unfold xW xX; rw [h]; exact ⟨rfl, rfl⟩
theorem vP {r : List UInt8} (h : lit r = none) : xW r = [] ∧ xX r = 0 := by unfold xW xX; rw [h]; exact ⟨rfl, rfl⟩
theorem esc_le (l : List UInt8) : iN l ≤ l.length := by
 unfold iN
 match l with
 |[] => simp [esc]
 |c :: r =>
  rw [kg]
  split
  ·rename_i x n h
   split at h
   ·simp at h; simp; omega
   ·split at h
    ·simp at h; simp; omega
    ·split at h
     ·split at h
      ·split at h
       ·simp at h; simp; omega
       ·simp at h
      ·simp at h
     ·simp at h
  ·exact Nat.zero_le _
theorem esc_none {l : List UInt8} (h : iN l = 0) : esc l = none := by
 unfold iN at h
 match l with
 |[] => rfl
 |c :: r =>
  rw [kg] at h ⊢
  split
  ·rename_i h1; rw [if_pos h1] at h; simp at h
  ·rename_i h1
   rw [if_neg h1] at h
   split
   ·rename_i h2; rw [if_pos h2] at h; simp at h
   ·rename_i h2
    rw [if_neg h2] at h
    split
    ·rename_i h3
     rw [if_pos h3] at h
     split
     ·split
      ·rename_i h4 h5
       simp [h4, h5] at h
      ·rfl
     ·rfl
    ·rfl

theorem esc_some {l : List UInt8} (h : iN l ≠ 0) : ∃ x : UInt8, esc l = some (x, iN l) ∧ x.toNat = jl l := by
 unfold iN jl at *
 cases he : esc l with
 |none => rw [he] at h; exact absurd rfl h
 |some p => obtain ⟨x, n⟩ := p; exact ⟨x, rfl, rfl⟩

set_option maxRecDepth 100000 in
set_option maxHeartbeats 4000000 in
theorem IU (s : ByteArray) (w : World) (hs : s.size ≤ 1000000000) (h0 : 0 < s.size) (hq : s[0].toNat = 34) (r : List UInt8) (hr0 : s.data.toList.drop 1 = r) :
  Calls Tryz.prog 177 #[.string s] w fun e w' => e = .returned (.tuple #[.string (bs (xW r)), .int .i64 (xX r)]) ∧ Below w.heap.size w w' := by
 have hpre : Lib.hasPrefix s.data.toList (⟨#[34]⟩ : ByteArray).data.toList = true := by
  rw [show s.data.toList = s[0] :: s.data.toList.drop 1 from cB s 0 h0, show s[0] = 34 from UInt8.toNat_inj.1 hq]
  simp [Lib.hasPrefix]
 have hp := Tryz.strings_HasPrefix s ⟨#[34]⟩ w
 rw [hpre] at hp
 have HP := Lib.hid hp
 have hlit0 : lit r = pQ (r.length + 1) (s.data.toList.drop 1) [] 1 := by rw [hr0]; rfl
 have hrl : r.length = s.size - 1 := by rw [← hr0]; simp
 have HL0 := Lib.hid hlit0
 have HRL := Lib.hid hrl
 clear hpre hp hq hlit0 hrl hr0
 go_enter Tryz.func177, Tryz.ntmps177
 go_wp2_with fail
 refine HP.out.mono ?_
 rintro e w' ⟨rfl, hw⟩
 subst hw
 go_wp2
 go_loopw [5] (fun x wr => ∃ f k : Nat, ∃ acc, 1 ≤ k ∧ k ≤ s.size ∧ x = .int .i64 k ∧ Hid (lit r = pQ f (s.data.toList.drop k) acc k) ∧ s.size + 1 ≤ f + k ∧ acc.length ≤ k ∧ Lib.IsBuilder 120 5 w'.heap.size w'.heap.size (Lib.byteCells acc) wr ∧ Below w'.heap.size w' wr) (fun x _ => s.size - (intOf x).toNat)
 case atStart => exact ⟨r.length + 1, 1, [], Nat.le_refl _, h0, rfl, HL0.out, by rw [HRL.out]; omega, by simp, Lib.fresh_isBuilder _ _ _, (Below.refl _ _).alloc (Nat.le_refl _) _⟩
 case round =>
  obtain ⟨f, k, acc, hk1, hk, rfl, hgo, hfu, hal, hbd, hb⟩ := hrel
  have hsz := hb.size
  by_cases hlt : k < s.size
  ·have hdr := cB s k hlt
   obtain ⟨f, rfl⟩ : ∃ g, f = g + 1 := ⟨f - 1, by omega⟩
   have xD := hgo.out
   rw [hdr, pQ] at xD
   have HG := Lib.hid xD
   clear hdr xD hgo
   by_cases h34 : s[k].toNat = 34
   ·have q34 : ((s[k].toNat : Int) == 34) = true := lq h34
    have e : lit r = some (acc, k + 1) := by
     have := HG.out
     rw [if_pos (UInt8.toNat_inj.1 h34)] at this; exact this
    obtain ⟨e1, e2⟩ := J5 e
    have E1 := Lib.hid e1
    have E2 := Lib.hid e2
    have HS := Lib.hid (Tryz.Builder_String_any w'.heap.size w'.heap.size acc wr hbd hsz)
    clear e e1 e2 h34 HG
    go_wp2_with fail
    refine HS.out.mono ?_
    rintro e W2 ⟨rfl, hb2⟩
    go_wp2
    go_ret2
    rw [E1.out, E2.out]
    exact ⟨rfl, hb.trans hb2⟩
   ·have q34 : ((s[k].toNat : Int) == 34) = false := eP h34
    have n34 : ¬ s[k] = 34 := fun e => h34 (by rw [e]; rfl)
    by_cases hr : s[k].toNat < 32 ∨ 126 < s[k].toNat
    ·have e : lit r = none := by
      have := HG.out
      rw [if_neg n34, if_pos hr] at this; exact this
     obtain ⟨e1, e2⟩ := vP e
     have E1 := Lib.hid e1
     have E2 := Lib.hid e2
     clear e e1 e2 h34 HG n34
     rcases hr with hr | hr
     ·have hrI : (s[k].toNat : Int) < 32 := by omega
      go_wp2
      go_ret2
      rw [E1.out, E2.out]
      exact ⟨rfl, hb⟩
     ·have hrI : (126 : Int) < (s[k].toNat : Int) := by omega
      have hrI2 : ¬ (s[k].toNat : Int) < 32 := by omega
      go_wp2
      go_ret2
      rw [E1.out, E2.out]
      exact ⟨rfl, hb⟩
    ·have hrI : ¬ (126 : Int) < (s[k].toNat : Int) := by omega
     have hrI2 : ¬ (s[k].toNat : Int) < 32 := by omega
     by_cases h92 : s[k].toNat = 92
     ·have q92 : ((s[k].toNat : Int) == 92) = true := lq h92
      have e92 : s[k] = 92 := UInt8.toNat_inj.1 h92
      have hg92 := HG.out
      rw [if_neg n34, if_neg hr, if_pos e92] at hg92
      have HG9 := Lib.hid hg92
      clear HG hg92 hr n34 h34 h92 e92
      have hX : (s.extract (k + 1) s.size).data.toList = s.data.toList.drop (k + 1) := by
       simp [List.take_of_length_le]
      have hc := Mq (s.extract (k + 1) s.size) wr (by simp; omega)
      rw [hX] at hc
      have hle := esc_le (s.data.toList.drop (k + 1))
      have hdl : (s.data.toList.drop (k + 1)).length = s.size - (k + 1) := by simp
      generalize hn : iN (s.data.toList.drop (k + 1)) = n at hc hle
      generalize hx : jl (s.data.toList.drop (k + 1)) = x at hc
      have HC := Lib.hid hc
      have HN := Lib.hid hn
      have HX := Lib.hid hx
      rw [hdl] at hle
      clear hc hX hdl hn hx
      by_cases hz : n = 0
      ·have qz : ((n : Int) == 0) = true := lq hz
       have e : lit r = none := by
        have := HG9.out
        rw [esc_none (HN.out.trans hz)] at this; exact this
       obtain ⟨e1, e2⟩ := vP e
       have E1 := Lib.hid e1
       have E2 := Lib.hid e2
       clear e e1 e2 hz
       go_wp2_with fail
       refine HC.out.mono ?_
       rintro e W2 ⟨rfl, q, rfl⟩
       go_wp2
       go_ret2
       rw [E1.out, E2.out]
       exact ⟨rfl, below_drewN hb _⟩
      ·have qz : ((n : Int) == 0) = false := eP hz
       obtain ⟨b, hb1, hb2⟩ := esc_some (l := s.data.toList.drop (k + 1)) (by rw [HN.out]; exact hz)
       rw [HN.out] at hb1
       rw [HX.out] at hb2
       have hg0 := HG9.out
       rw [hb1] at hg0
       simp only [List.drop_drop] at hg0
       have HG0 := Lib.hid hg0
       subst hb2
       clear hg0 hb1
       go_wp2_with fail
       refine HC.out.mono ?_
       rintro e W2 ⟨rfl, q, rfl⟩
       go_wp2_with fail
       refine (uW w'.heap.size w'.heap.size acc b (wr.drewN q) hbd (by omega) hsz).mono ?_
       rintro e W3 ⟨rfl, hbd3, hb3⟩
       go_wp2
       go_roundw
       case rel => exact ⟨f, k + 1 + n, acc ++ [b], by omega, by omega, by congr 1; omega, HG0.out, by omega, by simp; omega, hbd3, (below_drewN hb _).trans hb3⟩
       case measure => simp [intOf]; omega
     ·have q92 : ((s[k].toNat : Int) == 92) = false := eP h92
      have hg0 := HG.out
      rw [if_neg n34, if_neg hr, if_neg (fun e => h92 (by rw [e]; rfl))] at hg0
      have HG0 := Lib.hid hg0
      have HW := Lib.hid (uW w'.heap.size w'.heap.size acc s[k] wr hbd (by omega) hsz)
      clear HG hg0 hr n34 h34 h92
      go_wp2_with fail
      refine HW.out.mono ?_
      rintro e W2 ⟨rfl, hbd2, hb2⟩
      go_wp2
      go_roundw
      case rel => exact ⟨f, k + 1, acc ++ [s[k]], by omega, by omega, by go_num, HG0.out, by omega, by simp; omega, hbd2, hb.trans hb2⟩
      case measure => simp [intOf]; omega
  ·have e : lit r = none := by
    have := hgo.out
    rw [show s.data.toList.drop k = [] from List.drop_of_length_le (by simp; omega)] at this
    rw [this]
    match f, hfu with
    |0, h => omega
    |g + 1, _ => rfl
   obtain ⟨e1, e2⟩ := vP e
   have E1 := Lib.hid e1
   have E2 := Lib.hid e2
   clear e e1 e2 hgo
   go_wp2
   go_ret2
   rw [E1.out, E2.out]
   exact ⟨rfl, hb⟩
end Go.Proofs.YtbmglebipepdmaaGreatDoor
namespace Go.Proofs.YtbmglebipepdmaaGreatDoor
open Go.RowKit

theorem LB {s : ByteArray} (h : 0 < s.size) : dR s.data.toList = (decide (s.size ≤ 24) && dX (s[0].toNat) && (pre cu s.data.toList == s.size)) := by
 have e : s.data.toList = s[0] :: s.data.toList.drop 1 := cB s 0 h
 have hl : s.data.toList.length = s.size := by simp
 rw [← hl]
 generalize s[0] = c at e
 rw [e]; rfl

theorem zP (a b : Nat) : ((a : Int) == (b : Int)) = (a == b) := by rw [Bool.eq_iff_iff, beq_iff_eq, beq_iff_eq]; omega
theorem gT {s : ByteArray} (h : 0 < s.size) : ¬ s.toList = [] := by
 rw [ByteArray.toList_eq]
 intro e
 have h2 : s.data.toList.length = 0 := by rw [e]; rfl
 have h3 : s.data.toList.length = s.size := by simp
 omega
theorem bP {s : ByteArray} (h : 0 < s.size) : s.toList.isEmpty = false := by
 cases e : s.toList.isEmpty
 ·rfl
 ·exact absurd (List.isEmpty_iff.1 e) (gT h)
set_option maxHeartbeats 1000000 in
theorem LJ (s : ByteArray) (w : World) : Calls Tryz.prog 142 #[.string s] w fun e w' => e = .returned (.bool (dR s.data.toList)) ∧ w = w' := by
 by_cases h0 : s.size = 0
 ·obtain rfl : s = ⟨#[]⟩ := by
   have : s.data.toList = [] := List.length_eq_zero_iff.1 (by simpa using h0)
   rw [← dS s, this]; rfl
  go_enter Tryz.func142, Tryz.ntmps142
  go_wp2
  go_ret
  exact ⟨rfl, rfl⟩
 ·have hp : 0 < s.size := by omega
  rw [LB hp]
  have hne2 := gT hp
  have hne := bP hp
  clear h0
  by_cases h24 : s.size ≤ 24
  ·have hb := xP s[0].toNat w
   have hc := sJ s 157 (enters_of Tryz.func157 (by kernel_rfl) rfl) cu (fun c w _ => wP c w) w (by omega)
   rw [show decide (s.size ≤ 24) = true by simpa using h24, Bool.true_and]
   cases hl : dX s[0].toNat
   ·rw [hl] at hb
    have HB := Lib.hid hb
    clear hb hc hl
    go_enter Tryz.func142, Tryz.ntmps142
    go_wp2_with fail
    refine HB.out.mono ?_
    rintro e w' ⟨rfl, rfl⟩
    go_wp2
    go_ret
    exact ⟨rfl, rfl⟩
   ·rw [hl] at hb
    have HB := Lib.hid hb
    have HC := Lib.hid hc
    clear hb hc hl
    go_enter Tryz.func142, Tryz.ntmps142
    go_wp2_with fail
    refine HB.out.mono ?_
    rintro e w' ⟨rfl, rfl⟩
    go_wp2_with fail
    refine HC.out.mono ?_
    rintro e w' ⟨rfl, rfl⟩
    go_wp2
    go_ret
    refine ⟨?_, rfl⟩
    show Ending.returned (.bool (((pre cu s.data.toList : Nat) : Int) == (s.size : Int))) = _
    rw [zP, Bool.true_and]
  ·rw [show decide (s.size ≤ 24) = false by simpa using h24, Bool.false_and, Bool.false_and]
   go_enter Tryz.func142, Tryz.ntmps142
   go_wp2
   go_ret
   exact ⟨rfl, rfl⟩

def qX (l : List UInt8) (k : Int) (x : ByteArray) (v : Int) (y : ByteArray) (n : Nat) : Prop :=
 match gZ l with
 |none => n = 0
 |some (t, m) => n = m ∧ k = t.kind ∧ x = t.text ∧ v = t.int ∧ y = t.str
def NxPost (l : List UInt8) (w : World) (e : Ending) (w' : World) : Prop :=
 ∃ k x v y, ∃ n : Nat, e = .returned (.tuple #[.agg #[.int .i64 k, .string x, .int .i64 v, .string y, .int .i64 0], .int .i64 n]) ∧ Below w.heap.size w w' ∧ qX l k x v y n
theorem kz {fn : Func} {slot u : Nat} {R : Ending → World → Prop} {a : Act} {W : World} {r : Nat} {k v l : Int} {x y : ByteArray} {q : Value} (hres : fn.results = #[.cell slot 105, .tmp u]) (hp : a.tmps.getD slot undef = .pointer (some ⟨r, 0, none⟩)) (hq : a.tmps.getD u undef = q) (hd : a.defers = [])
  (hblk : W.heap[r]? = some (.cells #[.int .i64 k, .string x, .int .i64 v, .string y, .int .i64 l] 105 (0, 0))) (hR : R (.returned (.tuple #[.agg #[.int .i64 k, .string x, .int .i64 v, .string y, .int .i64 l], q])) W) : bodyPost Tryz.prog fn R .ret a W := by
 obtain ⟨c0, c1, c2, c3, c4, -⟩ := jF hblk
 refine bodyPost_ret (v := .tuple #[.agg #[.int .i64 k, .string x, .int .i64 v, .string y, .int .i64 l], q]) ?_ hd hR
 rw [results_cell_tmp hres, hp, hq]
 simp [go_sem, c0, c1, c2, c3, c4]

theorem FK {s : ByteArray} (h : 0 < s.size) : gZ s.data.toList =
  (if dX s[0].toNat then (if 24 < pre cu s.data.toList then none else some (⟨1, bs (s.data.toList.take (pre cu s.data.toList)), 0, bs []⟩, pre cu s.data.toList))
  else if isDigit s[0].toNat then (match num (s.data.toList.take (pre isDigit s.data.toList)) with
   |none => none
   |some v => some (⟨2, bs [], v, bs []⟩, pre isDigit s.data.toList))
  else if s[0] = 34 then (match lit (s.data.toList.drop 1) with
   |none => none
   |some (v, n) => some (⟨3, bs [], 0, bs v⟩, n))
  else if s[0] ∈ Fe then some (⟨4, bs [s[0]], 0, bs []⟩, 1) else none) := by
 have e : s.data.toList = s[0] :: s.data.toList.drop 1 := cB s 0 h
 have e2 : (s.data.toList.drop 1).length = s.size - 1 := by simp
 generalize s[0] = c at e ⊢
 generalize s.data.toList.drop 1 = r at e ⊢
 rw [e]; rfl
theorem pY (s : ByteArray) (n : Nat) : s.extract 0 n = bs (s.data.toList.take n) := by
 rw [← dS (s.extract 0 n)]
 congr 1
 simp
theorem pre_digit (l : List UInt8) : ∀ k, k < pre isDigit l → ∀ (h : k < l.length), isDigit (l[k]).toNat = true := by
 induction l with
 |nil => intro k _ h; simp at h
 |cons c r ih =>
  intro k hk h
  unfold pre at hk
  rw [List.takeWhile_cons] at hk
  split at hk
  ·rename_i hc
   cases k with
   |zero => exact hc
   |succ k => exact ih k (by unfold pre; simpa using hk) (by simpa using h)
  ·simp at hk
theorem sym_index : ∀ c : Fin 256, decide (0 ≤ Lib.indexByte [123, 125, 40, 41, 91, 93, 44, 59, 58, 61, 47, 43, 45, 60, 62, 124, 38, 42] ((c.1 : Int).toNat.toUInt8)) = decide (UInt8.ofNat c.1 ∈ Fe) := by decide +kernel
theorem ku {w W W2 : World} {k v : Int} {x y : ByteArray} {o0 o1 o2 o3 o4 : Value} (hb : Below w.heap.size w W) (h : W.heap[w.heap.size]? = some (.cells #[o0, o1, o2, o3, o4] 105 (0, 0)))
  (he : W2 = (((((W.setCell ⟨w.heap.size, 0, none⟩ (.int .i64 k)).setCell ⟨w.heap.size, 1, none⟩ (.string x)).setCell ⟨w.heap.size, 2, none⟩ (.int .i64 v)).setCell ⟨w.heap.size, 3, none⟩ (.string y)).setCell ⟨w.heap.size, 4, none⟩ (.int .i64 0))) :
  W2.heap[w.heap.size]? = some (.cells #[.int .i64 k, .string x, .int .i64 v, .string y, .int .i64 0] 105 (0, 0)) ∧ Below w.heap.size w W2 := by
 obtain ⟨h1, h2⟩ := BJ h (.int .i64 k) (.string x) (.int .i64 v) (.string y) (.int .i64 0)
 subst he
 exact ⟨h1, hb.trans (below_grown h2 (Nat.le_refl _) hb.size)⟩
theorem mq {l : List UInt8} (h : gZ l = none) (k : Int) (x : ByteArray) (v : Int) (y : ByteArray) : qX l k x v y 0 := by unfold qX; rw [h]
theorem mo {l : List UInt8} {t : Tok} {m : Nat} (h : gZ l = some (t, m)) : qX l t.kind t.text t.int t.str m := by unfold qX; rw [h]; exact ⟨rfl, rfl, rfl, rfl, rfl⟩

theorem JZ {l r : List UInt8} (h : gZ l = (match lit r with
   |none => none
   |some (v, n) => some (⟨3, bs [], 0, bs v⟩, n))) : qX l 3 (bs []) 0 (bs (xW r)) (xX r) := by
 unfold xW xX
 cases hl : lit r with
 |none => rw [hl] at h; exact mq h _ _ _ _
 |some p => obtain ⟨v, n⟩ := p; rw [hl] at h; exact mo h
theorem next_num {l : List UInt8} {n : Nat} (hn : 0 < n) (hl : 0 < l.length) (h : gZ l = (match num (l.take n) with
   |none => none
   |some v => some (⟨2, bs [], v, bs []⟩, n))) : (uH (l.take n) = true → qX l 2 (bs []) (pK (l.take n)) (bs []) n) ∧ (uH (l.take n) = false → gZ l = none) := by
 have he : (l.take n).isEmpty = false := by
  cases l with
  |nil => simp at hl
  |cons c r =>
   cases n with
   |zero => omega
   |succ n => rfl
 unfold uH pK
 rw [he]
 cases hl : num (l.take n) with
 |none => rw [hl] at h; exact ⟨fun k => by simp at k, fun _ => h⟩
 |some v => rw [hl] at h; exact ⟨fun _ => mo h, fun k => by simp at k⟩
set_option maxRecDepth 100000 in
set_option maxHeartbeats 4000000 in
theorem next_any (s : ByteArray) (w : World) (hs : s.size ≤ 1000000000) (h0 : 0 < s.size) : Calls Tryz.prog 162 #[.string s] w (NxPost s.data.toList w) := by
 have hone := FK h0
 have hbW : ∀ o, Below w.heap.size w (w.alloc o) := fun o => (Below.refl _ _).alloc (Nat.le_refl _) o
 have hnew := heap_alloc_new w (.cells #[.int .i64 0, .string ⟨#[]⟩, .int .i64 0, .string ⟨#[]⟩, .int .i64 0] 105)
 obtain ⟨W, hW⟩ : ∃ W : World, W = w.alloc (.cells #[.int .i64 0, .string ⟨#[]⟩, .int .i64 0, .string ⟨#[]⟩, .int .i64 0] 105) := ⟨_, rfl⟩
 have hb := hbW (.cells #[.int .i64 0, .string ⟨#[]⟩, .int .i64 0, .string ⟨#[]⟩, .int .i64 0] 105)
 rw [← hW] at hb hnew
 have HB := Lib.hid hb
 have yB := Lib.hid hnew
 obtain ⟨a0, a1, a2, a3, a4, af⟩ := jF hnew
 have af0 := af 0
 have af1 := af 1
 have af2 := af 2
 have af3 := af 3
 have af4 := af 4
 have hcx := xP s[0].toNat W
 have hdx := uO s[0].toNat W
 clear hbW hb hnew af
 cases hl : dX s[0].toNat
 ·rw [hl] at hcx hone
  rw [if_neg (by simp)] at hone
  cases hd : isDigit s[0].toNat
  ·rw [hd] at hdx hone
   rw [if_neg (by simp)] at hone
   by_cases hq : s[0].toNat = 34
   ·have q34 : ((s[0].toNat : Int) == 34) = true := lq hq
    rw [if_pos (UInt8.toNat_inj.1 hq)] at hone
    have hlit := IU s W hs h0 hq _ rfl
    have HO := Lib.hid hone
    have HC := Lib.hid hcx
    have HD := Lib.hid hdx
    have HL := Lib.hid hlit
    clear hone hcx hdx hlit hl hd hq
    go_enter Tryz.func162, Tryz.ntmps162
    go_wp2_with fail
    rw [← hW]
    clear hW
    refine HC.out.mono ?_
    rintro e w' ⟨rfl, rfl⟩
    go_wp2_with fail
    refine HD.out.mono ?_
    rintro e w' ⟨rfl, rfl⟩
    go_wp2_with fail
    refine HL.out.mono ?_
    rintro e W2 ⟨rfl, hb2⟩
    have hlt : w.heap.size < W.heap.size := lt_of_block yB.out
    have HN2 := Lib.hid ((hb2.block _ hlt).trans yB.out)
    clear a0 a1 a2 a3 a4 af0 af1 af2 af3 af4
    obtain ⟨a0, a1, a2, a3, a4, af⟩ := jF HN2.out
    have af0 := af 0
    have af1 := af 1
    have af2 := af 2
    have af3 := af 3
    have af4 := af 4
    clear af
    go_wp2
    obtain ⟨e1, e2⟩ := ku (HB.out.trans (hb2.mono (Nat.le_of_lt hlt))) HN2.out rfl
    refine kz rfl rfl rfl rfl e1 ⟨_, _, _, _, _, rfl, e2, ?_⟩
    exact JZ (by rw [← List.drop_one]; exact HO.out)
   ·have q34 : ((s[0].toNat : Int) == 34) = false := eP hq
    rw [if_neg (fun e => hq (by rw [e]; rfl))] at hone
    have hix := sym_index ⟨s[0].toNat, s[0].toNat_lt⟩
    simp only at hix
    rw [show UInt8.ofNat s[0].toNat = s[0] by simp] at hix
    have hic := Tryz.strings_IndexByte ⟨#[123, 125, 40, 41, 91, 93, 44, 59, 58, 61, 47, 43, 45, 60, 62, 124, 38, 42]⟩ s[0].toNat W
    generalize hz : Lib.indexByte (⟨#[123, 125, 40, 41, 91, 93, 44, 59, 58, 61, 47, 43, 45, 60, 62, 124, 38, 42]⟩ : ByteArray).data.toList ((s[0].toNat : Int).toNat.toUInt8) = z at hic
    have hix : decide (0 ≤ z) = decide (s[0] ∈ Fe) := by rw [← hz]; exact hix
    have HC := Lib.hid hcx
    have HD := Lib.hid hdx
    have HI := Lib.hid hic
    clear hcx hdx hic hz hl hd hq
    by_cases hsy : s[0] ∈ Fe
    ·rw [if_pos hsy] at hone
     have hz : 0 ≤ z := by simpa [hsy] using hix
     have HO := Lib.hid hone
     have h1 : (1 : Int) ≤ (s.size : Int) := by omega
     clear hone hix hsy
     go_enter Tryz.func162, Tryz.ntmps162
     go_wp2_with fail
     rw [← hW]
     clear hW
     refine HC.out.mono ?_
     rintro e w' ⟨rfl, rfl⟩
     go_wp2_with fail
     refine HD.out.mono ?_
     rintro e w' ⟨rfl, rfl⟩
     go_wp2_with fail
     refine HI.out.mono ?_
     rintro e w' ⟨rfl, hw'⟩
     subst hw'
     go_wp2
     obtain ⟨e1, e2⟩ := ku HB.out yB.out rfl
     refine kz rfl rfl rfl rfl e1 ⟨_, _, _, _, _, rfl, e2, ?_⟩
     have e3 : s.extract 0 1 = bs [s[0]] := by
      rw [pY, show s.data.toList = s[0] :: s.data.toList.drop 1 from cB s 0 h0]; rfl
     rw [e3]
     exact mo HO.out
    ·rw [if_neg hsy] at hone
     have hz : ¬ 0 ≤ z := by simpa [hsy] using hix
     have HO := Lib.hid hone
     clear hone hix hsy
     go_enter Tryz.func162, Tryz.ntmps162
     go_wp2_with fail
     rw [← hW]
     clear hW
     refine HC.out.mono ?_
     rintro e w' ⟨rfl, rfl⟩
     go_wp2_with fail
     refine HD.out.mono ?_
     rintro e w' ⟨rfl, rfl⟩
     go_wp2_with fail
     refine HI.out.mono ?_
     rintro e w' ⟨rfl, hw'⟩
     subst hw'
     go_wp2
     obtain ⟨e1, e2⟩ := ku HB.out yB.out rfl
     refine kz rfl rfl rfl rfl e1 ⟨_, _, _, _, _, rfl, e2, ?_⟩
     exact mq HO.out _ _ _ _
  ·rw [hd] at hdx hone
   rw [if_pos rfl] at hone
   have hpre := sJ s 170 (enters_of Tryz.func170 (by kernel_rfl) rfl) isDigit (fun c w _ => uO c w) W hs
   have hple := xU isDigit s.data.toList
   have hlen : s.data.toList.length = s.size := by simp
   have hpp : 0 < pre isDigit s.data.toList := by
    rw [show s.data.toList = s[0] :: s.data.toList.drop 1 from cB s 0 h0]
    exact Dr _ _ _ hd
   have hdig := pre_digit s.data.toList
   generalize hn : pre isDigit s.data.toList = n at hpre hone hple hpp hdig
   rw [hlen] at hple
   have hex := pY s n
   have hesz : (s.extract 0 n).size = n := by simp; omega
   have hnum := DT (s.extract 0 n) W (by omega) (fun k hk => by
    have hkn : k < n := by omega
    have := hdig k hkn (by omega)
    have h5 : (s.extract 0 n)[k] = s.data.toList[k]'(by omega) := by simp [ByteArray.getElem_extract]; rfl
    rw [h5]; exact this) (by omega)
   have hed : (s.extract 0 n).data.toList = s.data.toList.take n := by simp
   rw [hed] at hnum
   obtain ⟨hy, hno⟩ := next_num hpp (by omega) hone
   have HC := Lib.hid hcx
   have HD := Lib.hid hdx
   have HP := Lib.hid hpre
   have hnI : (n : Int) ≤ (s.size : Int) := by omega
   cases hok : uH (s.data.toList.take n)
   ·rw [hok] at hnum
    have HN := Lib.hid hnum
    have HO := Lib.hid (hno hok)
    clear hcx hdx hpre hnum hno hy hok hed hex hdig hone hl hd hn hlen hesz
    go_enter Tryz.func162, Tryz.ntmps162
    go_wp2_with fail
    rw [← hW]
    clear hW
    refine HC.out.mono ?_
    rintro e w' ⟨rfl, rfl⟩
    go_wp2_with fail
    refine HD.out.mono ?_
    rintro e w' ⟨rfl, rfl⟩
    go_wp2_with fail
    refine HP.out.mono ?_
    rintro e w' ⟨rfl, rfl⟩
    go_wp2_with fail
    refine HN.out.mono ?_
    rintro e w' ⟨rfl, rfl⟩
    go_wp2
    obtain ⟨e1, e2⟩ := ku HB.out yB.out rfl
    refine kz rfl rfl rfl rfl e1 ⟨_, _, _, _, _, rfl, e2, ?_⟩
    exact mq HO.out _ _ _ _
   ·rw [hok] at hnum
    have HN := Lib.hid hnum
    have HO := Lib.hid (hy hok)
    clear hcx hdx hpre hnum hno hy hok hed hex hdig hone hl hd hn hlen hesz
    go_enter Tryz.func162, Tryz.ntmps162
    go_wp2_with fail
    rw [← hW]
    clear hW
    refine HC.out.mono ?_
    rintro e w' ⟨rfl, rfl⟩
    go_wp2_with fail
    refine HD.out.mono ?_
    rintro e w' ⟨rfl, rfl⟩
    go_wp2_with fail
    refine HP.out.mono ?_
    rintro e w' ⟨rfl, rfl⟩
    go_wp2_with fail
    refine HN.out.mono ?_
    rintro e w' ⟨rfl, rfl⟩
    go_wp2
    obtain ⟨e1, e2⟩ := ku HB.out yB.out rfl
    refine kz rfl rfl rfl rfl e1 ⟨_, _, _, _, _, rfl, e2, ?_⟩
    exact HO.out
 ·rw [hl] at hcx hone
  rw [if_pos rfl] at hone
  have hpre := sJ s 157 (enters_of Tryz.func157 (by kernel_rfl) rfl) cu (fun c w _ => wP c w) W hs
  have hple := xU cu s.data.toList
  have hlen : s.data.toList.length = s.size := by simp
  generalize hn : pre cu s.data.toList = n at hpre hone hple
  rw [hlen] at hple
  have HC := Lib.hid hcx
  have HP := Lib.hid hpre
  have hnI : (n : Int) ≤ (s.size : Int) := by omega
  by_cases h24 : 24 < n
  ·rw [if_pos h24] at hone
   have HO := Lib.hid hone
   clear hcx hdx hpre hone hl hn hlen
   go_enter Tryz.func162, Tryz.ntmps162
   go_wp2_with fail
   rw [← hW]
   clear hW
   refine HC.out.mono ?_
   rintro e w' ⟨rfl, rfl⟩
   go_wp2_with fail
   refine HP.out.mono ?_
   rintro e w' ⟨rfl, rfl⟩
   go_wp2
   obtain ⟨e1, e2⟩ := ku HB.out yB.out rfl
   refine kz rfl rfl rfl rfl e1 ⟨_, _, _, _, _, rfl, e2, ?_⟩
   exact mq HO.out _ _ _ _
  ·rw [if_neg h24] at hone
   have HO := Lib.hid hone
   clear hcx hdx hpre hone hl hn hlen
   go_enter Tryz.func162, Tryz.ntmps162
   go_wp2_with fail
   rw [← hW]
   clear hW
   refine HC.out.mono ?_
   rintro e w' ⟨rfl, rfl⟩
   go_wp2_with fail
   refine HP.out.mono ?_
   rintro e w' ⟨rfl, rfl⟩
   go_wp2
   obtain ⟨e1, e2⟩ := ku HB.out yB.out rfl
   refine kz rfl rfl rfl rfl e1 ⟨_, _, _, _, _, rfl, e2, ?_⟩
   rw [pY]
   exact mo HO.out
end Go.Proofs.YtbmglebipepdmaaGreatDoor
namespace Go.Proofs.YtbmglebipepdmaaGreatDoor
open Go.RowKit

theorem Bn (l : List UInt8) : (Lib.indexByte l 10 = -1 ∧ ko l = []) ∨ ∃ k : Nat, Lib.indexByte l 10 = k ∧ k ≤ l.length ∧ ko l = l.drop k ∧ (∀ c, l.head? = some c → c ≠ 10 → 0 < k) := by
 induction l with
 |nil => exact Or.inl ⟨rfl, rfl⟩
 |cons c r ih =>
  by_cases h : c = 10
  ·subst h
   exact Or.inr ⟨0, rfl, Nat.zero_le _, rfl, fun c h1 h2 => absurd (by simpa using h1.symm) h2⟩
  ·rw [nD c r h]
   have hb : (c == 10) = false := by simpa using h
   rcases ih with ⟨h1, h2⟩ | ⟨k, h1, h2, h3, -⟩
   ·exact Or.inl ⟨by rw [Lib.indexByte, hb, h1]; rfl, h2⟩
   ·refine Or.inr ⟨k + 1, ?_, by simpa using h2, by rw [h3]; rfl, fun _ _ _ => Nat.succ_pos _⟩
    rw [Lib.indexByte, hb, h1]
    have : ((k : Int) == -1) = false := by rw [beq_eq_false_iff_ne]; omega
    simp [this]
theorem Eg (s : ByteArray) (n : Nat) : (s.extract n s.size).data.toList = s.data.toList.drop n := by simp [List.take_of_length_le]
theorem Jo (s : ByteArray) (h : 0 < s.size) : Lib.hasPrefix s.data.toList [47, 47] = decide (s[0] = 47 ∧ (s.data.toList.drop 1).head? = some 47) := by
 have e : s.data.toList = s[0] :: s.data.toList.drop 1 := cB s 0 h
 generalize s[0] = c at e ⊢
 generalize s.data.toList.drop 1 = r at e ⊢
 rw [e]
 unfold Lib.hasPrefix
 cases r with
 |nil => simp [List.isPrefixOf]
 |cons d r =>
  have h1 : ((47 : UInt8) == c) = decide (c = 47) := by rw [Bool.eq_iff_iff, beq_iff_eq, decide_eq_true_iff]; exact eq_comm
  have h2 : ((47 : UInt8) == d) = decide (d = 47) := by rw [Bool.eq_iff_iff, beq_iff_eq, decide_eq_true_iff]; exact eq_comm
  simp [List.isPrefixOf, h1, h2]
theorem ig (w : World) (o : Obj) : (w.alloc o).heap.size = w.heap.size + 1 := by simp
theorem vM {l : List UInt8} {k v : Int} {x y : ByteArray} (h : qX l k x v y 0) : gZ l = none := by
 unfold qX at h
 cases e : gZ l with
 |none => rfl
 |some p =>
  obtain ⟨t, m⟩ := p
  rw [e] at h
  have := xB _ _ _ e
  have h1 : (0 : Nat) = m := h.1
  omega
theorem yK {l : List UInt8} {k v : Int} {x y : ByteArray} {n : Nat} (h : qX l k x v y n) (hn : n ≠ 0) : ∃ t : Tok, gZ l = some (t, n) ∧ k = t.kind ∧ x = t.text ∧ v = t.int ∧ y = t.str := by
 unfold qX at h
 cases e : gZ l with
 |none => rw [e] at h; exact absurd h hn
 |some p =>
  obtain ⟨t, m⟩ := p
  rw [e] at h
  obtain ⟨rfl, h⟩ := h
  exact ⟨t, rfl, h⟩
theorem litGo_le (f : Nat) : ∀ (r acc : List UInt8) (n : Nat) (v : List UInt8) (k : Nat), pQ f r acc n = some (v, k) → k ≤ n + r.length := by
 induction f with
 |zero => intro r acc n v k h; simp [pQ] at h
 |succ f ih =>
  intro r acc n v k h
  match r with
  |[] => simp [pQ] at h
  |c :: r =>
   rw [pQ] at h
   split at h
   ·simp at h; simp; omega
   ·split at h
    ·simp at h
    ·split at h
     ·split at h
      ·simp at h
      ·rename_i x j e
       have h1 := ih _ _ _ _ _ h
       have h2 := esc_le r
       have h3 : iN r = j := by unfold iN; rw [e]
       simp at h1 ⊢; omega
     ·have := ih _ _ _ _ _ h; simp; omega
theorem vR (l : List UInt8) (t : Tok) (n : Nat) (h : gZ l = some (t, n)) : n ≤ l.length := by
 match l with
 |[] => simp [gZ] at h
 |c :: r =>
  rw [gZ] at h
  split at h
  ·split at h
   ·simp at h
   ·simp only [Option.some.injEq, Prod.mk.injEq] at h
    rw [← h.2]; exact xU _ _
  ·split at h
   ·split at h
    ·simp at h
    ·simp only [Option.some.injEq, Prod.mk.injEq] at h
     rw [← h.2]; exact xU _ _
   ·split at h
    ·split at h
     ·simp at h
     ·rename_i v k e
      simp only [Option.some.injEq, Prod.mk.injEq] at h
      have := litGo_le _ _ _ _ _ _ e
      simp; omega
    ·split at h
     ·simp only [Option.some.injEq, Prod.mk.injEq] at h; simp; omega
     ·simp at h

def KPost (s : ByteArray) (w : World) (e : Ending) (w' : World) : Prop :=
 Below w.heap.size w w' ∧ (if 65536 < s.size then e = .returned (.tuple #[.slice none 0 0, .int .i64 0, .int .i64 3])
  else if (lex s.data.toList 1 []).2.2 ≠ 0 then e = .returned (.tuple #[.slice none 0 0, .int .i64 (lex s.data.toList 1 []).2.1, .int .i64 (lex s.data.toList 1 []).2.2])
  else ∃ A c, e = .returned (.tuple #[.slice A (lex s.data.toList 1 []).1.length c, .int .i64 0, .int .i64 0]) ∧ (lex s.data.toList 1 []).1.length ≤ c ∧ aL w' (w.heap.size ≤ ·) 5 A (lex s.data.toList 1 []).1.length (jw (lex s.data.toList 1 []).1) ∧ (lex s.data.toList 1 []).1.length ≤ s.size)
theorem vS {s : ByteArray} {w w' : World} {line : Nat} (h : ¬ 65536 < s.size) (hb : Below w.heap.size w w') (he : lex s.data.toList 1 [] = ([], line, 2)) : KPost s w (.returned (.tuple #[.slice none 0 0, .int .i64 line, .int .i64 2])) w' := by
 refine ⟨hb, ?_⟩
 rw [if_neg h, he, if_pos (by simp)]; rfl
theorem J9 {s : ByteArray} {w w' : World} {acc : aW} {A : Option Addr} {c : Nat} (h : ¬ 65536 < s.size) (hb : Below w.heap.size w w') (he : lex s.data.toList 1 [] = (acc, 0, 0)) (hc : acc.length ≤ c) (hs : aL w' (w.heap.size ≤ ·) 5 A acc.length (jw acc)) (hl : acc.length ≤ s.size) : KPost s w (.returned (.tuple #[.slice A acc.length c, .int .i64 0, .int .i64 0])) w' := by
 refine ⟨hb, ?_⟩
 rw [if_neg h, he, if_neg (by simp)]
 exact ⟨A, c, rfl, hc, hs, hl⟩

structure KInv (s : ByteArray) (w : World) (rest : ByteArray) (v : Value) (line : Nat) (acc : aW) (wr : World) : Prop where
 lx : lex s.data.toList 1 [] = lex rest.data.toList line acc
 own : wr.ownsRow w.heap.size 105 5 v acc.length (jw acc)
 blw : Below w.heap.size w wr
 len : acc.length + rest.size ≤ s.size
 lin : line + rest.size ≤ s.size + 1

set_option maxRecDepth 100000 in
set_option maxHeartbeats 4000000 in
theorem KO (s : ByteArray) (w : World) : Calls Tryz.prog 146 #[.string s] w (KPost s w) := by
 by_cases hs : 65536 < s.size
 ·go_enter Tryz.func146, Tryz.ntmps146
  go_wp2
  (try simp only [Exit.inBlock, Exit.then])
  refine bodyPost_ret (results_tmp3 rfl _ _ _) rfl ?_
  refine ⟨Below.refl _ _, ?_⟩
  rw [if_pos hs]; rfl
 ·go_enter Tryz.func146, Tryz.ntmps146
  go_wp2
  go_loopw [0, 5, 6] (fun x0 x5 x6 wr => ∃ (rest : ByteArray) (line : Nat) (acc : aW), x0 = .string rest ∧ x6 = .int .i64 line ∧ KInv s w rest x5 line acc wr) (fun x0 _ _ _ => match x0 with | .string r => r.size | _ => 0)
  case atStart => exact ⟨s, 1, [], rfl, rfl, rfl, World.ownsRow_nil _ _ _ _, Below.refl _ _, by simp, by omega⟩
  case round =>
   obtain ⟨rest, line, acc, rfl, rfl, hi⟩ := hrel
   have hlen := hi.len
   have hlin := hi.lin
   have hsz := hi.blw.size
   by_cases h0 : rest.size = 0
   ·obtain rfl : rest = ⟨#[]⟩ := by
     have : rest.data.toList = [] := List.length_eq_zero_iff.1 (by simpa using h0)
     rw [← dS rest, this]; rfl
    obtain ⟨A, c, rfl, hc⟩ := aS hi.own
    have HI := Lib.hid hi
    clear hi
    go_wp2
    refine bodyPost_ret (results_tmp3 rfl _ _ _) rfl ?_
    exact J9 hs HI.out.blw (by rw [HI.out.lx]; rfl) hc (aL.own HI.out.own) (by omega)
   ·have hp : 0 < rest.size := by omega
    have hne2 := gT hp
    have hne := bP hp
    have tN : rest.data.toList = rest[0] :: rest.data.toList.drop 1 := cB rest 0 hp
    have hsp := Fh rest[0].toNat rest[0].toNat_lt wr
    have HI := Lib.hid hi
    clear hi h0
    cases hw : fG rest[0].toNat
    ·rw [hw] at hsp
     have hpf := Tryz.strings_HasPrefix rest ⟨#[47, 47]⟩ wr
     have hci := Jo rest hp
     rw [show (⟨#[47, 47]⟩ : ByteArray).data.toList = [47, 47] from rfl] at hpf
     by_cases hcm : rest[0] = 47 ∧ (rest.data.toList.drop 1).head? = some 47
     ·rw [hci, decide_eq_true hcm] at hpf
      have hlx := zW rest[0] (rest.data.toList.drop 1) line acc hw hcm
      rw [← tN] at hlx
      have hix := Tryz.strings_IndexByte rest 10 wr
      rw [show (10 : Int).toNat.toUInt8 = 10 from rfl] at hix
      have HLX := Lib.hid hlx
      have HSP := Lib.hid hsp
      have HPF := Lib.hid hpf
      rcases Bn rest.data.toList with ⟨h1, h2⟩ | ⟨k, h1, h2, h3, h4⟩
      ·rw [h1] at hix
       have HIX := Lib.hid hix
       have H2 := Lib.hid h2
       clear hix h1 h2 hsp hpf hlx hci hcm hw tN
       go_wp2_with fail
       refine HSP.out.mono ?_
       rintro e w' ⟨rfl, rfl⟩
       go_wp2_with fail
       refine HPF.out.mono ?_
       rintro e w' ⟨rfl, hw'⟩
       subst hw'
       go_wp2_with fail
       refine HIX.out.mono ?_
       rintro e w' ⟨rfl, hw'⟩
       subst hw'
       go_wp2
       go_roundw
       case rel =>
        refine ⟨_, line, acc, rfl, rfl, ⟨?_, HI.out.own, HI.out.blw, ?_, ?_⟩⟩
        ·rw [HI.out.lx, HLX.out, H2.out]; rfl
        ·simp; omega
        ·simp; omega
       case measure => simp; omega
      ·rw [h1] at hix
       have HIX := Lib.hid hix
       have H3 := Lib.hid h3
       have hk : k ≤ rest.size := by simpa using h2
       have hk1 : 0 < k := h4 rest[0] (by rw [tN]; rfl) (fun e => by rw [e] at hw; exact absurd hw (by decide))
       have hkI : (k : Int) ≤ (rest.size : Int) := by omega
       clear hix h1 h2 h3 h4 hsp hpf hlx hci hcm hw tN
       go_wp2_with fail
       refine HSP.out.mono ?_
       rintro e w' ⟨rfl, rfl⟩
       go_wp2_with fail
       refine HPF.out.mono ?_
       rintro e w' ⟨rfl, hw'⟩
       subst hw'
       go_wp2_with fail
       refine HIX.out.mono ?_
       rintro e w' ⟨rfl, hw'⟩
       subst hw'
       go_wp2
       go_roundw
       case rel =>
        refine ⟨_, line, acc, rfl, rfl, ⟨?_, HI.out.own, HI.out.blw, ?_, ?_⟩⟩
        ·rw [HI.out.lx, HLX.out, H3.out, Eg]
        ·simp; omega
        ·simp; omega
       case measure => simp; omega
     ·rw [hci, decide_eq_false hcm] at hpf
      have hnx := next_any rest wr (by omega) hp
      have HSP := Lib.hid hsp
      have HPF := Lib.hid hpf
      have HNX := Lib.hid hnx
      have HCM := Lib.hid hcm
      have HW := Lib.hid hw
      have rz := Lib.hid tN
      clear hnx hsp hpf hci hcm hw tN
      go_wp2_with fail
      refine HSP.out.mono ?_
      rintro e w' ⟨rfl, rfl⟩
      go_wp2_with fail
      refine HPF.out.mono ?_
      rintro e w' ⟨rfl, hw'⟩
      subst hw'
      go_wp2_with fail
      refine HNX.out.mono ?_
      rintro e W2 ⟨tk, tx, tv, ty, n, rfl, hb2, hok⟩
      have hs2 := hb2.size
      by_cases hz : n = 0
      ·subst hz
       have HOK := Lib.hid (vM hok)
       clear hok
       go_wp2
       refine bodyPost_ret (results_tmp3 rfl _ _ _) rfl ?_
       have h9 := yM rest[0] (rest.data.toList.drop 1) line acc HW.out HCM.out (by rw [← rz.out]; exact HOK.out)
       rw [← rz.out] at h9
       exact vS hs ((HI.out.blw.trans (hb2.mono hsz)).trans (((Below.refl _ _).alloc (Nat.le_refl _) _).mono (by omega))) (HI.out.lx.trans h9)
      ·obtain ⟨t, ht, rfl, rfl, rfl, rfl⟩ := yK hok hz
       have hle := vR _ _ _ ht
       rw [show rest.data.toList.length = rest.size by simp] at hle
       have hzI : ((n : Int) == 0) = false := eP hz
       have hnI : (n : Int) ≤ (rest.size : Int) := by omega
       have HT := Lib.hid ht
       have hown2 := own_below HI.out.own hb2 (Nat.le_refl _)
       obtain ⟨Av, cv, rfl, hcv⟩ := aS hown2
       clear hok ht
       have hown3 := own_below hown2 ((Below.refl _ _).alloc (Nat.le_refl _) (.cells #[.int .i64 t.kind, .string t.text, .int .i64 t.int, .string t.str, .int .i64 line] 105)) (Nat.le_refl _)
       go_wp2_with (at_builtin; refine yF (W2.alloc (.cells #[.int .i64 t.kind, .string t.text, .int .i64 t.int, .string t.str, .int .i64 line] 105)) rfl (.tmp 26) (.tmp 28) rfl w.heap.size _ _ _ hown3 rfl (t.kind : Int) t.text (t.int : Int) t.str (line : Int) (by rw [ig]; rfl) (by omega) (by rw [ig]; omega) ?_; intro v' W3 ic hg4 hv4; have HG4 := Lib.hid hg4; have HO3 := Lib.hid hown3; clear hown3 hv4 hg4)
       go_roundw
       case rel =>
        refine ⟨_, line, acc ++ [(t, line)], rfl, rfl, ⟨?_, ?_, ?_, ?_, ?_⟩⟩
        ·have h9 := nM rest[0] (rest.data.toList.drop 1) line acc t n HW.out HCM.out (by rw [← rz.out]; exact HT.out)
         rw [← rz.out] at h9
         rw [HI.out.lx, h9, Eg]
        ·rw [oD, List.length_append]; exact ic
        ·exact (HI.out.blw.trans (hb2.mono hsz)).trans ((((Below.refl _ _).alloc (Nat.le_refl _) _).mono (by omega)).trans (aM HO3.out HG4.out (by simp; omega)))
        ·simp; omega
        ·simp; omega
       case measure => simp; omega
    ·rw [hw] at hsp
     have hpre := sJ rest 158 (enters_of Tryz.func158 (by kernel_rfl) rfl) fG (fun c w h => Fh c h w) wr (by omega)
     have hple := xU fG rest.data.toList
     have hpp : 0 < pre fG rest.data.toList := by
      rw [tN]; exact Dr _ _ _ hw
     have hlx := Lv rest.data.toList line acc
     generalize hn : pre fG rest.data.toList = n at hpre hple hpp hlx
     rw [show rest.data.toList.length = rest.size by simp] at hple
     have hcnt := Tryz.strings_Count_one (rest.extract 0 n) 10 wr
     have hed : (rest.extract 0 n).data.toList = rest.data.toList.take n := by simp
     rw [hed] at hcnt
     have hfe : Lib.countByte (rest.data.toList.take n) 10 = feeds (rest.data.toList.take n) := rfl
     rw [hfe] at hcnt
     have hfl : feeds (rest.data.toList.take n) ≤ n := by
      have h1 : feeds (rest.data.toList.take n) ≤ (rest.data.toList.take n).length := List.count_le_length
      rw [List.length_take] at h1; omega
     generalize hf : feeds (rest.data.toList.take n) = k at hcnt hlx hfl
     have HSP := Lib.hid hsp
     have HP := Lib.hid hpre
     have HC := Lib.hid hcnt
     have HLX := Lib.hid hlx
     have hnI : (n : Int) ≤ (rest.size : Int) := by omega
     clear hsp hpre hcnt hlx hn hf hfe hed hw tN
     go_wp2_with fail
     refine HSP.out.mono ?_
     rintro e w' ⟨rfl, rfl⟩
     go_wp2_with fail
     refine HP.out.mono ?_
     rintro e w' ⟨rfl, rfl⟩
     go_wp2_with fail
     refine HC.out.mono ?_
     rintro e w' ⟨rfl, hw'⟩
     subst hw'
     go_wp2
     go_roundw
     case rel =>
      refine ⟨_, line + k, acc, rfl, ?_, ⟨?_, HI.out.own, HI.out.blw, ?_, ?_⟩⟩
      ·congr 1
      ·rw [HI.out.lx, HLX.out, Eg]
      ·simp; omega
      ·simp; omega
     case measure => simp; omega
end Go.Proofs.YtbmglebipepdmaaGreatDoor
