/- The contracts of the reference mM tests on bytes and of its IsName. The contracts of the reference mM functions char, str and integer. The contracts of the reference mM functions str (at a text that begins with a quotation mark) and integer (at a text that begins with a digit). The contract of the reference mM function token. The contract of the reference mM function Tokens. -/
import Derived.Test.YtbmglebipepdmaaGreatDoorPkLex
import Derived.Lib.SlBytesConst
import Derived.Laws.IdiomStrings
import Derived.Laws.BytesString
namespace Go.Proofs.YtbmglebipepdmaaGreatDoor
open Go.RowKit

set_option maxHeartbeats 1000000 in
theorem nH (c : Nat) (w : World) : Calls Tryz.prog 136 #[.int .u8 c] w fun e w' => e = .returned (.bool (dX c)) ∧ w = w' := by
 have key : ∀ r : Bool, (r = true ↔ (c = 95 ∨ (65 ≤ c ∧ c ≤ 90) ∨ (97 ≤ c ∧ c ≤ 122))) → r = dX c := by
  intro r h
  rw [Bool.eq_iff_iff, h]
  simp [dX]
  try omega
 have HK := Lib.hid key
 clear key
 by_cases h1 : c = 95
 ·subst h1
  go_enter Tryz.func136, Tryz.ntmps136
  go_wp2
  go_ret
  exact ⟨congrArg (fun b => Ending.returned (.bool b)) (HK.out true (by simp)), rfl⟩
 ·have q1 : ((c : Int) == 95) = false := eP h1
  have H1 := Lib.hid h1
  clear h1
  go_enter Tryz.func136, Tryz.ntmps136
  go_wp2
  all_goals go_ret
  all_goals refine ⟨congrArg (fun b => Ending.returned (.bool b)) (HK.out _ ?_), rfl⟩
  all_goals have h1 := H1.out
  all_goals simp
  all_goals omega

set_option maxHeartbeats 1000000 in
theorem nV (c : Nat) (w : World) : Calls Tryz.prog 137 #[.int .u8 c] w fun e w' => e = .returned (.bool (isDigit c)) ∧ w = w' := by
 have key : ∀ r : Bool, (r = true ↔ (48 ≤ c ∧ c ≤ 57)) → r = isDigit c := by
  intro r h
  rw [Bool.eq_iff_iff, h]
  simp [isDigit]
  try omega
 have HK := Lib.hid key
 clear key
 go_enter Tryz.func137, Tryz.ntmps137
 go_wp2
 all_goals go_ret
 all_goals refine ⟨congrArg (fun b => Ending.returned (.bool b)) (HK.out _ ?_), rfl⟩
 all_goals simp
 all_goals omega

set_option maxHeartbeats 1000000 in
theorem white_ref (c : Nat) (w : World) : Calls Tryz.prog 108 #[.int .u8 c] w fun e w' => e = .returned (.bool (fG c)) ∧ w = w' := by
 have e : fG c = ((((c : Int) == 32) || ((c : Int) == 9)) || ((c : Int) == 13) || ((c : Int) == 10)) := by
  unfold fG
  rw [show ((c : Int) == 32) = (c == 32) from zP c 32, show ((c : Int) == 9) = (c == 9) from zP c 9, show ((c : Int) == 13) = (c == 13) from zP c 13, show ((c : Int) == 10) = (c == 10) from zP c 10]
 have HE := Lib.hid e
 clear e
 cases q1 : ((c : Int) == 32) <;> cases q2 : ((c : Int) == 9) <;> cases q3 : ((c : Int) == 13) <;> cases q4 : ((c : Int) == 10)
 all_goals
  have E := Lib.hid (HE.out.trans (by rw [q1, q2, q3, q4]))
  go_enter Tryz.func108, Tryz.ntmps108
  go_wp2
  go_ret
  exact ⟨congrArg (fun b => Ending.returned (.bool b)) E.out.symm, rfl⟩

def digs : ByteArray := ⟨#[48, 49, 50, 51, 52, 53, 54, 55, 56, 57, 97, 98, 99, 100, 101, 102]⟩
def xZ (c : Nat) : Int := match D5 c with | some v => v | none => -1
theorem hexI_at : ∀ (c : Fin 256) (k : Fin 16), (digs.data.toList.getD k.1 0).toNat = c.1 → xZ c.1 = k.1 := by decide +kernel
theorem hexI_none : ∀ c : Fin 256, (∀ k : Fin 16, (digs.data.toList.getD k.1 0).toNat ≠ c.1) → xZ c.1 = -1 := by decide +kernel
set_option maxHeartbeats 1000000 in
theorem rW (c : Nat) (hc : c < 256) (w : World) : Calls Tryz.prog 169 #[.int .u8 c] w fun e w' => e = .returned (.int .i64 (xZ c)) ∧ w = w' := by
 have HC := Lib.hid hc
 clear hc
 go_enter Tryz.func169, Tryz.ntmps169
 go_wp2
 go_loop [3] (fun x => ∃ k : Nat, k ≤ 16 ∧ x = .int .i64 k ∧ Hid (∀ j, j < k → (digs.data.toList.getD j 0).toNat ≠ c)) (fun x => 16 - (intOf x).toNat)
 case atStart => exact ⟨0, by decide, rfl, fun j hj => absurd hj (by omega)⟩
 case round =>
  obtain ⟨k, hk, rfl, hno⟩ := hrel
  by_cases hlt : k < 16
  ·have hkI : (k : Int) < 16 := by omega
   have hsz : (k : Int) < ((⟨#[48, 49, 50, 51, 52, 53, 54, 55, 56, 57, 97, 98, 99, 100, 101, 102]⟩ : ByteArray).size : Int) := by show (k : Int) < 16; omega
   have hk0 : (0 : Int) ≤ (k : Int) := by omega
   have hsz2 : k < digs.size := hlt
   by_cases hq : digs[k].toNat = c
   ·have e : xZ c = k := hexI_at ⟨c, HC.out⟩ ⟨k, hlt⟩ (by
     show (digs.data.toList.getD k 0).toNat = c
     rw [List.getD_eq_getElem?_getD, List.getElem?_eq_getElem (by simpa using hsz2)]; exact hq)
    have E := Lib.hid e
    have q : (((⟨#[48, 49, 50, 51, 52, 53, 54, 55, 56, 57, 97, 98, 99, 100, 101, 102]⟩ : ByteArray)[k]'hsz2).toNat : Int) == (c : Int) := lq hq
    clear e hq
    go_wp2
    go_ret
    exact ⟨by rw [E.out]; rfl, rfl⟩
   ·have q : ((((⟨#[48, 49, 50, 51, 52, 53, 54, 55, 56, 57, 97, 98, 99, 100, 101, 102]⟩ : ByteArray)[k]'hsz2).toNat : Int) == (c : Int)) = false := eP hq
    have HQ := Lib.hid hq
    clear hq
    go_wp2
    go_round
    case rel =>
     refine ⟨k + 1, by omega, by go_num, fun j hj => ?_⟩
     rcases Nat.lt_or_ge j k with h | h
     ·exact hno.out j h
     ·obtain rfl : j = k := by omega
      rw [List.getD_eq_getElem?_getD, List.getElem?_eq_getElem (by simpa using hsz2)]; exact HQ.out
    case measure => simp [intOf]; omega
  ·obtain rfl : k = 16 := by omega
   have e : xZ c = -1 := hexI_none ⟨c, HC.out⟩ (fun k => hno.out k.1 k.2)
   have E := Lib.hid e
   clear e hno
   go_wp2
   go_ret
   exact ⟨by rw [E.out]; rfl, rfl⟩
end Go.Proofs.YtbmglebipepdmaaGreatDoor
namespace Go.Proofs.YtbmglebipepdmaaGreatDoor
open Go.RowKit

def jq (l : List UInt8) : Option (UInt8 × Nat) := match l with
 |[] => none
 |c :: r => if c = 34 then none else if c.toNat < 32 ∨ 126 < c.toNat then none else if c = 92 then (match esc r with | none => none | some (x, k) => some (x, k + 1)) else some (c, 1)
def qP (l : List UInt8) : Nat := match jq l with | some (x, _) => x.toNat | none => 0
def uR (l : List UInt8) : Nat := match jq l with | some (_, n) => n | none => 0
theorem AA {l : List UInt8} {x : UInt8} {n : Nat} (h : jq l = some (x, n)) : qP l = x.toNat ∧ uR l = n := by unfold qP uR; rw [h]; exact ⟨rfl, rfl⟩
theorem AB {l : List UInt8} (h : jq l = none) : qP l = 0 ∧ uR l = 0 := by unfold qP uR; rw [h]; exact ⟨rfl, rfl⟩
theorem lM (c : UInt8) (r : List UInt8) : jq (c :: r) = if c = 34 then none else if c.toNat < 32 ∨ 126 < c.toNat then none else if c = 92 then (match esc r with | none => none | some (x, k) => some (x, k + 1)) else some (c, 1) := rfl
theorem FW {c v : Nat} (h : D5 c = some v) : xZ c = v := by unfold xZ; rw [h]
theorem hexI_no {c : Nat} (h : D5 c = none) : xZ c = -1 := by unfold xZ; rw [h]
theorem hex_quiet (c : Nat) (hc : c < 256) (w : World) (k : Nat) : Calls Tryz.prog 169 #[.int .u8 c] (w.drewN k) fun e w'' => e = .returned (.int .i64 (xZ c)) ∧ ∃ m, w'' = w.drewN m :=
 (rW c hc _).mono fun _ _ h => ⟨h.1, k, h.2.symm⟩
set_option maxRecDepth 100000 in
set_option maxHeartbeats 4000000 in
theorem char_ref (s : ByteArray) (w : World) (h0 : 0 < s.size) (hs : s.size ≤ 1000000000) :
  Calls Tryz.prog 152 #[.string s] w fun e w' => e = .returned (.tuple #[.int .u8 (qP s.data.toList), .int .i64 (uR s.data.toList)]) ∧ ∃ q, w' = w.drewN q := by
 have hne2 := gT h0
 have hne := bP h0
 have tN : s.data.toList = s[0] :: s.data.toList.drop 1 := cB s 0 h0
 have no : jq s.data.toList = none → ∀ a b : Int, a = 0 → b = 0 → (Ending.returned (.tuple #[.int .u8 a, .int .i64 b])) = .returned (.tuple #[.int .u8 (qP s.data.toList), .int .i64 (uR s.data.toList)]) := by
  intro h a b ha hb
  rw [(AB h).1, (AB h).2, ha, hb]; rfl
 have yes : ∀ (x : UInt8) (n : Nat), jq s.data.toList = some (x, n) → ∀ a b : Int, a = x.toNat → b = n → (Ending.returned (.tuple #[.int .u8 a, .int .i64 b])) = .returned (.tuple #[.int .u8 (qP s.data.toList), .int .i64 (uR s.data.toList)]) := by
  intro x n h a b ha hb
  rw [(AA h).1, (AA h).2, ha, hb]
 have NO := Lib.hid no
 have YES := Lib.hid yes
 have HC := Lib.hid tN
 have HS := Lib.hid hs
 clear no yes tN hs
 have d0 : ∃ q, w = w.drewN q := ⟨0, rfl⟩
 by_cases h34 : s[0].toNat = 34
 ·have e : jq s.data.toList = none := by rw [HC.out, lM]; rw [if_pos (UInt8.toNat_inj.1 h34)]
  have q : ((s[0].toNat : Int) == 34) = true := lq h34
  have i1 : ¬ (s[0].toNat : Int) < 32 := by omega
  have i2 : ¬ (126 : Int) < (s[0].toNat : Int) := by omega
  have E := Lib.hid (NO.out e 0 0 rfl rfl)
  clear e h34
  go_enter Tryz.func152, Tryz.ntmps152
  go_wp2
  go_ret2
  exact ⟨E.out, d0⟩
 have n34 : ¬ s[0] = 34 := fun e => h34 (by rw [e]; rfl)
 have q34 : ((s[0].toNat : Int) == 34) = false := eP h34
 by_cases hr : s[0].toNat < 32 ∨ 126 < s[0].toNat
 ·have e : jq s.data.toList = none := by rw [HC.out, lM]; rw [if_neg n34, if_pos hr]
  have E := Lib.hid (NO.out e 0 0 rfl rfl)
  clear e
  rcases hr with hr | hr
  ·have i1 : (s[0].toNat : Int) < 32 := by omega
   clear h34 n34
   go_enter Tryz.func152, Tryz.ntmps152
   go_wp2
   go_ret2
   exact ⟨E.out, d0⟩
  ·have i1 : ¬ (s[0].toNat : Int) < 32 := by omega
   have i2 : (126 : Int) < (s[0].toNat : Int) := by omega
   clear h34 n34
   go_enter Tryz.func152, Tryz.ntmps152
   go_wp2
   go_ret2
   exact ⟨E.out, d0⟩
 have i1 : ¬ (s[0].toNat : Int) < 32 := by omega
 have i2 : ¬ (126 : Int) < (s[0].toNat : Int) := by omega
 by_cases h92 : ¬ s[0].toNat = 92
 ·have n92 : ¬ s[0] = 92 := fun e => h92 (by rw [e]; rfl)
  have e : jq s.data.toList = some (s[0], 1) := by rw [HC.out, lM]; rw [if_neg n34, if_neg hr, if_neg n92]
  have E := Lib.hid (YES.out _ _ e s[0].toNat 1 rfl rfl)
  have q : ((s[0].toNat : Int) == 92) = false := eP h92
  have q2 : ((s[0].toNat : Int) != 92) = true := gY h92
  clear e h34 n34 h92 n92 hr
  go_enter Tryz.func152, Tryz.ntmps152
  go_wp2
  go_ret2
  exact ⟨E.out, d0⟩
 have h92 : s[0].toNat = 92 := by omega
 have e92 : s[0] = 92 := UInt8.toNat_inj.1 h92
 have hE : jq s.data.toList = (match esc (s.data.toList.drop 1) with | none => none | some (x, k) => some (x, k + 1)) :=
  (congrArg jq HC.out).trans (by rw [lM, if_neg n34, if_neg hr, if_pos e92])
 have HE := Lib.hid hE
 have q92 : ((s[0].toNat : Int) == 92) = true := lq h92
 have q92b : ((s[0].toNat : Int) != 92) = false := by rw [h92]; rfl
 clear hE h34 n34 h92 e92 hr HC
 by_cases h1 : ¬ 1 < s.size
 ·have e : jq s.data.toList = none := by
   rw [HE.out, show s.data.toList.drop 1 = [] from List.drop_of_length_le (by simp; omega)]; rfl
  have E := Lib.hid (NO.out e 0 0 rfl rfl)
  have i3 : (s.size : Int) < 2 := by omega
  clear e
  go_enter Tryz.func152, Tryz.ntmps152
  go_wp2
  go_ret2
  exact ⟨E.out, d0⟩
 have h1 : 1 < s.size := by omega
 have i3 : ¬ (s.size : Int) < 2 := by omega
 have e1 : s.data.toList.drop 1 = s[1] :: s.data.toList.drop 2 := cB s 1 h1
 have HE1 := Lib.hid (HE.out.trans (by rw [e1]))
 clear e1 HE
 by_cases k34 : s[1].toNat = 34
 ·have q1 : ((s[1].toNat : Int) == 34) = true := lq k34
  have e : jq s.data.toList = some (s[1], 2) := by
   rw [HE1.out, kg, if_pos (Or.inl (UInt8.toNat_inj.1 k34))]
  have E := Lib.hid (YES.out _ _ e s[1].toNat 2 rfl rfl)
  clear e k34
  go_enter Tryz.func152, Tryz.ntmps152
  go_wp2
  go_ret2
  exact ⟨E.out, d0⟩
 have q1 : ((s[1].toNat : Int) == 34) = false := eP k34
 by_cases k92 : s[1].toNat = 92
 ·have q2 : ((s[1].toNat : Int) == 92) = true := lq k92
  have e : jq s.data.toList = some (s[1], 2) := by
   rw [HE1.out, kg, if_pos (Or.inr (UInt8.toNat_inj.1 k92))]
  have E := Lib.hid (YES.out _ _ e s[1].toNat 2 rfl rfl)
  clear e k92 k34
  go_enter Tryz.func152, Tryz.ntmps152
  go_wp2
  go_ret2
  exact ⟨E.out, d0⟩
 have q2 : ((s[1].toNat : Int) == 92) = false := eP k92
 have m1 : ¬ (s[1] = 34 ∨ s[1] = 92) := by
  rintro (e | e)
  ·exact k34 (by rw [e]; rfl)
  ·exact k92 (by rw [e]; rfl)
 by_cases k110 : s[1].toNat = 110
 ·have q3 : ((s[1].toNat : Int) == 110) = true := lq k110
  have e : jq s.data.toList = some (10, 2) := by
   rw [HE1.out, kg, if_neg m1, if_pos (UInt8.toNat_inj.1 k110)]
  have E := Lib.hid (YES.out _ _ e 10 2 rfl rfl)
  clear e k92 k34 k110 m1
  go_enter Tryz.func152, Tryz.ntmps152
  go_wp2
  go_ret2
  exact ⟨E.out, d0⟩
 have q3 : ((s[1].toNat : Int) == 110) = false := eP k110
 have m2 : ¬ s[1] = 110 := fun e => k110 (by rw [e]; rfl)
 by_cases k120 : ¬ s[1].toNat = 120
 ·have q4 : ((s[1].toNat : Int) == 120) = false := eP k120
  have e : jq s.data.toList = none := by
   rw [HE1.out, kg, if_neg m1, if_neg m2, if_neg (fun e => k120 (by rw [e]; rfl))]
  have E := Lib.hid (NO.out e 0 0 rfl rfl)
  clear e k92 k34 k110 k120 m1 m2
  go_enter Tryz.func152, Tryz.ntmps152
  go_wp2
  go_ret2
  exact ⟨E.out, d0⟩
 have k120 : s[1].toNat = 120 := by omega
 have q4 : ((s[1].toNat : Int) == 120) = true := lq k120
 have HE2 := Lib.hid (HE1.out.trans (by rw [kg, if_neg m1, if_neg m2, if_pos (UInt8.toNat_inj.1 k120)]))
 clear k92 k34 k110 k120 m1 m2 HE1
 by_cases h3 : ¬ 3 < s.size
 ·have e : jq s.data.toList = none := by
   rw [HE2.out]
   have hl : (s.data.toList.drop 2).length < 2 := by simp; omega
   match hd : s.data.toList.drop 2, hl with
   |[], _ => rfl
   |[_], _ => rfl
  have E := Lib.hid (NO.out e 0 0 rfl rfl)
  have i4 : (s.size : Int) < 4 := by omega
  have i5 : ¬ (4 : Int) ≤ (s.size : Int) := by omega
  clear e
  go_enter Tryz.func152, Tryz.ntmps152
  go_wp2
  go_ret2
  exact ⟨E.out, d0⟩
 have h3 : 3 < s.size := by omega
 have i4 : ¬ (s.size : Int) < 4 := by omega
 have i5 : (4 : Int) ≤ (s.size : Int) := by omega
 have e2 : s.data.toList.drop 2 = s[2] :: s[3] :: s.data.toList.drop 4 := by
  have a2 : s.data.toList.drop 2 = s[2] :: s.data.toList.drop 3 := cB s 2 (by omega)
  have a3 : s.data.toList.drop 3 = s[3] :: s.data.toList.drop 4 := cB s 3 h3
  rw [← a3]; exact a2
 have HE3 := Lib.hid (HE2.out.trans (by rw [e2]))
 clear e2 HE2
 have HX2 := Lib.hid (fun w => rW s[2].toNat s[2].toNat_lt w)
 have HX3 := Lib.hid (fun w => rW s[3].toNat s[3].toNat_lt w)
 cases hh2 : D5 s[2].toNat with
 |none =>
  have e : jq s.data.toList = none := by rw [HE3.out]; simp only [hh2]
  have E := Lib.hid (NO.out e 0 0 rfl rfl)
  have x2 := hexI_no hh2
  have HX := Lib.hid (fun w => (rW s[2].toNat s[2].toNat_lt w).mono (fun e w' (h : _ ∧ _) => (⟨by rw [h.1, x2], h.2⟩ : e = .returned (.int .i64 (-1)) ∧ w = w')))
  clear e x2 hh2
  go_enter Tryz.func152, Tryz.ntmps152
  go_wp2_with fail
  refine (HX.out _).mono ?_
  rintro e w' ⟨rfl, rfl⟩
  go_wp2
  go_ret2
  exact ⟨E.out, d0⟩
 |some v2 =>
  have x2 := FW hh2
  have l2 := DZ ⟨s[2].toNat, s[2].toNat_lt⟩ v2 hh2
  have HXa := Lib.hid (fun w => (rW s[2].toNat s[2].toNat_lt w).mono (fun e w' (h : _ ∧ _) => (⟨by rw [h.1, x2], h.2⟩ : e = .returned (.int .i64 (v2 : Int)) ∧ w = w')))
  have p2 : (0 : Int) ≤ (v2 : Int) := by omega
  cases hh3 : D5 s[3].toNat with
  |none =>
   have e : jq s.data.toList = none := by rw [HE3.out]; simp only [hh2, hh3]
   have E := Lib.hid (NO.out e 0 0 rfl rfl)
   have x3 := hexI_no hh3
   have HXb := Lib.hid (fun w => (rW s[3].toNat s[3].toNat_lt w).mono (fun e w' (h : _ ∧ _) => (⟨by rw [h.1, x3], h.2⟩ : e = .returned (.int .i64 (-1)) ∧ w = w')))
   clear e x2 x3 hh2 hh3
   go_enter Tryz.func152, Tryz.ntmps152
   go_wp2_with fail
   refine (HXa.out _).mono ?_
   rintro e w' ⟨rfl, rfl⟩
   go_wp2_with fail
   refine (HXb.out _).mono ?_
   rintro e w' ⟨rfl, rfl⟩
   go_wp2
   go_ret2
   exact ⟨E.out, d0⟩
  |some v3 =>
   have x3 := FW hh3
   have l3 := DZ ⟨s[3].toNat, s[3].toNat_lt⟩ v3 hh3
   have e : jq s.data.toList = some (UInt8.ofNat (16 * v2 + v3), 4) := by rw [HE3.out]; simp only [hh2, hh3]
   have E := Lib.hid (YES.out _ _ e (16 * xZ s[2].toNat + xZ s[3].toNat) 4 (by rw [x2, x3, UInt8.toNat_ofNat', Nat.mod_eq_of_lt (by omega)]; omega) rfl)
   have p2 : (0 : Int) ≤ xZ s[2].toNat := by omega
   have p3 : (0 : Int) ≤ xZ s[3].toNat := by omega
   have l2I : xZ s[2].toNat ≤ 15 := by omega
   have l3I : xZ s[3].toNat ≤ 15 := by omega
   clear e x2 x3 hh2 hh3 HXa HX2 HX3 l2 l3 HE3
   have hm1 : IntKind.i64.wrap (16 * xZ s[2].toNat) = 16 * xZ s[2].toNat := IntWalk.i64_in _ (by omega)
   have hm2 : IntKind.i64.wrap (16 * xZ s[2].toNat + xZ s[3].toNat) = 16 * xZ s[2].toNat + xZ s[3].toNat := IntWalk.i64_in _ (by omega)
   have hm3 : IntKind.u8.wrap (16 * xZ s[2].toNat + xZ s[3].toNat) = 16 * xZ s[2].toNat + xZ s[3].toNat := by unfold IntKind.wrap; simp [IntKind.signed, IntKind.bits]; omega
   have HM1 := Lib.hid hm1
   have HM2 := Lib.hid hm2
   have HM3 := Lib.hid hm3
   clear hm1 hm2 hm3
   go_enter Tryz.func152, Tryz.ntmps152
   go_wp2_with fail
   refine (rW _ (UInt8.toNat_lt _) _).mono ?_
   rintro e w' ⟨rfl, rfl⟩
   go_wp2_with fail
   refine (rW _ (UInt8.toNat_lt _) _).mono ?_
   rintro e w' ⟨rfl, rfl⟩
   go_wp2
   have hm1 := HM1.out
   have hm2 := HM2.out
   have hm3 := HM3.out
   go_quiet ((go_at_call 169; exact hex_quiet _ (UInt8.toNat_lt _) _ _))
   clear hm1 hm2 hm3
   go_wp2
   go_ret2
   exact ⟨E.out, _, rfl⟩
end Go.Proofs.YtbmglebipepdmaaGreatDoor
namespace Go.Proofs.YtbmglebipepdmaaGreatDoor
open Go.RowKit

theorem Lr (f : Nat) (c : UInt8) (r acc : List UInt8) (n : Nat) (h : c ≠ 34) :
  pQ (f + 1) (c :: r) acc n = match jq (c :: r) with | none => none | some (x, k) => pQ f ((c :: r).drop k) (acc ++ [x]) (n + k) := by
 rw [pQ, lM, if_neg h, if_neg h]
 by_cases h1 : c.toNat < 32 ∨ 126 < c.toNat
 ·rw [if_pos h1, if_pos h1]
 ·rw [if_neg h1, if_neg h1]
  by_cases h2 : c = 92
  ·rw [if_pos h2, if_pos h2]
   cases esc r with
   |none => rfl
   |some p =>
    obtain ⟨x, k⟩ := p
    simp only [List.drop_succ_cons]
    congr 1
    omega
  ·rw [if_neg h2, if_neg h2]; rfl
theorem GL {c : UInt8} {r : List UInt8} {x : UInt8} {n : Nat} (h : jq (c :: r) = some (x, n)) : 0 < n ∧ n ≤ r.length + 1 := by
 rw [lM] at h
 split at h
 ·simp at h
 ·split at h
  ·simp at h
  ·split at h
   ·split at h
    ·simp at h
    ·rename_i y k e
     simp only [Option.some.injEq, Prod.mk.injEq] at h
     have h2 := esc_le r
     have h3 : iN r = k := by unfold iN; rw [e]
     omega
   ·simp only [Option.some.injEq, Prod.mk.injEq] at h
    omega
theorem Fu (W : World) (g : Nat) (b : UInt8) (h : W.heap[g]? = some (.cells #[.int .u8 (b.toNat : Int)] 5 (0, 0))) : (convert 118 9 (.slice (some ⟨g, 0, none⟩) 1 1)).run Tryz.prog W = .ok (.string (bs [b])) W := by
 refine run_convert_bytes_back (P := Tryz.prog) W 118 9 5 ⟨g, 0, none⟩ 1 [b] Tryz.underlying118 Tryz.underlying5 Tryz.underlying9 (fun j hj => ?_)
 have : j = 0 := by simp at hj; omega
 subst this
 rw [Go.WideShapes.add_plain, cell_of_row _ _ _ _ _ _ h]
 rfl

set_option maxRecDepth 100000 in
set_option maxHeartbeats 4000000 in
theorem str_ref (s : ByteArray) (w : World) (hs : s.size ≤ 1000000000) (h0 : 0 < s.size) (hq : s[0].toNat = 34) (r : List UInt8) (hr0 : s.data.toList.drop 1 = r) :
  Calls Tryz.prog 140 #[.string s] w fun e w' => e = .returned (.tuple #[.string (bs (xW r)), .int .i64 (xX r)]) ∧ Below w.heap.size w w' := by
 have hne2 := gT h0
 have hne := bP h0
 have hlit0 : lit r = pQ (r.length + 1) (s.data.toList.drop 1) [] 1 := by rw [hr0]; rfl
 have hrl : r.length = s.size - 1 := by rw [← hr0]; simp
 have q0 : ((s[0].toNat : Int) == 34) = true := lq hq
 have q1 : ((s[0].toNat : Int) != 34) = false := by rw [hq]; rfl
 have HL0 := Lib.hid hlit0
 have HRL := Lib.hid hrl
 clear hlit0 hrl hr0 hq
 go_enter Tryz.func140, Tryz.ntmps140
 go_wp2
 clear q0 q1
 go_loopw [4, 5] (fun o x wr => ∃ f k : Nat, ∃ acc, 1 ≤ k ∧ k ≤ s.size ∧ x = .int .i64 k ∧ o = .string (bs acc) ∧ Hid (lit r = pQ f (s.data.toList.drop k) acc k) ∧ s.size + 1 ≤ f + k ∧ acc.length ≤ k ∧ Below w.heap.size w wr) (fun _ x _ => s.size - (intOf x).toNat)
 case atStart => exact ⟨r.length + 1, 1, [], Nat.le_refl _, h0, rfl, rfl, HL0.out, by rw [HRL.out]; omega, by simp, Below.refl _ _⟩
 case round =>
  obtain ⟨f, k, acc, hk1, hk, rfl, rfl, hgo, hfu, hal, hb⟩ := hrel
  have hsz := hb.size
  obtain ⟨T, hT⟩ : ∃ T, T = bs acc := ⟨_, rfl⟩
  have hTs : T.size ≤ 1000000000 := by rw [hT, cK]; omega
  rw [← hT]
  have HT := Lib.hid hT
  clear hT
  by_cases hlt : k < s.size
  ·have hdr := cB s k hlt
   by_cases h34 : s[k].toNat = 34
   ·have q34 : ((s[k].toNat : Int) == 34) = true := lq h34
    have q35 : ((s[k].toNat : Int) != 34) = false := by rw [h34]; rfl
    have e : lit r = some (acc, k + 1) := by
     obtain ⟨f, rfl⟩ : ∃ g, f = g + 1 := ⟨f - 1, by omega⟩
     rw [hgo.out, hdr, pQ, if_pos (UInt8.toNat_inj.1 h34)]
    obtain ⟨e1, e2⟩ := J5 e
    have E1 := Lib.hid e1
    have E2 := Lib.hid e2
    have hkn : ((k : Int) == (s.size : Int)) = false := eP (by omega)
    clear e e1 e2 h34 hgo hdr
    go_wp2
    go_ret2
    refine ⟨?_, hb⟩
    rw [E1.out, E2.out, HT.out]; rfl
   ·have n34 : s[k] ≠ 34 := fun e => h34 (by rw [e]; rfl)
    have q34 : ((s[k].toNat : Int) == 34) = false := eP h34
    have q35 : ((s[k].toNat : Int) != 34) = true := gY h34
    obtain ⟨f, rfl⟩ : ∃ g, f = g + 1 := ⟨f - 1, by omega⟩
    have hg2 := hgo.out
    rw [hdr, Lr _ _ _ _ _ n34, ← hdr] at hg2
    have HG := Lib.hid hg2
    have hX : (s.extract k s.size).data.toList = s.data.toList.drop k := by simp [List.take_of_length_le]
    have hc := char_ref (s.extract k s.size) wr (by simp; omega) (by simp; omega)
    rw [hX] at hc
    have HC := Lib.hid hc
    clear hc hX hg2 hgo
    cases hch : jq (s.data.toList.drop k) with
    |none =>
     obtain ⟨z1, z2⟩ := AB hch
     have e : lit r = none := by rw [HG.out, hch]
     obtain ⟨e1, e2⟩ := vP e
     have E1 := Lib.hid e1
     have E2 := Lib.hid e2
     have HC2 := Lib.hid (HC.out.mono (fun e w' (h : _ ∧ _) => (⟨by rw [h.1, z1, z2]; rfl, h.2⟩ : e = .returned (.tuple #[.int .u8 0, .int .i64 0]) ∧ ∃ q, w' = wr.drewN q)))
     clear e e1 e2 h34 hdr n34 z1 z2 hch
     go_wp2_with fail
     refine HC2.out.mono ?_
     rintro e w' ⟨rfl, q, rfl⟩
     go_wp2
     go_ret2
     refine ⟨?_, below_drewN hb _⟩
     rw [E1.out, E2.out]; rfl
    |some p =>
     obtain ⟨x, n⟩ := p
     obtain ⟨z1, z2⟩ := AA hch
     have hbd : 0 < n ∧ n ≤ s.size - k := by
      rw [hdr] at hch
      have := GL hch
      simp at this; omega
     obtain ⟨hn0, hn1⟩ := hbd
     have qn : ((n : Int) == 0) = false := eP (Nat.ne_of_gt hn0)
     have HC2 := Lib.hid (HC.out.mono (fun e w' (h : _ ∧ _) => (⟨by rw [h.1, z1, z2], h.2⟩ : e = .returned (.tuple #[.int .u8 (x.toNat : Int), .int .i64 (n : Int)]) ∧ ∃ q, w' = wr.drewN q)))
     have hg3 := HG.out
     rw [hch] at hg3
     simp only [List.drop_drop] at hg3
     have HG3 := Lib.hid hg3
     clear h34 hdr n34 z1 z2 hch hg3 HG HC
     go_wp2_with fail
     refine HC2.out.mono ?_
     rintro e w' ⟨rfl, q, hw'⟩
     have hbw : Below w.heap.size w w' := by rw [hw']; exact below_drewN hb _
     clear hw' hb
     have hcv := Fu (w'.alloc (.cells #[.int .u8 (x.toNat : Int)] 5)) w'.heap.size x (heap_alloc_new w' _)
     obtain ⟨X, hX⟩ : ∃ X, X = bs [x] := ⟨_, rfl⟩
     have hXs : X.size = 1 := by rw [hX, cK]; rfl
     have hXl : X.size ≤ 1 := by omega
     rw [← hX] at hcv
     have HX := Lib.hid hX
     clear hX hXs
     go_wp2
     go_roundw
     case rel =>
      refine ⟨f, k + n, acc ++ [x], by omega, by omega, by congr 1, ?_, HG3.out, by omega, by simp; omega, hbw.alloc hbw.size _⟩
      rw [HT.out, HX.out, bV]
     case measure => simp [intOf]; omega
  ·obtain rfl : k = s.size := by omega
   have e : lit r = none := by
    have := hgo.out
    rw [show s.data.toList.drop s.size = [] from List.drop_of_length_le (by simp)] at this
    rw [this]
    match f, hfu with
    |0, h => omega
    |g + 1, _ => rfl
   obtain ⟨e1, e2⟩ := vP e
   have E1 := Lib.hid e1
   have E2 := Lib.hid e2
   have hkk : ((s.size : Int) == (s.size : Int)) = true := by simp
   clear e e1 e2 hgo
   go_wp2
   go_ret2
   refine ⟨?_, hb⟩
   rw [E1.out, E2.out]; rfl

def vY (l : List UInt8) : Nat := match num (l.take (pre isDigit l)) with | some v => v | none => 0
def vZ (l : List UInt8) : Nat := match num (l.take (pre isDigit l)) with | some _ => pre isDigit l | none => 0
theorem Kg {l : List UInt8} {v : Nat} (h : num (l.take (pre isDigit l)) = some v) : vY l = v ∧ vZ l = pre isDigit l := by unfold vY vZ; rw [h]; exact ⟨rfl, rfl⟩
theorem Kh {l : List UInt8} (h : num (l.take (pre isDigit l)) = none) : vY l = 0 ∧ vZ l = 0 := by unfold vY vZ; rw [h]; exact ⟨rfl, rfl⟩
theorem Kv (s : ByteArray) (k : Nat) (h : k < s.size) (hk : k ≤ pre isDigit s.data.toList) : (k < pre isDigit s.data.toList ↔ isDigit s[k].toNat = true) := by
 have key : pre isDigit s.data.toList = k + pre isDigit (s.data.toList.drop k) := by
  have : ∀ (l : List UInt8) (k : Nat), k ≤ pre isDigit l → pre isDigit l = k + pre isDigit (l.drop k) := by
   intro l
   induction l with
   |nil => intro k hk; simp [pre] at hk; subst hk; rfl
   |cons c r ih =>
    intro k hk
    cases k with
    |zero => simp
    |succ k =>
     by_cases hc : isDigit c.toNat = true
     ·have e : pre isDigit (c :: r) = pre isDigit r + 1 := by unfold pre; rw [List.takeWhile_cons, if_pos hc]; simp
      rw [e] at hk ⊢
      rw [List.drop_succ_cons, ih k (by omega)]; omega
     ·have e : pre isDigit (c :: r) = 0 := by unfold pre; rw [List.takeWhile_cons, if_neg hc]; rfl
      omega
  exact this _ _ hk
 cases hd : isDigit s[k].toNat
 ·rw [uw isDigit s k h hd] at key
  constructor
  ·intro; omega
  ·intro hh; simp at hh
 ·rw [lZ isDigit s k h hd] at key
  constructor
  ·intro; rfl
  ·intro; omega

set_option maxRecDepth 100000 in
set_option maxHeartbeats 4000000 in
theorem IX (s : ByteArray) (w : World) (hs : s.size ≤ 1000000000) (h0 : 0 < s.size) (hd0 : isDigit s[0].toNat = true) :
  Calls Tryz.prog 139 #[.string s] w fun e w' => e = .returned (.tuple #[.int .i64 (vY s.data.toList), .int .i64 (vZ s.data.toList)]) ∧ w = w' := by
 have hp0 : 0 < pre isDigit s.data.toList := (Kv s 0 h0 (Nat.zero_le _)).2 hd0
 have hpl : pre isDigit s.data.toList ≤ s.size := by have := xU isDigit s.data.toList; simpa using this
 obtain ⟨n, hn⟩ : ∃ n, n = pre isDigit s.data.toList := ⟨_, rfl⟩
 have HPD := Lib.hid (fun k (h : k < s.size) (hk : k ≤ n) => (show k < n ↔ isDigit s[k].toNat = true by rw [hn] at hk ⊢; exact Kv s k h hk))
 rw [← hn] at hp0 hpl
 have hDl : (s.data.toList.take n).length = n := by rw [List.length_take]; simp; omega
 have hDg : ∀ k (h : k < s.size), k < n → (s.data.toList.take n).drop k = s[k] :: (s.data.toList.take n).drop (k + 1) := by
  intro k h hk
  rw [List.drop_eq_getElem_cons (by rw [hDl]; exact hk), List.getElem_take]; rfl
 have hnum : num (s.data.toList.take n) = if 1 < n ∧ s[0].toNat = 48 then none else mh 0 (s.data.toList.take n) := by
  unfold num
  have hh : (s.data.toList.take n).head? = some s[0] := by
   have := hDg 0 h0 hp0
   rw [List.drop_zero] at this
   rw [this]; rfl
  rw [hDl, hh]
  by_cases hc : 1 < n ∧ s[0].toNat = 48
  ·rw [if_pos hc, if_pos ⟨hc.1, by rw [show s[0] = 48 from UInt8.toNat_inj.1 hc.2]⟩]
  ·rw [if_neg hc, if_neg (fun h => hc ⟨h.1, by have := Option.some.inj h.2; rw [this]; rfl⟩)]
 have no : num (s.data.toList.take n) = none → ∀ a b : Int, a = 0 → b = 0 → (Ending.returned (.tuple #[.int .i64 a, .int .i64 b])) = .returned (.tuple #[.int .i64 (vY s.data.toList), .int .i64 (vZ s.data.toList)]) := by
  intro h a b ha hb
  rw [hn] at h
  rw [(Kh h).1, (Kh h).2, ha, hb]; rfl
 have yes : ∀ v : Nat, num (s.data.toList.take n) = some v → (Ending.returned (.tuple #[.int .i64 (v : Int), .int .i64 (n : Int)])) = .returned (.tuple #[.int .i64 (vY s.data.toList), .int .i64 (vZ s.data.toList)]) := by
  intro v h
  rw [hn] at h
  rw [(Kg h).1, (Kg h).2, hn]
 have NO := Lib.hid no
 have YES := Lib.hid yes
 have HN := Lib.hid hnum
 have HDG := Lib.hid hDg
 have HDL := Lib.hid hDl
 clear no yes hnum hDg hDl hn hd0
 go_enter Tryz.func139, Tryz.ntmps139
 go_wp2
 go_loop [4, 5] (fun x y => ∃ k v : Nat, k ≤ n ∧ x = .int .i64 v ∧ y = .int .i64 k ∧ v ≤ 9223372036854775807 ∧ Hid (mh 0 (s.data.toList.take n) = mh v ((s.data.toList.take n).drop k)) ∧ Hid (k ≤ 1 ∨ s[0].toNat ≠ 48)) (fun _ y => s.size + 1 - (intOf y).toNat)
 case atStart => exact ⟨0, 0, Nat.zero_le _, rfl, rfl, by decide, by show _ = _; rw [List.drop_zero], Or.inl (by decide)⟩
 case round =>
  obtain ⟨k, v, hk, rfl, rfl, hv, hgo, hz⟩ := hrel
  by_cases hkn : k < n
  ·have hlt : k < s.size := by omega
   have hdk := (HPD.out k hlt hk).1 hkn
   have hdc := nV s[k].toNat w
   rw [hdk] at hdc
   have HDC := Lib.hid hdc
   unfold isDigit at hdk
   simp only [Bool.and_eq_true, decide_eq_true_eq] at hdk
   obtain ⟨hd1, hd2⟩ := hdk
   have xD := hgo.out
   rw [HDG.out k hlt hkn, mh] at xD
   have HG := Lib.hid xD
   have hd1I : (48 : Int) ≤ (s[k].toNat : Int) := by omega
   have hd2I : (s[k].toNat : Int) ≤ 57 := by omega
   clear hdc xD
   by_cases hzz : 0 < k ∧ s[0].toNat = 48
   ·obtain ⟨hk0, h48⟩ := hzz
    have q48 : ((s[0].toNat : Int) == 48) = true := lq h48
    have E := Lib.hid (NO.out (by rw [HN.out, if_pos ⟨by omega, h48⟩]) 0 0 rfl rfl)
    have hk0I : (0 : Int) < (k : Int) := by omega
    clear h48
    go_wp2_with fail
    refine HDC.out.mono ?_
    rintro e w' ⟨rfl, rfl⟩
    go_wp2
    go_ret2
    exact ⟨E.out, rfl⟩
   ·have hnz : Hid (mh 0 (s.data.toList.take n) = none → num (s.data.toList.take n) = none) := by
     show _ → _
     intro h
     rw [HN.out, h]; simp
    by_cases hbig : (9223372036854775807 - (s[k].toNat - 48)) / 10 < v
    ·have E := Lib.hid (NO.out (hnz.out (by rw [HG.out, if_pos hbig])) 0 0 rfl rfl)
     have hbI : (9223372036854775807 - ((s[k].toNat : Int) - 48)) / 10 < (v : Int) := by omega
     by_cases hk0 : 0 < k
     ·have q48 : ((s[0].toNat : Int) == 48) = false := eP (fun e => hzz ⟨hk0, e⟩)
      have hk0I : (0 : Int) < (k : Int) := by omega
      clear hzz
      go_wp2_with fail
      refine HDC.out.mono ?_
      rintro e w' ⟨rfl, rfl⟩
      go_wp2
      go_ret2
      exact ⟨E.out, rfl⟩
     ·have hk0I : ¬ (0 : Int) < (k : Int) := by omega
      clear hzz
      go_wp2_with fail
      refine HDC.out.mono ?_
      rintro e w' ⟨rfl, rfl⟩
      go_wp2
      go_ret2
      exact ⟨E.out, rfl⟩
    ·have e := HG.out
     rw [if_neg hbig] at e
     have HE := Lib.hid e
     have hbI : ¬ (9223372036854775807 - ((s[k].toNat : Int) - 48)) / 10 < (v : Int) := by omega
     clear e HG
     by_cases hk0 : 0 < k
     ·have h48 : s[0].toNat ≠ 48 := fun e => hzz ⟨hk0, e⟩
      have H48 := Lib.hid h48
      have q48 : ((s[0].toNat : Int) == 48) = false := eP h48
      have hk0I : (0 : Int) < (k : Int) := by omega
      clear hzz h48
      go_wp2_with fail
      refine HDC.out.mono ?_
      rintro e w' ⟨rfl, rfl⟩
      go_wp2
      go_round
      case rel => exact ⟨k + 1, 10 * v + (s[k].toNat - 48), by omega, by congr 1; omega, by go_num, by omega, HE.out, Or.inr H48.out⟩
      case measure => simp [intOf]; omega
     ·have hk0I : ¬ (0 : Int) < (k : Int) := by omega
      clear hzz
      go_wp2_with fail
      refine HDC.out.mono ?_
      rintro e w' ⟨rfl, rfl⟩
      go_wp2
      go_round
      case rel => exact ⟨k + 1, 10 * v + (s[k].toNat - 48), by omega, by congr 1; omega, by go_num, by omega, HE.out, Or.inl (by omega)⟩
      case measure => simp [intOf]; omega
  ·obtain rfl : k = n := by omega
   have e : num (s.data.toList.take k) = some v := by
    rw [HN.out, if_neg (fun h => by rcases hz.out with h1 | h1; omega; exact h1 h.2), hgo.out, List.drop_of_length_le (by rw [HDL.out]; omega)]; rfl
   have E := Lib.hid (YES.out v e)
   clear e hgo hz
   by_cases hlt : k < s.size
   ·have hdk : isDigit s[k].toNat = false := by
     cases hd : isDigit s[k].toNat
     ·rfl
     ·have := (HPD.out k hlt (Nat.le_refl _)).2 hd; omega
    have hdc := nV s[k].toNat w
    rw [hdk] at hdc
    have HDC := Lib.hid hdc
    clear hdc hdk
    go_wp2_with fail
    refine HDC.out.mono ?_
    rintro e w' ⟨rfl, rfl⟩
    go_wp2
    go_ret2
    exact ⟨E.out, rfl⟩
   ·go_wp2
    go_ret2
    exact ⟨E.out, rfl⟩
end Go.Proofs.YtbmglebipepdmaaGreatDoor
namespace Go.Proofs.YtbmglebipepdmaaGreatDoor
open Go.RowKit

theorem next_int {l : List UInt8} (h : gZ l = (match num (l.take (pre isDigit l)) with
   |none => none
   |some v => some (⟨2, bs [], v, bs []⟩, pre isDigit l))) : qX l 2 (bs []) (vY l) (bs []) (vZ l) := by
 unfold vY vZ
 cases hl : num (l.take (pre isDigit l)) with
 |none => rw [hl] at h; exact mq h _ _ _ _
 |some v => rw [hl] at h; exact mo h
def symB : ByteArray := ⟨#[123, 125, 40, 41, 91, 93, 44, 59, 58, 61, 47, 43, 45, 60, 62, 124, 38, 42]⟩
theorem symB_list : symB.data.toList = Fe := rfl
theorem cont_at (s : ByteArray) (k : Nat) (h : k < s.size) (hk : pre cu s.data.toList = k + pre cu (s.data.toList.drop k)) : (k < pre cu s.data.toList ↔ cu s[k].toNat = true) := by
 cases hd : cu s[k].toNat
 ·rw [uw cu s k h hd] at hk
  constructor
  ·intro; omega
  ·intro hh; simp at hh
 ·rw [lZ cu s k h hd] at hk
  constructor
  ·intro; rfl
  ·intro; omega

set_option maxRecDepth 100000 in
set_option maxHeartbeats 4000000 in
theorem token_ref (s : ByteArray) (w : World) (hs : s.size ≤ 1000000000) (h0 : 0 < s.size) : Calls Tryz.prog 109 #[.string s] w (NxPost s.data.toList w) := by
 have hone := FK h0
 have hbW : ∀ o, Below w.heap.size w (w.alloc o) := fun o => (Below.refl _ _).alloc (Nat.le_refl _) o
 have hnew := heap_alloc_new w (.cells #[.int .i64 0, .string ⟨#[]⟩, .int .i64 0, .string ⟨#[]⟩, .int .i64 0] 105)
 obtain ⟨W, hW⟩ : ∃ W : World, W = w.alloc (.cells #[.int .i64 0, .string ⟨#[]⟩, .int .i64 0, .string ⟨#[]⟩, .int .i64 0] 105) := ⟨_, rfl⟩
 have hb := hbW (.cells #[.int .i64 0, .string ⟨#[]⟩, .int .i64 0, .string ⟨#[]⟩, .int .i64 0] 105)
 rw [← hW] at hb hnew
 have HB := Lib.hid hb
 have yB := Lib.hid hnew
 obtain ⟨a0, a1, a2, a3, a4, af⟩ := jF hnew
 have af0 := af 0
 have af1 := af 1
 have af2 := af 2
 have af3 := af 3
 have af4 := af 4
 have hcx := nH s[0].toNat W
 have hdx := nV s[0].toNat W
 have hplen := xU cu s.data.toList
 rw [show s.data.toList.length = s.size by simp] at hplen
 clear hbW hb hnew af
 cases hl : dX s[0].toNat
 ·rw [hl] at hcx hone
  rw [if_neg (by simp)] at hone
  cases hd : isDigit s[0].toNat
  ·rw [hd] at hdx hone
   rw [if_neg (by simp)] at hone
   by_cases hq : s[0].toNat = 34
   ·have q34 : ((s[0].toNat : Int) == 34) = true := lq hq
    rw [if_pos (UInt8.toNat_inj.1 hq)] at hone
    have hlit := str_ref s W hs h0 hq _ rfl
    have HO := Lib.hid hone
    have HC := Lib.hid hcx
    have HD := Lib.hid hdx
    have HL := Lib.hid hlit
    clear hone hcx hdx hlit hl hd hq
    go_enter Tryz.func109, Tryz.ntmps109
    go_wp2_with fail
    rw [← hW]
    clear hW
    refine HC.out.mono ?_
    rintro e w' ⟨rfl, rfl⟩
    go_wp2_with fail
    refine HD.out.mono ?_
    rintro e w' ⟨rfl, rfl⟩
    go_wp2_with fail
    refine HL.out.mono ?_
    rintro e W2 ⟨rfl, hb2⟩
    have hlt : w.heap.size < W.heap.size := lt_of_block yB.out
    have HN2 := Lib.hid ((hb2.block _ hlt).trans yB.out)
    clear a0 a1 a2 a3 a4 af0 af1 af2 af3 af4
    obtain ⟨a0, a1, a2, a3, a4, af⟩ := jF HN2.out
    have af0 := af 0
    have af1 := af 1
    have af2 := af 2
    have af3 := af 3
    have af4 := af 4
    clear af
    go_wp2
    obtain ⟨e1, e2⟩ := ku (HB.out.trans (hb2.mono (Nat.le_of_lt hlt))) HN2.out rfl
    refine kz rfl rfl rfl rfl e1 ⟨_, _, _, _, _, rfl, e2, ?_⟩
    exact JZ (by rw [← List.drop_one]; exact HO.out)
   ·have q34 : ((s[0].toNat : Int) == 34) = false := eP hq
    rw [if_neg (fun e => hq (by rw [e]; rfl))] at hone
    have HC := Lib.hid hcx
    have HD := Lib.hid hdx
    have HO := Lib.hid hone
    have h1 : (1 : Int) ≤ (s.size : Int) := by omega
    have h0I : (0 : Int) < (s.size : Int) := by omega
    clear hone hcx hdx hl hd hq
    go_enter Tryz.func109, Tryz.ntmps109
    go_wp2_with fail
    rw [← hW]
    clear hW
    refine HC.out.mono ?_
    rintro e w' ⟨rfl, rfl⟩
    go_wp2_with fail
    refine HD.out.mono ?_
    rintro e w' ⟨rfl, rfl⟩
    go_wp2
    clear a0 a1 a2 a3 a4 af0 af1 af2 af3 af4 q34
    go_loopw [9] (fun x wr => ∃ k q : Nat, k ≤ 18 ∧ x = .int .i64 k ∧ wr = W.drewN q ∧ Hid (∀ j, j < k → Fe[j]? ≠ some s[0])) (fun x _ => 18 - (intOf x).toNat)
    case atStart => exact ⟨0, 0, by decide, rfl, rfl, fun j hj => absurd hj (by omega)⟩
    case round =>
     obtain ⟨k, qd, hk, rfl, rfl, hno⟩ := hrel
     have HN2 := Lib.hid (show (W.drewN qd).heap[w.heap.size]? = _ from yB.out)
     obtain ⟨a0, a1, a2, a3, a4, af⟩ := jF HN2.out
     have af0 := af 0
     have af1 := af 1
     have af2 := af 2
     have af3 := af 3
     have af4 := af 4
     clear af
     by_cases hlt : k < 18
     ·have hkI : (k : Int) < 18 := by omega
      have hk0 : (0 : Int) ≤ (k : Int) := by omega
      have hsz : (k : Int) < ((⟨#[123, 125, 40, 41, 91, 93, 44, 59, 58, 61, 47, 43, 45, 60, 62, 124, 38, 42]⟩ : ByteArray).size : Int) := by show (k : Int) < 18; omega
      have hsz2 : k < symB.size := hlt
      have hgk : Fe[k]? = some symB[k] := by rw [← symB_list, List.getElem?_eq_getElem (by simpa using hsz2)]; rfl
      by_cases hq : symB[k].toNat = s[0].toNat
      ·have hsy : s[0] = symB[k] := UInt8.toNat_inj.1 hq.symm
       have hmem : s[0] ∈ Fe := by rw [hsy]; exact List.mem_of_getElem? hgk
       have ho := HO.out
       rw [if_pos hmem] at ho
       have HO2 := Lib.hid ho
       have q : (((⟨#[123, 125, 40, 41, 91, 93, 44, 59, 58, 61, 47, 43, 45, 60, 62, 124, 38, 42]⟩ : ByteArray)[k]'hsz2).toNat : Int) == (s[0].toNat : Int) := lq hq
       clear hq hsy hgk ho hmem a0 a1 a2 a3 a4 af0 af1 af2 af3 af4
       go_wp2
       go_quiet (fail)
       have HN3 := Lib.hid (show (W.drewN (qd + nq)).heap[w.heap.size]? = _ from yB.out)
       obtain ⟨a0, a1, a2, a3, a4, af⟩ := jF HN3.out
       have af0 := af 0
       have af1 := af 1
       have af2 := af 2
       have af3 := af 3
       have af4 := af 4
       clear af
       go_wp2
       obtain ⟨e1, e2⟩ := ku (below_drewN HB.out _) HN3.out rfl
       refine kz rfl rfl rfl rfl e1 ⟨_, _, _, _, _, rfl, e2, ?_⟩
       have e3 : s.extract 0 1 = bs [s[0]] := by
        rw [pY, show s.data.toList = s[0] :: s.data.toList.drop 1 from cB s 0 h0]; rfl
       rw [e3]
       exact mo HO2.out
      ·have q : ((((⟨#[123, 125, 40, 41, 91, 93, 44, 59, 58, 61, 47, 43, 45, 60, 62, 124, 38, 42]⟩ : ByteArray)[k]'hsz2).toNat : Int) == (s[0].toNat : Int)) = false := eP hq
       have HQ := Lib.hid hq
       have HGK := Lib.hid hgk
       clear hq hgk
       go_wp2
       go_quiet (fail)
       go_wp2
       go_roundw
       case rel =>
        refine ⟨k + 1, _, by omega, by go_num, rfl, fun j hj => ?_⟩
        rcases Nat.lt_or_ge j k with h | h
        ·exact hno.out j h
        ·obtain rfl : j = k := by omega
         rw [HGK.out]
         intro e
         exact HQ.out (by rw [Option.some.inj e])
       case measure => simp [intOf]; omega
     ·obtain rfl : k = 18 := by omega
      have hsy : ¬ s[0] ∈ Fe := by
       intro hm
       obtain ⟨j, hj, e⟩ := List.getElem_of_mem hm
       exact hno.out j hj (by rw [List.getElem?_eq_getElem hj, e])
      have ho := HO.out
      rw [if_neg hsy] at ho
      have HO2 := Lib.hid ho
      clear ho hsy hno
      go_wp2
      obtain ⟨e1, e2⟩ := ku (below_drewN HB.out _) (show (W.drewN _).heap[w.heap.size]? = _ from yB.out) rfl
      refine kz rfl rfl rfl rfl e1 ⟨_, _, _, _, _, rfl, e2, ?_⟩
      exact mq HO2.out _ _ _ _
  ·rw [hd] at hdx hone
   rw [if_pos rfl] at hone
   have HI := Lib.hid (IX s W hs h0 hd)
   have HO := Lib.hid hone
   have HC := Lib.hid hcx
   have HD := Lib.hid hdx
   clear hone hcx hdx hl hd
   go_enter Tryz.func109, Tryz.ntmps109
   go_wp2_with fail
   rw [← hW]
   clear hW
   refine HC.out.mono ?_
   rintro e w' ⟨rfl, rfl⟩
   go_wp2_with fail
   refine HD.out.mono ?_
   rintro e w' ⟨rfl, rfl⟩
   go_wp2_with fail
   refine HI.out.mono ?_
   rintro e w' ⟨rfl, rfl⟩
   go_wp2
   obtain ⟨e1, e2⟩ := ku HB.out yB.out rfl
   refine kz rfl rfl rfl rfl e1 ⟨_, _, _, _, _, rfl, e2, ?_⟩
   exact next_int HO.out
 ·rw [hl] at hcx hone
  rw [if_pos rfl] at hone
  obtain ⟨n, hn⟩ : ∃ n, n = pre cu s.data.toList := ⟨_, rfl⟩
  rw [← hn] at hone hplen
  have HO := Lib.hid hone
  have HC := Lib.hid hcx
  have HPN := Lib.hid hn
  have HCA := Lib.hid (fun k (h : k < s.size) (hk : n = k + pre cu (s.data.toList.drop k)) => (show k < n ↔ cu s[k].toNat = true by rw [hn] at hk ⊢; exact cont_at s k h hk))
  have HYES := Lib.hid (fun k (h : k < s.size) (hc : cu s[k].toNat = true) => lZ cu s k h hc)
  clear hone hcx hdx hl hn
  go_enter Tryz.func109, Tryz.ntmps109
  go_wp2_with fail
  rw [← hW]
  clear hW
  refine HC.out.mono ?_
  rintro e w' ⟨rfl, rfl⟩
  go_wp2
  go_loop [4] (fun x => ∃ k : Nat, k ≤ n ∧ x = .int .i64 k ∧ Hid (n = k + pre cu (s.data.toList.drop k))) (fun x => s.size - (intOf x).toNat)
  case atStart => exact ⟨0, Nat.zero_le _, rfl, by show n = 0 + pre cu (s.data.toList.drop 0); rw [HPN.out]; simp⟩
  case round =>
   obtain ⟨k, hk, rfl, hpre⟩ := hrel
   by_cases hkn : k < n
   ·have hlt : k < s.size := by omega
    have hc := (HCA.out k hlt hpre.out).1 hkn
    have hpy := HYES.out k hlt hc
    have HPY := Lib.hid hpy
    have hlc := nH s[k].toNat W
    have hdc := nV s[k].toNat W
    unfold cu at hc
    cases hll : dX s[k].toNat
    ·rw [hll] at hc hlc
     rw [Bool.false_or] at hc
     rw [hc] at hdc
     have HLC := Lib.hid hlc
     have HDC := Lib.hid hdc
     clear hpy hlc hdc hc hll
     go_wp2_with fail
     refine HLC.out.mono ?_
     rintro e w' ⟨rfl, rfl⟩
     go_wp2_with fail
     refine HDC.out.mono ?_
     rintro e w' ⟨rfl, rfl⟩
     go_wp2
     go_round
     case rel => exact ⟨k + 1, by omega, by go_num, by show n = _; rw [hpre.out, HPY.out]; omega⟩
     case measure => simp [intOf]; omega
    ·rw [hll] at hlc
     have HLC := Lib.hid hlc
     clear hpy hlc hdc hc hll
     go_wp2_with fail
     refine HLC.out.mono ?_
     rintro e w' ⟨rfl, rfl⟩
     go_wp2
     go_round
     case rel => exact ⟨k + 1, by omega, by go_num, by show n = _; rw [hpre.out, HPY.out]; omega⟩
     case measure => simp [intOf]; omega
   ·obtain rfl : k = n := by omega
    have hnI : (k : Int) ≤ (s.size : Int) := by omega
    by_cases h24 : 24 < k
    ·have ho := HO.out
     rw [if_pos h24] at ho
     have HO2 := Lib.hid ho
     have h24I : (24 : Int) < (k : Int) := by omega
     clear ho
     by_cases hlt : k < s.size
     ·have hc : cu s[k].toNat = false := by
       cases hcc : cu s[k].toNat
       ·rfl
       ·have := (HCA.out k hlt hpre.out).2 hcc; omega
      have hlc := nH s[k].toNat W
      have hdc := nV s[k].toNat W
      unfold cu at hc
      rw [Bool.or_eq_false_iff] at hc
      rw [hc.1] at hlc
      rw [hc.2] at hdc
      have HLC := Lib.hid hlc
      have HDC := Lib.hid hdc
      clear hlc hdc hc
      go_wp2_with fail
      refine HLC.out.mono ?_
      rintro e w' ⟨rfl, rfl⟩
      go_wp2_with fail
      refine HDC.out.mono ?_
      rintro e w' ⟨rfl, rfl⟩
      go_wp2
      obtain ⟨e1, e2⟩ := ku HB.out yB.out rfl
      refine kz rfl rfl rfl rfl e1 ⟨_, _, _, _, _, rfl, e2, ?_⟩
      exact mq HO2.out _ _ _ _
     ·go_wp2
      obtain ⟨e1, e2⟩ := ku HB.out yB.out rfl
      refine kz rfl rfl rfl rfl e1 ⟨_, _, _, _, _, rfl, e2, ?_⟩
      exact mq HO2.out _ _ _ _
    ·have ho := HO.out
     rw [if_neg h24, ← pY] at ho
     have HO2 := Lib.hid ho
     have h24I : ¬ (24 : Int) < (k : Int) := by omega
     clear ho
     by_cases hlt : k < s.size
     ·have hc : cu s[k].toNat = false := by
       cases hcc : cu s[k].toNat
       ·rfl
       ·have := (HCA.out k hlt hpre.out).2 hcc; omega
      have hlc := nH s[k].toNat W
      have hdc := nV s[k].toNat W
      unfold cu at hc
      rw [Bool.or_eq_false_iff] at hc
      rw [hc.1] at hlc
      rw [hc.2] at hdc
      have HLC := Lib.hid hlc
      have HDC := Lib.hid hdc
      clear hlc hdc hc
      go_wp2_with fail
      refine HLC.out.mono ?_
      rintro e w' ⟨rfl, rfl⟩
      go_wp2_with fail
      refine HDC.out.mono ?_
      rintro e w' ⟨rfl, rfl⟩
      go_wp2
      obtain ⟨e1, e2⟩ := ku HB.out yB.out rfl
      refine kz rfl rfl rfl rfl e1 ⟨_, _, _, _, _, rfl, e2, ?_⟩
      exact mo HO2.out
     ·go_wp2
      obtain ⟨e1, e2⟩ := ku HB.out yB.out rfl
      refine kz rfl rfl rfl rfl e1 ⟨_, _, _, _, _, rfl, e2, ?_⟩
      exact mo HO2.out
end Go.Proofs.YtbmglebipepdmaaGreatDoor
namespace Go.Proofs.YtbmglebipepdmaaGreatDoor
open Go.RowKit

structure KInvR (s : ByteArray) (w : World) (i : Nat) (v : Value) (line : Nat) (acc : aW) (wr : World) : Prop where
 lx : lex s.data.toList 1 [] = lex (s.data.toList.drop i) line acc
 own : wr.ownsRow w.heap.size 105 5 v acc.length (jw acc)
 blw : Below w.heap.size w wr
 le : i ≤ s.size
 len : acc.length ≤ i
 lin : line ≤ i + 1
theorem Eh (c : UInt8) (r : List UInt8) (h : c = 10) : ko (c :: r) = c :: r := by
 unfold ko
 rw [List.dropWhile_cons, if_neg (by simp [h])]

set_option maxRecDepth 100000 in
set_option maxHeartbeats 4000000 in
theorem Bz (s : ByteArray) (w : World) : Calls Tryz.prog 78 #[.string s] w (KPost s w) := by
 by_cases hs : 65536 < s.size
 ·go_enter Tryz.func78, Tryz.ntmps78
  go_wp2
  (try simp only [Exit.inBlock, Exit.then])
  refine bodyPost_ret (results_tmp3 rfl _ _ _) rfl ?_
  refine ⟨Below.refl _ _, ?_⟩
  rw [if_pos hs]; rfl
 ·go_enter Tryz.func78, Tryz.ntmps78
  go_wp2
  go_loopw [5, 6, 7] (fun x5 x6 x7 wr => ∃ (i line : Nat) (acc : aW), x7 = .int .i64 i ∧ x6 = .int .i64 line ∧ KInvR s w i x5 line acc wr) (fun _ _ x7 _ => s.size - (intOf x7).toNat)
  case atStart => exact ⟨0, 1, [], rfl, rfl, rfl, World.ownsRow_nil _ _ _ _, Below.refl _ _, Nat.zero_le _, Nat.le_refl _, Nat.le_refl _⟩
  case round =>
   obtain ⟨i, line, acc, rfl, rfl, hi⟩ := hrel
   have hle := hi.le
   have hlen := hi.len
   have hlin := hi.lin
   have hsz := hi.blw.size
   by_cases hlt : i < s.size
   ·have tN : s.data.toList.drop i = s[i] :: s.data.toList.drop (i + 1) := cB s i hlt
    have hwc := white_ref s[i].toNat wr
    have HI := Lib.hid hi
    clear hi
    cases hw : fG s[i].toNat
    ·rw [hw] at hwc
     have HW := Lib.hid hw
     have HWC := Lib.hid hwc
     have rz := Lib.hid tN
     clear hwc hw tN
     by_cases hcm : s[i] = 47 ∧ (s.data.toList.drop (i + 1)).head? = some 47
     ·have h1 : i + 1 < s.size := by
       rcases Nat.lt_or_ge (i + 1) s.size with h | h
       ·exact h
       ·rw [List.drop_of_length_le (by simp; omega)] at hcm; simp at hcm
      have e2 : s[i + 1].toNat = 47 := by
       have h2 := hcm.2
       rw [show s.data.toList.drop (i + 1) = s[i + 1] :: s.data.toList.drop (i + 1 + 1) from cB s (i + 1) h1] at h2
       simp at h2
       rw [h2]; rfl
      have e1 : s[i].toNat = 47 := by rw [hcm.1]; rfl
      have q1 : ((s[i].toNat : Int) == 47) = true := lq e1
      have q2 : ((s[i + 1].toNat : Int) == 47) = true := lq e2
      have hlx := zW s[i] (s.data.toList.drop (i + 1)) line acc HW.out hcm
      rw [← rz.out] at hlx
      have HLX := Lib.hid hlx
      have hne10 : s[i].toNat ≠ 10 := by omega
      have HNE := Lib.hid hne10
      have h1I : (i : Int) < (s.size : Int) - 1 := by omega
      have h1J : (i : Int) + 1 < (s.size : Int) := by omega
      have h1K : (0 : Int) ≤ (i : Int) + 1 := by omega
      have hm1 : IntKind.i64.wrap ((i : Int) + 1) = (i : Int) + 1 := IntWalk.i64_in _ (by omega)
      clear hlx hcm e1 e2 hne10
      obtain ⟨wo, rfl⟩ : ∃ wo : World, wo = wr := ⟨_, rfl⟩
      go_wp2_with fail
      refine HWC.out.mono ?_
      rintro e w' ⟨rfl, rfl⟩
      go_wp2
      clear q1 q2 hm1 h1I
      go_loop [7] (fun x => ∃ j : Nat, i ≤ j ∧ j ≤ s.size ∧ x = .int .i64 j ∧ Hid (ko (s.data.toList.drop i) = ko (s.data.toList.drop j))) (fun x => s.size - (intOf x).toNat)
      case atStart => exact ⟨i, Nat.le_refl _, hle, rfl, rfl⟩
      case round =>
       obtain ⟨j, hij, hj, rfl, hdl⟩ := hrel
       by_cases hjl : j < s.size
       ·have hcj : s.data.toList.drop j = s[j] :: s.data.toList.drop (j + 1) := cB s j hjl
        by_cases h10 : s[j].toNat = 10
        ·have q10 : ((s[j].toNat : Int) == 10) = true := lq h10
         have q11 : ((s[j].toNat : Int) != 10) = false := by rw [h10]; rfl
         have hlt2 : i < j := by
          rcases Nat.lt_or_ge i j with h | h
          ·exact h
          ·obtain rfl : i = j := by omega
           exact absurd h10 HNE.out
         have HX := Lib.hid (show lex s.data.toList 1 [] = lex (s.data.toList.drop j) line acc by
          rw [HI.out.lx, HLX.out, hdl.out, hcj, Eh _ _ (UInt8.toNat_inj.1 h10)])
         clear hcj h10 hdl
         go_wp2
         go_roundw
         case rel => exact ⟨j, line, acc, rfl, rfl, HX.out, HI.out.own, HI.out.blw, hj, by omega, by omega⟩
         case measure => simp [intOf]; omega
        ·have q10 : ((s[j].toNat : Int) == 10) = false := eP h10
         have q11 : ((s[j].toNat : Int) != 10) = true := gY h10
         have HX := Lib.hid (hdl.out.trans (by rw [hcj, nD _ _ (fun e => h10 (by rw [e]; rfl))]))
         clear hcj h10 hdl
         go_wp2
         go_round
         case rel => exact ⟨j + 1, by omega, by omega, by go_num, HX.out⟩
         case measure => simp [intOf]; omega
       ·obtain rfl : j = s.size := by omega
        have HX := Lib.hid (show lex s.data.toList 1 [] = lex (s.data.toList.drop s.size) line acc by
         rw [HI.out.lx, HLX.out, hdl.out, List.drop_of_length_le (by simp)]; rfl)
        clear hdl
        go_wp2
        go_roundw
        case rel => exact ⟨s.size, line, acc, rfl, rfl, HX.out, HI.out.own, HI.out.blw, hj, by omega, by omega⟩
        case measure => simp [intOf]; omega
     ·have HCM := Lib.hid hcm
      have hX : (s.extract i s.size).data.toList = s.data.toList.drop i := by simp [List.take_of_length_le]
      have hnx := token_ref (s.extract i s.size) wr (by simp; omega) (by simp; omega)
      rw [hX] at hnx
      have HNX := Lib.hid hnx
      clear hnx hX hcm
      -- the test on a comment: three ways
      have tail : ∀ (P : Prop), P → P := fun _ h => h
      clear tail
      by_cases h47 : s[i].toNat = 47
      ·have q1 : ((s[i].toNat : Int) == 47) = true := lq h47
       have e47 : s[i] = 47 := UInt8.toNat_inj.1 h47
       by_cases h1 : i + 1 < s.size
       ·have h1I : (i : Int) < (s.size : Int) - 1 := by omega
        have h1J : (i : Int) + 1 < (s.size : Int) := by omega
        have h1K : (0 : Int) ≤ (i : Int) + 1 := by omega
        have hm1 : IntKind.i64.wrap ((i : Int) + 1) = (i : Int) + 1 := IntWalk.i64_in _ (by omega)
        have n2 : s[i + 1].toNat ≠ 47 := by
         intro e
         refine HCM.out ⟨e47, ?_⟩
         rw [show s.data.toList.drop (i + 1) = s[i + 1] :: s.data.toList.drop (i + 1 + 1) from cB s (i + 1) h1, show s[i + 1] = 47 from UInt8.toNat_inj.1 e]; rfl
        have q2 : ((s[i + 1].toNat : Int) == 47) = false := eP n2
        clear n2 e47 h47
        go_wp2_with fail
        refine HWC.out.mono ?_
        rintro e w' ⟨rfl, rfl⟩
        go_wp2_with fail
        refine HNX.out.mono ?_
        rintro e W2 ⟨tk, tx, tv, ty, n, rfl, hb2, hok⟩
        have hs2 := hb2.size
        by_cases hz : n = 0
        ·subst hz
         have HOK := Lib.hid (vM hok)
         clear hok
         go_wp2
         refine bodyPost_ret (results_tmp3 rfl _ _ _) rfl ?_
         have h9 := yM s[i] (s.data.toList.drop (i + 1)) line acc HW.out HCM.out (by rw [← rz.out]; exact HOK.out)
         rw [← rz.out] at h9
         exact vS hs ((HI.out.blw.trans (hb2.mono hsz)).trans (((Below.refl _ _).alloc (Nat.le_refl _) _).mono (by omega))) (HI.out.lx.trans h9)
        ·obtain ⟨t, ht, rfl, rfl, rfl, rfl⟩ := yK hok hz
         have hle2 := vR _ _ _ ht
         rw [List.length_drop, show s.data.toList.length = s.size by simp] at hle2
         have hzI : ((n : Int) == 0) = false := eP hz
         have hn0 : 0 < n := Nat.pos_of_ne_zero hz
         have HT := Lib.hid ht
         have hown2 := own_below HI.out.own hb2 (Nat.le_refl _)
         obtain ⟨Av, cv, rfl, hcv⟩ := aS hown2
         clear hok ht
         have hown3 := own_below hown2 ((Below.refl _ _).alloc (Nat.le_refl _) (.cells #[.int .i64 t.kind, .string t.text, .int .i64 t.int, .string t.str, .int .i64 line] 105)) (Nat.le_refl _)
         go_wp2_with (at_builtin; refine yF (W2.alloc (.cells #[.int .i64 t.kind, .string t.text, .int .i64 t.int, .string t.str, .int .i64 line] 105)) rfl (.tmp 71) (.tmp 73) rfl w.heap.size _ _ _ hown3 rfl (t.kind : Int) t.text (t.int : Int) t.str (line : Int) (by rw [ig]; rfl) (by omega) (by rw [ig]; omega) ?_; intro v' W3 ic hg4 hv4; have HG4 := Lib.hid hg4; have HO3 := Lib.hid hown3; clear hown3 hv4 hg4)
         go_roundw
         case rel =>
          refine ⟨i + n, line, acc ++ [(t, line)], by congr 1, rfl, ?_, ?_, ?_, by omega, by simp; omega, by omega⟩
          ·have h9 := nM s[i] (s.data.toList.drop (i + 1)) line acc t n HW.out HCM.out (by rw [← rz.out]; exact HT.out)
           rw [← rz.out, List.drop_drop] at h9
           rw [HI.out.lx, h9]
          ·rw [oD, List.length_append]; exact ic
          ·exact (HI.out.blw.trans (hb2.mono hsz)).trans ((((Below.refl _ _).alloc (Nat.le_refl _) _).mono (by omega)).trans (aM HO3.out HG4.out (by simp; omega)))
         case measure => simp [intOf]; omega
       ·have h1I : ¬ (i : Int) < (s.size : Int) - 1 := by omega
        clear e47 h47
        go_wp2_with fail
        refine HWC.out.mono ?_
        rintro e w' ⟨rfl, rfl⟩
        go_wp2_with fail
        refine HNX.out.mono ?_
        rintro e W2 ⟨tk, tx, tv, ty, n, rfl, hb2, hok⟩
        have hs2 := hb2.size
        by_cases hz : n = 0
        ·subst hz
         have HOK := Lib.hid (vM hok)
         clear hok
         go_wp2
         refine bodyPost_ret (results_tmp3 rfl _ _ _) rfl ?_
         have h9 := yM s[i] (s.data.toList.drop (i + 1)) line acc HW.out HCM.out (by rw [← rz.out]; exact HOK.out)
         rw [← rz.out] at h9
         exact vS hs ((HI.out.blw.trans (hb2.mono hsz)).trans (((Below.refl _ _).alloc (Nat.le_refl _) _).mono (by omega))) (HI.out.lx.trans h9)
        ·obtain ⟨t, ht, rfl, rfl, rfl, rfl⟩ := yK hok hz
         have hle2 := vR _ _ _ ht
         rw [List.length_drop, show s.data.toList.length = s.size by simp] at hle2
         have hzI : ((n : Int) == 0) = false := eP hz
         have hn0 : 0 < n := Nat.pos_of_ne_zero hz
         have HT := Lib.hid ht
         have hown2 := own_below HI.out.own hb2 (Nat.le_refl _)
         obtain ⟨Av, cv, rfl, hcv⟩ := aS hown2
         clear hok ht
         have hown3 := own_below hown2 ((Below.refl _ _).alloc (Nat.le_refl _) (.cells #[.int .i64 t.kind, .string t.text, .int .i64 t.int, .string t.str, .int .i64 line] 105)) (Nat.le_refl _)
         go_wp2_with (at_builtin; refine yF (W2.alloc (.cells #[.int .i64 t.kind, .string t.text, .int .i64 t.int, .string t.str, .int .i64 line] 105)) rfl (.tmp 71) (.tmp 73) rfl w.heap.size _ _ _ hown3 rfl (t.kind : Int) t.text (t.int : Int) t.str (line : Int) (by rw [ig]; rfl) (by omega) (by rw [ig]; omega) ?_; intro v' W3 ic hg4 hv4; have HG4 := Lib.hid hg4; have HO3 := Lib.hid hown3; clear hown3 hv4 hg4)
         go_roundw
         case rel =>
          refine ⟨i + n, line, acc ++ [(t, line)], by congr 1, rfl, ?_, ?_, ?_, by omega, by simp; omega, by omega⟩
          ·have h9 := nM s[i] (s.data.toList.drop (i + 1)) line acc t n HW.out HCM.out (by rw [← rz.out]; exact HT.out)
           rw [← rz.out, List.drop_drop] at h9
           rw [HI.out.lx, h9]
          ·rw [oD, List.length_append]; exact ic
          ·exact (HI.out.blw.trans (hb2.mono hsz)).trans ((((Below.refl _ _).alloc (Nat.le_refl _) _).mono (by omega)).trans (aM HO3.out HG4.out (by simp; omega)))
         case measure => simp [intOf]; omega
      ·have q1 : ((s[i].toNat : Int) == 47) = false := eP h47
       clear h47
       go_wp2_with fail
       refine HWC.out.mono ?_
       rintro e w' ⟨rfl, rfl⟩
       go_wp2_with fail
       refine HNX.out.mono ?_
       rintro e W2 ⟨tk, tx, tv, ty, n, rfl, hb2, hok⟩
       have hs2 := hb2.size
       by_cases hz : n = 0
       ·subst hz
        have HOK := Lib.hid (vM hok)
        clear hok
        go_wp2
        refine bodyPost_ret (results_tmp3 rfl _ _ _) rfl ?_
        have h9 := yM s[i] (s.data.toList.drop (i + 1)) line acc HW.out HCM.out (by rw [← rz.out]; exact HOK.out)
        rw [← rz.out] at h9
        exact vS hs ((HI.out.blw.trans (hb2.mono hsz)).trans (((Below.refl _ _).alloc (Nat.le_refl _) _).mono (by omega))) (HI.out.lx.trans h9)
       ·obtain ⟨t, ht, rfl, rfl, rfl, rfl⟩ := yK hok hz
        have hle2 := vR _ _ _ ht
        rw [List.length_drop, show s.data.toList.length = s.size by simp] at hle2
        have hzI : ((n : Int) == 0) = false := eP hz
        have hn0 : 0 < n := Nat.pos_of_ne_zero hz
        have HT := Lib.hid ht
        have hown2 := own_below HI.out.own hb2 (Nat.le_refl _)
        obtain ⟨Av, cv, rfl, hcv⟩ := aS hown2
        clear hok ht
        have hown3 := own_below hown2 ((Below.refl _ _).alloc (Nat.le_refl _) (.cells #[.int .i64 t.kind, .string t.text, .int .i64 t.int, .string t.str, .int .i64 line] 105)) (Nat.le_refl _)
        go_wp2_with (at_builtin; refine yF (W2.alloc (.cells #[.int .i64 t.kind, .string t.text, .int .i64 t.int, .string t.str, .int .i64 line] 105)) rfl (.tmp 71) (.tmp 73) rfl w.heap.size _ _ _ hown3 rfl (t.kind : Int) t.text (t.int : Int) t.str (line : Int) (by rw [ig]; rfl) (by omega) (by rw [ig]; omega) ?_; intro v' W3 ic hg4 hv4; have HG4 := Lib.hid hg4; have HO3 := Lib.hid hown3; clear hown3 hv4 hg4)
        go_roundw
        case rel =>
         refine ⟨i + n, line, acc ++ [(t, line)], by congr 1, rfl, ?_, ?_, ?_, by omega, by simp; omega, by omega⟩
         ·have h9 := nM s[i] (s.data.toList.drop (i + 1)) line acc t n HW.out HCM.out (by rw [← rz.out]; exact HT.out)
          rw [← rz.out, List.drop_drop] at h9
          rw [HI.out.lx, h9]
         ·rw [oD, List.length_append]; exact ic
         ·exact (HI.out.blw.trans (hb2.mono hsz)).trans ((((Below.refl _ _).alloc (Nat.le_refl _) _).mono (by omega)).trans (aM HO3.out HG4.out (by simp; omega)))
        case measure => simp [intOf]; omega
    ·rw [hw] at hwc
     have HWC := Lib.hid hwc
     have hlx := rU s[i] (s.data.toList.drop (i + 1)) line acc hw
     rw [← tN] at hlx
     have HLX := Lib.hid hlx
     clear hwc hlx hw tN
     by_cases h10 : s[i].toNat = 10
     ·have q10 : ((s[i].toNat : Int) == 10) = true := lq h10
      have H10 := Lib.hid (show s[i] = 10 from UInt8.toNat_inj.1 h10)
      clear h10
      go_wp2_with fail
      refine HWC.out.mono ?_
      rintro e w' ⟨rfl, rfl⟩
      go_wp2
      go_roundw
      case rel => exact ⟨i + 1, line + 1, acc, by go_num, by go_num, by rw [HI.out.lx, HLX.out, if_pos H10.out], HI.out.own, HI.out.blw, by omega, by omega, by omega⟩
      case measure => simp [intOf]; omega
     ·have q10 : ((s[i].toNat : Int) == 10) = false := eP h10
      have H10 := Lib.hid (show ¬ s[i] = 10 from fun e => h10 (by rw [e]; rfl))
      clear h10
      go_wp2_with fail
      refine HWC.out.mono ?_
      rintro e w' ⟨rfl, rfl⟩
      go_wp2
      go_roundw
      case rel => exact ⟨i + 1, line, acc, by go_num, rfl, by rw [HI.out.lx, HLX.out, if_neg H10.out], HI.out.own, HI.out.blw, by omega, by omega, by omega⟩
      case measure => simp [intOf]; omega
   ·obtain rfl : i = s.size := by omega
    obtain ⟨A, c, rfl, hc⟩ := aS hi.own
    have HI := Lib.hid hi
    clear hi
    go_wp2
    refine bodyPost_ret (results_tmp3 rfl _ _ _) rfl ?_
    exact J9 hs HI.out.blw (by rw [HI.out.lx, List.drop_of_length_le (by simp)]; rfl) hc (aL.own HI.out.own) (by omega)
end Go.Proofs.YtbmglebipepdmaaGreatDoor
