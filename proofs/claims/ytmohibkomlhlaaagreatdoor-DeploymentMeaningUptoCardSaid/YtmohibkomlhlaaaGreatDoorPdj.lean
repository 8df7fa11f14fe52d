/- The contracts of the aU index, set, find and group. Numbers in range; the servers' names are different. The contracts of the aU weight, Has and Holds of an expression. iC that stand well. The contract of the aU Holds of a term: it answers as the expression of the term does. Terms that are typed. The contract of the aU Holds of a term: a name. Terms that are typed. The contract of the aU Holds of a term: several kids. Terms that are typed. The contract of the aU Holds of a term: a dual. Terms that are typed. -/
import Derived.Test.YtmohibkomlhlaaaGreatDoorPdb
import Derived.Test.YtmohibkomlhlaaaGreatDoorPdh
import Derived.Test.YtmohibkomlhlaaaGreatDoorPkHead
import Derived.Test.YtmohibkomlhlaaaGreatDoorPkSvr
import Derived.Test.YtmohibkomlhlaaaGreatDoorPkPara
import Derived.Test.YtmohibkomlhlaaaGreatDoorPdc
import Derived.Test.YtmohibkomlhlaaaGreatDoorPdd
import Derived.Deep.OwnRows
set_option maxRecDepth 100000
set_option maxHeartbeats 8000000
namespace Go.Proofs.YtmohibkomlhlaaaGreatDoor
open Go.RowKit
open _root_.Go.Proofs.Tryz
def ixI (o : Option Nat) : Int := match o with
 |some i => (i : Nat)
 |none => -1
theorem rIdx_drop (sv : List ByteArray) (k : Nat) (h : k < sv.length) (x : ByteArray) : Eo (sv.drop k) x = if sv[k] == x then some 0 else (Eo (sv.drop (k + 1)) x).map (· + 1) := by
 unfold Eo
 rw [List.drop_eq_getElem_cons h, List.findIdx?_cons]
theorem index_ref (sv : List ByteArray) (A : Option Addr) (c : Nat) (x : ByteArray) (w : World) (S : Nat → Prop) (hs : ak w S 1 A sv.length (aA sv)) (hl : sv.length ≤ 1000000000) :
  Calls prog 74 #[.slice A sv.length c, .string x] w fun e w' => e = .returned (.int .i64 (ixI (Eo sv x))) ∧ w = w' := by
 have HS := Lib.hid hs
 obtain ⟨r, hr⟩ : ∃ r, r = ixI (Eo sv x) := ⟨_, rfl⟩
 have HR0 := Lib.hid (show r = ixI ((Eo (sv.drop 0) x).map (· + 0)) by rw [List.drop_zero, hr]; cases Eo sv x <;> rfl)
 rw [← hr]
 clear hs hr
 go_enter func74, ntmps74
 go_wp2
 go_loop [5] (fun i => ∃ k : Nat, k ≤ sv.length ∧ i = .int .i64 k ∧ Hid (r = ixI ((Eo (sv.drop k) x).map (· + k)))) (fun i => sv.length - (intOf i).toNat)
 case atStart => exact ⟨0, Nat.zero_le _, rfl, HR0⟩
 case round =>
  obtain ⟨k, hk, rfl, hr⟩ := hrel
  by_cases hlt : k < sv.length
  ·obtain ⟨g, o, rfl, -, hcell⟩ := HS.out.cells (by omega)
   have hck := hcell k _ (dQ sv k hlt)
   have hd := rIdx_drop sv k hlt x
   obtain ⟨p, hp⟩ : ∃ p, p = sv.getD k ByteArray.empty := ⟨_, rfl⟩
   have hpe : sv[k] = p := by rw [hp]; simp [hlt]
   rw [← hp] at hck
   rw [hpe, ba_tl] at hd
   have hkI : (k : Int) < (sv.length : Int) := by omega
   have hk0 : (0 : Int) ≤ (k : Int) := by omega
   clear hp hpe hcell
   cases hq : (p.toList == x.toList)
   ·have HR := Lib.hid (show r = ixI ((Eo (sv.drop (k + 1)) x).map (· + (k + 1))) by
     have := hr.out
     rw [hd, hq] at this
     rw [this]
     cases Eo (sv.drop (k + 1)) x with
     |none => rfl
     |some j => simp [ixI]; omega)
    clear hd hr
    go_wp2
    go_round
    case rel => exact ⟨k + 1, by omega, by go_num, HR⟩
    case measure => simp [intOf]; omega
   ·have HR := Lib.hid (show r = (k : Nat) by have := hr.out; rw [hd, hq] at this; rw [this]; simp [ixI])
    clear hd hr
    go_wp2
    go_ret
    exact ⟨by rw [HR.out]; rfl, rfl⟩
  ·obtain rfl : k = sv.length := by omega
   have hkI : ¬ (sv.length : Int) < (sv.length : Int) := by omega
   have HR := Lib.hid (show r = -1 by have := hr.out; rw [List.drop_length] at this; exact this)
   clear hr
   go_wp2
   go_ret
   exact ⟨by rw [HR.out]; rfl, rfl⟩
theorem pF {l : List Dc} (A : Option Addr) (c : Nat) (w : World) (S : Nat → Prop) (hl : aL (dx w S) w S 22 A l) (hS : ∀ g, S g → g < w.heap.size) (hll : l.length ≤ 100000000) (hnd : (aj l).Nodup) (hsv : (aj l).length ≤ 12)
  (names : List ByteArray) (nA : Option Addr) (nc : Nat) (T : Nat → Prop) (hn : ak w T 1 nA names.length (aA names)) (hT : ∀ g, T g → g < w.heap.size) (hnl : names.length ≤ 1000000000) :
  Calls prog 35 #[.slice A l.length c, .slice nA names.length nc] w fun e w' => e = .returned (.int .u16 (iJ (aj l) names : Nat)) ∧ Below w.heap.size w w' := by
 have HS0 := Lib.hid (tZ l A c w S hl hS (by omega) hll)
 have HLT := Lib.hid (fun l => sF hsv l)
 have HIX := Lib.hid (fun (x : ByteArray) (i : Nat) (h : ig (aj l) x = some i) => yo h)
 have HEQ := Lib.hid (fun x => wK hnd x)
 have HN := Lib.hid hn
 have hsv0 := hsv
 obtain ⟨sv, hsvv⟩ : ∃ sv, sv = aj l := ⟨_, rfl⟩
 rw [← hsvv] at HLT HIX HEQ hsv ⊢
 unfold rD at HS0
 rw [← hsvv] at HS0
 clear hl hn hnd hsvv hsv0
 go_enter func35, ntmps35
 go_wp2_with fail
 refine HS0.out.mono ?_
 rintro e w1 ⟨v1, rfl, hown, hb1⟩
 obtain ⟨A1, c1, rfl, hc1⟩ := aJ hown
 have hs1 := ak.own hown
 have HS1 := Lib.hid hs1
 have HN1 := Lib.hid (HN.out.keep (ai hb1 hT))
 have HI := Lib.hid (fun x => index_ref sv A1 c1 x w1 _ HS1.out (by omega))
 clear hown hs1
 go_wp2
 go_loop [6, 7] (fun y x => ∃ k : Nat, k ≤ names.length ∧ x = .int .i64 k ∧ y = .int .u16 (iJ sv (names.take k) : Nat)) (fun _ x => names.length - (intOf x).toNat)
 case atStart => exact ⟨0, Nat.zero_le _, rfl, rfl⟩
 case round =>
  obtain ⟨k, hk, rfl, rfl⟩ := hrel
  by_cases hlt : k < names.length
  ·obtain ⟨g, o, rfl, hSg, hcell⟩ := HN1.out.cells (by omega)
   have hck := hcell k _ (dQ names k hlt)
   have hsn : names.take (k + 1) = names.take k ++ [names.getD k ByteArray.empty] := by rw [List.take_succ_eq_append_getElem hlt]; simp [hlt]
   obtain ⟨x, hx⟩ : ∃ x, x = names.getD k ByteArray.empty := ⟨_, rfl⟩
   rw [← hx] at hck hsn
   have hss : iJ sv (names.take (k + 1)) = match ig sv x with | some i => iJ sv (names.take k) ||| 2 ^ i | none => iJ sv (names.take k) := by rw [hsn, kT]; cases ig sv x <;> rfl
   have hq := HLT.out (names.take k)
   obtain ⟨q, hqq⟩ : ∃ q, q = iJ sv (names.take k) := ⟨_, rfl⟩
   rw [← hqq] at hss hq ⊢
   have hkI : (k : Int) < (names.length : Int) := by omega
   have hk0 : (0 : Int) ≤ (k : Int) := by omega
   have HIx := Lib.hid (HI.out x)
   have he := HEQ.out x
   clear hcell hsn hx hqq
   cases hix : ig sv x with
   |none =>
    rw [hix] at hss he
    rw [← he] at HIx
    have HSS := Lib.hid hss
    clear hss hix he
    go_wp2_with fail
    refine HIx.out.mono ?_
    rintro e w2 ⟨rfl, rfl⟩
    simp only [ixI]
    go_wp2
    go_round
    case rel => exact ⟨k + 1, by omega, by go_num, by rw [HSS.out]⟩
    case measure => simp [intOf]; omega
   |some i =>
    have hi := HIX.out x i hix
    rw [hix] at hss he
    rw [← he] at HIx
    have HSS := Lib.hid hss
    have HOR := Lib.hid (or_bit q i (by omega) (by omega))
    have hi0 : (0 : Int) ≤ (i : Int) := by omega
    clear hss hix he
    go_wp2_with fail
    refine HIx.out.mono ?_
    rintro e w2 ⟨rfl, rfl⟩
    simp only [ixI]
    go_wp2
    go_round
    case rel => exact ⟨k + 1, by omega, by go_num, by rw [HSS.out]; exact congrArg _ HOR.out⟩
    case measure => simp [intOf]; omega
  ·obtain rfl : k = names.length := by omega
   have hkI : ¬ (names.length : Int) < (names.length : Int) := by omega
   rw [List.take_length]
   go_wp2
   go_ret
   exact ⟨rfl, hb1⟩
def zDc : Dc := ⟨0, 0, ⟨#[]⟩, [], [], .zero, ⟨#[]⟩, .zero, .zero, ⟨#[]⟩⟩
theorem zdc_at (w : World) (S : Nat → Prop) : dx w S zDc (.agg zDc0) :=
 ⟨none, 0, none, 0, _, _, _, rfl, .empty _ _ _ _, Nat.le_refl _, .empty _ _ _ _ _, Nat.le_refl _, dN.named _ _ 0 (bs []), dN.named _ _ 0 (bs []), dN.named _ _ 0 (bs [])⟩
def iH (l : List Dc) (x : ByteArray) : Dc := (qj l x).getD zDc
def Cn (x : ByteArray) (d : Dc) : Bool := d.name == x && (!decide (d.kind = 5) && !decide (d.kind = 7))
theorem Gs (l : List Dc) (k : Nat) (h : k < l.length) (x : ByteArray) : qj (l.drop k) x = if Cn x l[k] then some l[k] else qj (l.drop (k + 1)) x := by
 unfold qj
 rw [List.drop_eq_getElem_cons h, List.find?_cons]
 show (match Cn x l[k] with | true => _ | false => _) = _
 cases Cn x l[k] <;> rfl
theorem ret_dc1 {fn : Func} {slot : Nat} {R : Ending → World → Prop} {a : Act} {W : World} {r : Nat} {cells : Array Value} (hres : fn.results = #[.cell slot 35]) (hp : a.tmps.getD slot undef = .pointer (some ⟨r, 0, none⟩)) (hd : a.defers = [])
  (hblk : W.heap[r]? = some (.cells cells 35 (0, 0))) (hc : cells.size = 22) (hR : R (.returned (.agg cells)) W) : bodyPost prog fn R .ret a W :=
 bodyPost_ret (results_cell_row hres a.tmps W r 35 cells (0, 0) _ hp hblk underlying35 rfl (by rw [hc]; exact cK)) hd hR
theorem mG {l : List Dc} (A : Option Addr) (c : Nat) (w : World) (S : Nat → Prop) (hl : aL (dx w S) w S 22 A l) (hS : ∀ g, S g → g < w.heap.size) (hll : l.length ≤ 1000000000) (x : ByteArray) :
  Calls prog 36 #[.slice A l.length c, .string x] w fun e w' => ∃ v, e = .returned v ∧ dx w' S (iH l x) v ∧ Below w.heap.size w w' := by
 obtain ⟨w1, h1⟩ : ∃ w1 : World, w1 = w.alloc (.cells zDc0 35) := ⟨_, rfl⟩
 have hb1 : Below w.heap.size w w1 := by rw [h1]; exact (Below.refl _ _).alloc (Nat.le_refl _) _
 have hr1 : w1.heap[w.heap.size]? = some (.cells zDc0 35 (0, 0)) := by rw [h1]; exact heap_alloc_new w _
 have HL := Lib.hid (hl.keep (P' := dx w1 S) (ai hb1 hS) (fun _ _ h => h.keep (ai hb1 hS)))
 have H1 := Lib.hid h1
 have HR1 := Lib.hid hr1
 have hlt1 := lt_of_block hr1
 have HF0 := Lib.hid (show qj l x = qj (l.drop 0) x by rw [List.drop_zero])
 clear hl h1 hr1
 go_enter func36, ntmps36
 go_upto_region 2 with fail
 rw [← H1.out]
 go_loop [5] (fun i => ∃ k : Nat, k ≤ l.length ∧ i = .int .i64 k ∧ Hid (qj l x = qj (l.drop k) x)) (fun i => l.length - (intOf i).toNat)
 case atStart => exact ⟨0, Nat.zero_le _, rfl, HF0⟩
 case round =>
  obtain ⟨k, hk, rfl, hr⟩ := hrel
  by_cases hlt : k < l.length
  ·obtain ⟨g, o, v, rfl, hSg, hp, hcs⟩ := dL (fun _ _ h => lG h) HL.out hlt
   have hdr := Gs l k hlt x
   obtain ⟨d, hd⟩ : ∃ d, d = l[k] := ⟨_, rfl⟩
   rw [← hd] at hp hdr
   have HP := Lib.hid hp
   obtain ⟨cs, nA, nc, hcl, hone, rfl, c0, -, c2, -⟩ := jD hp
   have e0 : w1.cell? ⟨g, o + k * 22, none⟩ = some (.int .i64 d.kind) := hcs 0 _ (by simpa [cellsOf, Value.cells] using c0)
   have e2 : w1.cell? ⟨g, o + k * 22 + 2, none⟩ = some (.string d.name) := hcs 2 _ (by simpa [cellsOf, Value.cells] using c2)
   have hrange : w1.rangeAt g (o + k * 22) cs := fun i u hu => hcs i u (by simpa [cellsOf, Value.cells] using hu)
   have rM : (prog.info? 35).map (·.size) = some cs.length := by rw [hcl]; exact cK
   have hcs2 : cs.toArray.size = 22 := by simpa using hcl
   have sZ := Lib.hid hone
   have HCS := Lib.hid hcs2
   have hkI : (k : Int) < (l.length : Int) := by omega
   have hk0 : (0 : Int) ≤ (k : Int) := by omega
   have hgs : g < w.heap.size := hS g hSg
   have ht : Cn x d = (d.name.toList == x.toList && (!decide (d.kind = 5) && !decide (d.kind = 7))) := by unfold Cn; rw [ba_tl]
   clear hp hcs hone hcs2 hcl c0 c2 hd
   by_cases hq : Cn x d = true
   ·have HF := Lib.hid (show iH l x = d by unfold iH; rw [hr.out, hdr, if_pos hq]; rfl)
    rw [hq] at ht
    have ht2 := ht.symm
    simp only [Bool.and_eq_true, Bool.not_eq_true', decide_eq_false_iff_not] at ht2
    obtain ⟨t1, t2, t3⟩ := ht2
    have t2b : (d.kind == (5 : Int)) = false := by rw [beq_eq_false_iff_ne]; exact t2
    have t3b : (d.kind == (7 : Int)) = false := by rw [beq_eq_false_iff_ne]; exact t3
    have t2c : (d.kind != (5 : Int)) = true := by rw [bne, t2b]; rfl
    have t3c : (d.kind != (7 : Int)) = true := by rw [bne, t3b]; rfl
    clear hr hdr ht hq
    have hr4 := HR1.out
    go_wp2_with (first | (with_reducible refine wpList_load_mid rfl 35 (.tmp 37) rfl g (o + k * 22) rfl cs _ hrange underlying35 rfl rM ?_) | (with_reducible refine dJ _ rfl rfl (.tmp 4) (.tmp 38) rfl w.heap.size cs.toArray rfl rfl _ hr4 rfl HCS.out sZ.out ?_; intro W5 hr5 hg5))
    have hb5 := below_grown hg5 (Nat.le_refl _) hb1.size
    refine ret_dc1 rfl rfl rfl hr5 HCS.out ⟨_, rfl, ?_, hb1.trans hb5⟩
    rw [HF.out]
    exact HP.out.keep (fun i hi hl => hb5.block i (hS i hi))
   ·have HR := Lib.hid (show qj l x = qj (l.drop (k + 1)) x by have := hr.out; rw [hdr, if_neg hq] at this; exact this)
    have hqf : Cn x d = false := by simpa using hq
    rw [hqf] at ht
    have h3 : (d.name.toList == x.toList) = false ∨ ((d.name.toList == x.toList) = true ∧ (d.kind == (5 : Int)) = true) ∨ ((d.name.toList == x.toList) = true ∧ (d.kind == (5 : Int)) = false ∧ (d.kind == (7 : Int)) = true) := by
     cases hz : (d.name.toList == x.toList)
     ·exact Or.inl rfl
     ·rw [hz] at ht
      by_cases h5 : d.kind = 5
      ·exact Or.inr (Or.inl ⟨rfl, by rw [h5]; rfl⟩)
      ·by_cases h7 : d.kind = 7
       ·exact Or.inr (Or.inr ⟨rfl, by rw [h7]; rfl, by rw [h7]; rfl⟩)
       ·simp [h5, h7] at ht
    clear hr hdr ht hq hqf
    rcases h3 with t1 | ⟨t1, t2⟩ | ⟨t1, t2, t3⟩
    case' inr.inl => have t2c : (d.kind != (5 : Int)) = false := by rw [bne, t2]; rfl
    case' inr.inr =>
     have t2c : (d.kind != (5 : Int)) = true := by rw [bne, t2]; rfl
     have t3c : (d.kind != (7 : Int)) = false := by rw [bne, t3]; rfl
    all_goals
     go_wp2
     go_round
     case rel => exact ⟨k + 1, by omega, by go_num, HR⟩
     case measure => simp [intOf]; omega
  ·obtain rfl : k = l.length := by omega
   have hkI : ¬ (l.length : Int) < (l.length : Int) := by omega
   have HF := Lib.hid (show iH l x = zDc by unfold iH; rw [hr.out, List.drop_length]; rfl)
   have hr4 := HR1.out
   clear hr
   have hz1 : zDc0.size = 22 := rfl
   have hz2 : zDc0.all (·.oneCell') = true := by kernel_rfl
   go_wp2_with (with_reducible refine dJ _ rfl rfl (.tmp 4) (.tmp 39) rfl w.heap.size zDc0 rfl rfl _ hr4 rfl hz1 hz2 ?_; intro W5 hr5 hg5)
   have hb5 := below_grown hg5 (Nat.le_refl _) hb1.size
   refine ret_dc1 rfl rfl rfl hr5 rfl ⟨_, rfl, ?_, hb1.trans hb5⟩
   rw [HF.out]
   exact zdc_at _ _
theorem EP {w : World} {S : Nat → Prop} {d : Dc} {v : Value} (h : dx w S d v) :
  (∃ nA nc, ak w S 1 nA d.names.length (aA d.names) ∧ d.names.length ≤ nc ∧ ∀ W, (Instr.field 35 v 3).run prog W = .ok (.slice nA d.names.length nc) W) ∧
  ∃ vt, dN w S d.term vt ∧ ∀ W, (Instr.field 35 v 5).run prog W = .ok vt W := by
 obtain ⟨nA, nc, fA, fc, vt, vr, vw, rfl, h1, h2, h3, h4, h5, h6, h7⟩ := h
 have h5' := h5
 obtain ⟨o1, m1, d1, wA1, wn1, wc1, kA1, kn1, kc1, rfl⟩ := h5.form
 obtain ⟨o2, m2, d2, wA2, wn2, wc2, kA2, kn2, kc2, rfl⟩ := h6.form
 obtain ⟨o3, m3, d3, wA3, wn3, wc3, kA3, kn3, kc3, rfl⟩ := h7.form
 exact ⟨⟨nA, nc, h1, h2, fun W => by kernel_rfl⟩, _, h5', fun W => by kernel_rfl⟩
def jT (l : List Dc) (x : ByteArray) : Nat := if x = (⟨#[115, 101, 114, 118, 101, 114, 115]⟩ : ByteArray) then iJ (aj l) (aj l) else iJ (aj l) (iH l x).names
theorem pK {l : List Dc} (h : (aj l).length ≤ 12) (x : ByteArray) : jT l x < 4096 := by
 unfold jT
 split <;> exact sF h _
theorem rGroup_eq {l : List Dc} (hn : (fQ l).Nodup) (hk : sD l) {x : ByteArray} (hx : x = (⟨#[115, 101, 114, 118, 101, 114, 115]⟩ : ByteArray) ∨ x ≠ (⟨#[115, 101, 114, 118, 101, 114, 115]⟩ : ByteArray) ∧ aT (tab l) x = 1) : jT l x = gK l x := by
 unfold jT gK
 rcases hx with h | ⟨h1, h2⟩
 ·rw [if_pos h, if_pos h, svSet_all ((lN l).nodup hn)]
 ·rw [if_neg h1, if_neg h1]
  obtain ⟨d, -, -, -, e1, e2⟩ := Bh hn hk (k := 1) h2 (by decide)
  unfold iH
  rw [e1, e2]
  rfl
theorem ng {l : List Dc} (A : Option Addr) (c : Nat) (w : World) (S : Nat → Prop) (hl : aL (dx w S) w S 22 A l) (hS : ∀ g, S g → g < w.heap.size) (hll : l.length ≤ 100000000) (hnd : (aj l).Nodup) (hsv : (aj l).length ≤ 12)
  (x : ByteArray) (hnl : ∀ d ∈ l, d.names.length ≤ 1000000000) :
  Calls prog 33 #[.slice A l.length c, .string x] w fun e w' => e = .returned (.int .u16 (jT l x : Nat)) ∧ Below w.heap.size w w' := by
 have HST := Lib.hid (fun (W : World) (hW : Below w.heap.size w W) (names : List ByteArray) (nA : Option Addr) (nc : Nat) (T : Nat → Prop) (hn : ak W T 1 nA names.length (aA names)) (hT : ∀ g, T g → g < W.heap.size) (hnl : names.length ≤ 1000000000) => pF A c W S (hl.keep (ai hW hS) (fun _ _ h => h.keep (ai hW hS))) (fun g hg => by have := hS g hg; have := hW.size; omega) hll hnd hsv names nA nc T hn hT hnl)
 by_cases hx : x = (⟨#[115, 101, 114, 118, 101, 114, 115]⟩ : ByteArray)
 ·have HG := Lib.hid (show jT l x = iJ (aj l) (aj l) by unfold jT; rw [if_pos hx])
  have HS0 := Lib.hid (tZ l A c w S hl hS (by omega) hll)
  obtain ⟨n, hn⟩ : ∃ n, n = jT l x := ⟨_, rfl⟩
  rw [← hn] at HG ⊢
  subst hx
  unfold rD at HS0
  clear hl hn
  go_enter func33, ntmps33
  go_wp2_with fail
  refine HS0.out.mono ?_
  rintro e w1 ⟨v1, rfl, hown, hb1⟩
  obtain ⟨A1, c1, rfl, hc1⟩ := aJ hown
  have hs1 := (ak.own hown).mono (S' := fun g => g < w1.heap.size) (fun g _ hl => hl) (by decide)
  have HC := Lib.hid (HST.out w1 hb1 _ A1 c1 _ hs1 (fun g h => h) (by omega))
  clear hown hs1
  go_wp2_with fail
  refine HC.out.mono ?_
  rintro e w2 ⟨rfl, hb2⟩
  go_wp2
  go_ret
  exact ⟨by rw [HG.out]; rfl, hb1.trans (hb2.mono hb1.size)⟩
 ·have HG := Lib.hid (show jT l x = iJ (aj l) (iH l x).names by unfold jT; rw [if_neg hx])
  have HF := Lib.hid (mG A c w S hl hS (by omega) x)
  have hnf : (iH l x).names.length ≤ 1000000000 := by
   unfold iH
   cases h : qj l x with
   |none => simp [zDc]
   |some d => exact hnl d (List.mem_of_find?_eq_some h)
  have hs3 : ¬ x.toList = [115, 101, 114, 118, 101, 114, 115] := fun e9 => hx (by rw [ByteArray.toList_eq] at e9; rw [← fZ x, e9]; rfl)
  have hs4 : (x.toList == [115, 101, 114, 118, 101, 114, 115]) = false := by rw [beq_eq_false_iff_ne]; exact hs3
  obtain ⟨n, hn⟩ : ∃ n, n = jT l x := ⟨_, rfl⟩
  rw [← hn] at HG ⊢
  clear hl hn hnl
  go_enter func33, ntmps33
  go_wp2_with fail
  refine HF.out.mono ?_
  rintro e w1 ⟨v1, rfl, hp, hb1⟩
  obtain ⟨⟨nA, nc, hsn, hnc, hfd⟩, -⟩ := EP hp
  have HC := Lib.hid (HST.out w1 hb1 _ nA nc _ hsn (fun g hg => by have := hS g hg; have := hb1.size; omega) hnf)
  clear hp hsn
  go_wp2_with fail
  refine HC.out.mono ?_
  rintro e w2 ⟨rfl, hb2⟩
  go_wp2
  go_ret
  exact ⟨by rw [HG.out]; rfl, hb1.trans (hb2.mono hb1.size)⟩
theorem Fa (n : Nd) (v : Value) (k : Nat) (w : World) (S : Nat → Prop) (hv : nP w S n v) (hS : ∀ g, S g → g < w.heap.size) (hk : n.ws.length = 0 ∨ k < n.ws.length) (hl : n.ws.length ≤ 1000000000) :
  Calls prog 31 #[v, .int .i64 k] w fun e w' => e = .returned (.int .i64 (wgt n k)) ∧ Below w.heap.size w w' := by
 obtain ⟨wA, wc, kA, kc, rfl, h1, h2, h3, h4⟩ := hv
 have hbA : ∀ (W : World) (o : Obj), Below W.heap.size W (W.alloc o) := fun W o => (Below.refl _ _).alloc (Nat.le_refl _) o
 obtain ⟨r, hr⟩ : ∃ r, r = wgt n k := ⟨_, rfl⟩
 rw [← hr]
 unfold wgt at hr
 obtain ⟨N, hN⟩ : ∃ N, N = n.ws.length := ⟨_, rfl⟩
 rw [← hN] at hr h1 h2 hk hl ⊢
 by_cases h0 : N = 0
 ·have h0I : ((N : Int) == 0) = true := by rw [h0]; rfl
  rw [if_pos h0] at hr
  have HR := Lib.hid hr
  clear hr h0 hN h1 h3
  go_enter func31, ntmps31
  go_wp2
  go_ret
  exact ⟨by rw [HR.out]; rfl, hbA _ _⟩
 ·have h0I : ((N : Int) == 0) = false := kI h0
  rw [if_neg h0] at hr
  have hkN : k < N := by omega
  obtain ⟨g, o, rfl, hSg, hc⟩ := h1.cells (by omega)
  have hgs := hS g hSg
  have c0 := hc k (.int .i64 (n.ws.getD k 0)) (by rw [iY _ k (by omega), List.getD_eq_getElem?_getD, List.getElem?_eq_getElem (by omega)]; try rfl)
  have c1 := (World.cell?_alloc_lt w (.cells #[.int .i64 n.kind, .int .i64 n.server, .int .i64 n.need, .slice (some ⟨g, o, none⟩) N wc, .slice kA n.kids.length kc] 79) ⟨g, o + k, none⟩ hgs).trans c0
  have HR := Lib.hid hr
  have hkI : (k : Int) < (N : Int) := by omega
  have hk0 : (0 : Int) ≤ (k : Int) := by omega
  rw [← hr] at c1
  clear hr h0 hN h1 h3 c0 hc hk
  go_enter func31, ntmps31
  go_wp2
  go_ret
  exact ⟨rfl, hbA _ _⟩
theorem has_ref (s i : Nat) (hs : s < 65536) (hi : i < 16) (w : World) : Calls prog 32 #[.int .u16 s, .int .i64 i] w fun e w' => e = .returned (.bool (s.testBit i)) ∧ w = w' := by
 have hbt := bitS s i hs
 have h0 : (0 : Int) ≤ (i : Int) := by omega
 have h1 : (i : Int) < 16 := by omega
 go_enter func32, ntmps32
 go_wp2
 go_ret
 exact ⟨rfl, rfl⟩
def qB (N : Nat) (l : List Bool) : Array Value := (l.map Value.bool ++ List.replicate (N - l.length) (Value.bool false)).toArray
theorem BP (N : Nat) (l : List Bool) (i : Nat) (h : i < l.length) : (qB N l)[i]? = some (.bool (l.getD i false)) := by
 unfold qB
 rw [List.getElem?_toArray, List.getElem?_append_left (by simpa using h), List.getElem?_map, List.getD_eq_getElem?_getD, List.getElem?_eq_getElem h]
 rfl
theorem EU (N : Nat) (l : List Bool) (h : l.length < N) : (qB N l)[l.length]? = some (.bool false) := by
 unfold qB
 rw [List.getElem?_toArray, List.getElem?_append_right (by simp), List.length_map, Nat.sub_self, List.getElem?_replicate, if_pos (by omega)]
theorem boolN_set (N : Nat) (l : List Bool) (b : Bool) (h : l.length < N) : (qB N l).setIfInBounds l.length (.bool b) = qB N (l ++ [b]) := by
 unfold qB
 rw [List.setIfInBounds_toArray, List.set_append_right _ _ (by simp), List.length_map, Nat.sub_self, show N - l.length = (N - (l ++ [b]).length) + 1 by simp; omega, List.replicate_succ, List.set_cons_zero, List.map_append, List.append_assoc]
 rfl
theorem Ho (N : Nat) : madeCells #[Value.bool false] N = qB N [] := by
 unfold qB madeCells
 refine Array.ext (by simp) fun i h1 h2 => ?_
 simp [Nat.mod_one]
theorem info_bool : (prog.info? 4).map (fun i => (i.zero, i.size, i.bytes)) = some (some (.bool false), 1, 1) := by kernel_rfl
theorem Dn (x : Ex) (s : Nat) (hs : s < 65536) (v : Value) (w : World) (S : Nat → Prop) (hv : kP w S x v) (hS : ∀ g, S g → g < w.heap.size) (hx : nQ x) (hlm : jN x) :
  Calls prog 10 #[v, .int .u16 s] w fun e w' => e = .returned (.bool (bY x s)) ∧ Below w.heap.size w w' := by
 obtain ⟨A, c, rfl, hn, hc⟩ := hv
 have hbA : ∀ (W : World) (o : Obj), Below W.heap.size W (W.alloc o) := fun W o => (Below.refl _ _).alloc (Nat.le_refl _) o
 have HR := Lib.hid (ja hx.root s)
 have hroot := hx.root
 have hlen := hlm.len
 obtain ⟨l, rt⟩ := x
 simp only at hn hc hroot hlen HR ⊢
 obtain ⟨R, rfl⟩ : ∃ R : Nat, rt = (R : Nat) := ⟨rt.toNat, by omega⟩
 obtain ⟨N, hN⟩ : ∃ N, N = l.length := ⟨_, rfl⟩
 have HN := Lib.hid hn
 have HLN := Lib.hid hN
 have HX := Lib.hid hx
 have HL := Lib.hid hlm.each
 simp only [Int.toNat_natCast] at HR
 have hRN : R < N := by omega
 have hRI : (R : Int) < (N : Int) := by omega
 have hR0 : (0 : Int) ≤ (R : Int) := by omega
 rw [← hN] at hc hlen ⊢
 have hmk := run_make_row' (P := prog) 77 4 (.bool false) 1 underlying77 info_bool rfl .i64 .i64 N (by omega) (by omega)
 rw [Ho] at hmk
 obtain ⟨W0, hW0⟩ : ∃ W0 : World, W0 = (w.alloc (.cells #[.slice A N c, .int .i64 R] 38)).alloc (.cells (qB N []) 4) := ⟨_, rfl⟩
 have hb0 : Below w.heap.size w W0 := by rw [hW0]; exact (hbA _ _).alloc (by simp) _
 have hr0 : W0.heap[w.heap.size]? = some (.cells #[.slice A N c, .int .i64 R] 38 (0, 0)) := by rw [hW0]; exact heap_alloc2_old _ _ _
 have hr1 : W0.heap[w.heap.size + 1]? = some (.cells (qB N []) 4 (0, 0)) := by rw [hW0]; exact heap_alloc2_new _ _ _
 have HR0 := Lib.hid hr0
 have HR1 := Lib.hid hr1
 have H0 := Lib.hid hW0
 clear hn hN hW0 hx hlm hroot hr0 hr1
 go_enter func10, ntmps10
 go_upto_region 2 with fail
 rw [← H0.out]
 go_wp2
 go_loopw [6] (fun x wr => ∃ k : Nat, k ≤ N ∧ x = .int .i64 k ∧ Below w.heap.size w wr ∧ Hid (wr.heap[w.heap.size]? = some (.cells #[.slice A N c, .int .i64 R] 38 (0, 0))) ∧ Hid (wr.heap[w.heap.size + 1]? = some (.cells (qB N (holdsGo s (l.take k))) 4 (0, 0)))) (fun x _ => N - (intOf x).toNat)
 case atStart => exact ⟨0, Nat.zero_le _, rfl, hb0, HR0, HR1⟩
 case round =>
  rename World => w1
  obtain ⟨k, hk, rfl, hbw, hq0, hq1⟩ := hrel
  obtain ⟨L, hL⟩ : ∃ L, L = holdsGo s (l.take k) := ⟨_, rfl⟩
  have hLk : L.length = k := by rw [hL, dI, List.length_take]; have := HLN.out; omega
  rw [← hL] at hq1
  have hlt1 := lt_of_block hq1.out
  obtain ⟨d0, d1⟩ := ay hq0.out
  by_cases hlt : k < N
  ·have hlt2 : k < l.length := by have := HLN.out; omega
   obtain ⟨g, o, wA, wc, kA, kc, rfl, hSg, k0, k1, k2, k3, k4, q1, q2, q3, q4⟩ := ny (HN.out.keep (P' := nP w1 S) (ai hbw hS) (fun _ _ h => h.keep (ai hbw hS))) hlt2
   have hgs : g < w1.heap.size := by have := hS g hSg; have := hbw.size; omega
   obtain ⟨n, hn⟩ : ∃ n, n = l[k] := ⟨_, rfl⟩
   have hmem : n ∈ l := by rw [hn]; exact List.getElem_mem hlt2
   have hwf : NdWf k n := by have := HX.out.nd k hlt2; rw [hn]; exact this
   have uU := fq s (l.take k) l[k]
   rw [← mD l k hlt2, ← hn, ← hL] at uU
   rw [← hn] at k0 k1 k2 k3 k4 q1 q2 q3 q4
   have HSN := Lib.hid uU
   have HWF := Lib.hid hwf
   have HLK := Lib.hid hLk
   have hkI : (k : Int) < (N : Int) := by omega
   have hk0 : (0 : Int) ≤ (k : Int) := by omega
   have hks := hwf.kind
   have hf1 := frozen_of_row _ _ k _ _ hq1.out
   obtain ⟨kd, hkd⟩ : ∃ kd, kd = n.kind := ⟨_, rfl⟩
   rw [← hkd] at k0 hks
   have HKK := Lib.hid hkd
   have hlim := HL.out n hmem
   clear hn uU hlt2 hmem hL hLk hkd
   have hcl : w1.cell? ⟨w.heap.size + 1, k, none⟩ = some (.bool false) := by
    rw [cell_of_row _ _ k _ _ _ hq1.out, ← HLK.out]
    exact EU N L (by have := HLK.out; omega)
   have HQ0 := Lib.hid (fun (X : World) (hX : Below w1.heap.size w1 X) (u : Value) => Lib.hid (show (X.setCell ⟨w.heap.size + 1, k, none⟩ u).heap[w.heap.size]? = _ from (Below.heap_setCell X ⟨w.heap.size + 1, k, none⟩ u w.heap.size (show w.heap.size ≠ w.heap.size + 1 by omega)).trans ((hX.block _ (lt_of_block hq0.out)).trans hq0.out)))
   have HQ1 := Lib.hid (fun (X : World) (hX : Below w1.heap.size w1 X) (b : Bool) => Lib.hid (show (X.setCell ⟨w.heap.size + 1, k, none⟩ (.bool b)).heap[w.heap.size + 1]? = some (.cells (qB N (L ++ [b])) 4 (0, 0)) by
    have h9 := aC ((hX.block _ hlt1).trans hq1.out) (i := k) (.bool b)
    rw [h9]
    have h8 := boolN_set N L b (by have := HLK.out; omega)
    rw [HLK.out] at h8
    rw [h8]))
   obtain ⟨M, hM⟩ : ∃ M, M = n.kids.length := ⟨_, rfl⟩
   have hwl := hwf.ws
   rw [← hM] at k4 q3 q4 hwl
   have hM9 : M ≤ 1600000 := by omega
   have HMM := Lib.hid hM
   have HSUM := Lib.hid (Eg L hwf.wt hwf.ws)
   have HKD := Lib.hid hwf.kids
   have HWT := Lib.hid hwf.wt
   have HSRV := Lib.hid hwf.server
   obtain ⟨nd, hnd1⟩ : ∃ nd, nd = n.need := ⟨_, rfl⟩
   rw [← hnd1] at k2
   have HND := Lib.hid hnd1
   obtain ⟨sv, hsv⟩ : ∃ sv, sv = n.server := ⟨_, rfl⟩
   rw [← hsv] at k1
   have HSV := Lib.hid hsv
   obtain ⟨w5, hw5⟩ : ∃ w5 : World, w5 = w1.alloc (.cells #[.int .i64 kd, .int .i64 sv, .int .i64 nd, .slice wA n.ws.length wc, .slice kA M kc] 79) := ⟨_, rfl⟩
   have hb5 : Below w1.heap.size w1 w5 := by rw [hw5]; exact hbA _ _
   have hr5 : w5.heap[w1.heap.size]? = some (.cells #[.int .i64 kd, .int .i64 sv, .int .i64 nd, .slice wA n.ws.length wc, .slice kA M kc] 79 (0, 0)) := by rw [hw5]; exact heap_alloc_new _ _
   have hr51 : w5.heap[w.heap.size + 1]? = some (.cells (qB N L) 4 (0, 0)) := (hb5.block _ hlt1).trans hq1.out
   have HR5 := Lib.hid hr5
   have HR51 := Lib.hid hr51
   have HQ3 := Lib.hid q3
   have HND5 := Lib.hid (show nP w1 S n (.agg #[.int .i64 kd, .int .i64 sv, .int .i64 nd, .slice wA n.ws.length wc, .slice kA M kc]) from
    ⟨wA, wc, kA, kc, by rw [HKK.out, HND.out, HMM.out, HSV.out], q1, q2, by rw [← HMM.out]; exact q3, by rw [← HMM.out]; exact q4⟩)
   have H5 := Lib.hid hw5
   have hk5 : w1.heap.size < w5.heap.size := lt_of_block hr5
   clear hw5 hr5 hr51 hM hnd1 q3 q1 hcl hwf hsv
   go_upto_region 8 with fail
   rw [← H5.out]
   clear d0 d1 k0 k1 k2 k3 k4 hf1
   go_loopw [8, 9] (fun y x wn => ∃ j : Nat, j ≤ M ∧ x = .int .i64 j ∧ y = .int .i64 (sumTo n L j) ∧ Below w5.heap.size w5 wn) (fun _ x _ => M - (intOf x).toNat)
   case atStart => exact ⟨0, Nat.zero_le _, rfl, rfl, Below.refl _ _⟩
   case round =>
    obtain ⟨j, hj, rfl, rfl, hbn⟩ := hrel
    have yZ : Below w1.heap.size w1 wr := hb5.trans (hbn.mono hb5.size)
    have hsum := HSUM.out j (by rw [← HMM.out]; exact hj)
    obtain ⟨sm, hsm⟩ : ∃ sm, sm = sumTo n L j := ⟨_, rfl⟩
    have hs1 := qK n L j
    rw [← hsm] at hs1 hsum ⊢
    have HSS := Lib.hid hs1
    have HSM := Lib.hid hsm
    clear hs1 hsm
    obtain ⟨y0, y1, y2, y3, y4⟩ := aO ((hbn.block _ hk5).trans HR5.out)
    have hr9 := (hbn.block _ (lt_of_block HR51.out)).trans HR51.out
    by_cases hjM : j < M
    ·have hj2 : j < n.kids.length := by rw [← HMM.out]; exact hjM
     obtain ⟨gk, ok, rfl, hSk, hck⟩ := (HQ3.out.keep (ai yZ (fun g hg => by have := hS g hg; have := hbw.size; omega))).cells (by omega)
     obtain ⟨zN, hzN⟩ : ∃ zN : Nat, zN = n.kids[j].toNat := ⟨_, rfl⟩
     have hz := HKD.out n.kids[j] (List.getElem_mem hj2)
     have hzk : zN < k := by omega
     have hzi : n.kids[j] = (zN : Nat) := by omega
     have x0 := hck j _ (show (cu n.kids)[j]? = some (.int .i64 n.kids[j]) by rw [iY _ j hj2, List.getD_eq_getElem?_getD, List.getElem?_eq_getElem hj2]; rfl)
     rw [hzi] at x0
     have x1 : wr.cell? ⟨w.heap.size + 1, zN, none⟩ = some (.bool (L.getD zN false)) := by
      rw [cell_of_row _ _ zN _ _ _ hr9]
      exact BP N L zN (by have := HLK.out; omega)
     have hgd : (n.kids.getD j 0).toNat = zN := by rw [List.getD_eq_getElem?_getD, List.getElem?_eq_getElem hj2]; exact hzN.symm
     have h9 := HSS.out
     rw [hgd] at h9
     have hgks : gk < wr.heap.size := by have := hS gk hSk; have := hbw.size; have := yZ.size; omega
     have hjI : (j : Int) < (M : Int) := by omega
     have hj0 : (0 : Int) ≤ (j : Int) := by omega
     have hzI : (zN : Int) < (N : Int) := by omega
     have hz0 : (0 : Int) ≤ (zN : Int) := by omega
     obtain ⟨bb, hbb⟩ : ∃ bb, bb = L.getD zN false := ⟨_, rfl⟩
     rw [← hbb] at h9 x1
     have HS9 := Lib.hid h9
     clear h9 hgd hzN hz hzi hbb hck hj2 HSS
     cases bb
     ·go_wp2
      go_roundw
      case rel => exact ⟨j + 1, by omega, by go_num, by rw [HS9.out]; simp, hbn⟩
      case measure => simp [intOf]; omega
     ·have hwi := zK HWT.out (k := j) (by omega)
      have HWC := Lib.hid (Fa n _ j wr S (HND5.out.keep (ai yZ (fun g hg => by have := hS g hg; have := hbw.size; omega))) (fun g hg => by have := hS g hg; have := hbw.size; have := yZ.size; omega) (by omega) (by omega))
      obtain ⟨wg, hwg⟩ : ∃ wg, wg = wgt n j := ⟨_, rfl⟩
      rw [← hwg] at HWC HS9 hwi
      have hwrap : IntKind.i64.wrap (sm + wg) = sm + wg := IntWalk.i64_in _ (by omega)
      clear hwg
      go_wp2_with fail
      refine HWC.out.mono ?_
      rintro e w8 ⟨rfl, hb8⟩
      go_wp2
      go_roundw
      case rel => exact ⟨j + 1, by omega, by go_num, by rw [HS9.out]; simp, hbn.trans (hb8.mono hbn.size)⟩
      case measure => simp [intOf]; omega
    ·obtain rfl : j = M := by omega
     have hjI : ¬ (j : Int) < (j : Int) := by omega
     have x2 : wr.cell? ⟨w.heap.size + 1, k, none⟩ = some (.bool false) := by
      rw [cell_of_row _ _ k _ _ _ hr9, ← HLK.out]
      exact EU N L (by have := HLK.out; omega)
     have x3 := frozen_of_row _ _ k _ _ hr9
     rcases hks with rfl | rfl
     ·have h12 := HSRV.out HKK.out.symm
      rw [← HSV.out] at h12
      obtain ⟨sn, rfl⟩ : ∃ sn : Nat, sv = (sn : Nat) := ⟨sv.toNat, by omega⟩
      have e9 : holdsGo s (l.take (k + 1)) = L ++ [s.testBit sn] := by rw [HSN.out, iw, if_pos HKK.out.symm, ← HSV.out, Int.toNat_natCast]
      have HE9 := Lib.hid e9
      have HH := Lib.hid (has_ref s sn hs (by omega) wr)
      clear e9 h12
      obtain ⟨tb, htb⟩ : ∃ tb, tb = s.testBit sn := ⟨_, rfl⟩
      rw [← htb] at HE9 HH
      clear htb
      go_wp2_with fail
      refine HH.out.mono ?_
      rintro e w8 ⟨rfl, rfl⟩
      cases tb
      all_goals
       go_wp2
       go_roundw
       case rel => exact ⟨k + 1, by omega, by go_num, (hbw.trans (yZ.mono hbw.size)).setCell (p := ⟨w.heap.size + 1, k, none⟩) (Nat.le_succ _) _, HQ0.out _ yZ _, by rw [HE9.out]; exact HQ1.out _ yZ _⟩
       case measure => simp [intOf]; omega
     ·have e9 : holdsGo s (l.take (k + 1)) = L ++ [decide (nd ≤ sm)] := by
       rw [HSN.out, iw, if_neg (by rw [← HKK.out]; decide), HSM.out, HND.out, HMM.out]; rfl
      have HE9 := Lib.hid e9
      clear e9
      go_wp2
      go_roundw
      case rel => exact ⟨k + 1, by omega, by go_num, (hbw.trans (yZ.mono hbw.size)).setCell (p := ⟨w.heap.size + 1, k, none⟩) (Nat.le_succ _) _, HQ0.out _ yZ _, by rw [HE9.out]; exact HQ1.out _ yZ _⟩
      case measure => simp [intOf]; omega
  ·obtain rfl : k = N := by omega
   have hkI : ¬ (k : Int) < (k : Int) := by omega
   have x1 : w1.cell? ⟨w.heap.size + 1, R, none⟩ = some (.bool (L.getD R false)) := by
    rw [cell_of_row _ _ R _ _ _ hq1.out]
    exact BP k L R (by omega)
   have HL9 := Lib.hid (show bY ⟨l, (R : Nat)⟩ s = L.getD R false by rw [HR.out, hL, HLN.out, List.take_length])
   obtain ⟨bb, hbb⟩ : ∃ bb, bb = L.getD R false := ⟨_, rfl⟩
   rw [← hbb] at x1 HL9
   clear hbb hL
   go_wp2
   go_ret
   exact ⟨by rw [HL9.out]; rfl, hbw⟩
def iI (A : Option Addr) (c : Nat) (l : List Dc) (t : Tm) (x : Ex) : Prop :=
 ∀ (v : Value) (w : World) (S : Nat → Prop) (s : Nat), aL (dx w S) w S 22 A l → dN w S t v → (∀ g, S g → g < w.heap.size) → s < 4096 → Calls prog 11 #[.slice A l.length c, v, .int .u16 s] w fun e w' => e = .returned (.bool (bY x s)) ∧ Below w.heap.size w w'
theorem pX (l : List Dc) (A : Option Addr) (c : Nat) (name : ByteArray) (w : World) (S : Nat → Prop) (hl : aL (dx w S) w S 22 A l) (hS : ∀ g, S g → g < w.heap.size) (htb : (tab l).length ≤ 100000000) (hll : l.length ≤ 100000000) :
  Calls prog 34 #[.slice A l.length c, .string name] w fun e w' => e = .returned (.int .i64 (aT (tab l) name)) ∧ Below w.heap.size w w' := by
 have HT := Lib.hid (table_ref l A c w S hl hS htb hll)
 obtain ⟨t, ht⟩ : ∃ t, t = tab l := ⟨_, rfl⟩
 unfold TabPost at HT
 rw [← ht] at HT htb ⊢
 clear hl ht
 go_enter func34, ntmps34
 go_wp2_with fail
 refine HT.out.mono ?_
 rintro e w1 ⟨v1, rfl, hown, hb⟩
 obtain ⟨A1, c1, rfl, hc1⟩ := aJ hown
 have HF := Lib.hid (find_ref (ak.own hown) c1 name (by omega))
 clear hown
 go_wp2_with fail
 refine HF.out.mono ?_
 rintro e w2 ⟨rfl, rfl⟩
 go_wp2
 go_ret
 exact ⟨rfl, hb⟩
theorem wSum_in {ws : List Int} (h : ∀ v ∈ ws, 1 ≤ v ∧ v ≤ 1000) (hs : List Bool) : 0 ≤ zH ws hs ∧ zH ws hs ≤ 1000 * hs.length := by
 induction hs using gG with
 |nil => exact ⟨Int.le_refl _, Int.le_refl _⟩
 |snoc hs b ih =>
  rw [oP, List.length_append, List.length_singleton]
  have : 0 ≤ (if ws.length = 0 then (1 : Int) else ws.getD hs.length 0) ∧ (if ws.length = 0 then (1 : Int) else ws.getD hs.length 0) ≤ 1000 := by
   split
   ·decide
   ·by_cases hk : hs.length < ws.length
    ·rw [List.getD_eq_getElem?_getD, List.getElem?_eq_getElem hk]
     have := h _ (List.getElem_mem hk)
     show 0 ≤ ws[hs.length] ∧ ws[hs.length] ≤ 1000
     omega
    ·rw [List.getD_eq_getElem?_getD, List.getElem?_eq_none (by omega)]; decide
  split <;> omega
structure RLim (l : List Dc) : Prop where
 len : l.length ≤ 100000000
 nd : (aj l).Nodup
 sv : (aj l).length ≤ 12
 names : ∀ d ∈ l, d.names.length ≤ 1000000000
 tab : (tab l).length ≤ 100000000
theorem bitN (G k : Nat) (h : G < 65536) : bits .and .u16 ((G : Int) / 2 ^ k) 1 = ((if G.testBit k then 1 else 0 : Nat) : Int) := by
 have hd : G / 2 ^ k < 65536 := Nat.lt_of_le_of_lt (Nat.div_le_self _ _) h
 have e : ((G : Int) / 2 ^ k) = ((G / 2 ^ k : Nat) : Int) := by simp
 rw [← lM, e, show (1 : Int) = ((1 : Nat) : Int) from rfl, u16_and_nat (G / 2 ^ k) 1 hd (by decide), Nat.and_one_is_mod]
 by_cases h1 : G / 2 ^ k % 2 = 1
 ·simp [h1]
 ·have : G / 2 ^ k % 2 = 0 := by omega
  simp [this]
theorem xor16 (s : Nat) (h : s < 65536) : bits .xor .u16 65535 (s : Int) = ((65535 - s : Nat) : Int) := by
 rw [show (65535 : Int) = ((65535 : Nat) : Int) from rfl, u16_xor_nat 65535 s (by decide) h]
 congr 1
 refine Nat.eq_of_testBit_eq fun i => ?_
 rw [Nat.testBit_xor, show 65535 - s = 2 ^ 16 - (s + 1) by omega, Nat.testBit_two_pow_sub_succ (by omega), show 65535 = 2 ^ 16 - 1 by rfl, Nat.testBit_two_pow_sub_one]
 by_cases hi : i < 16
 ·simp [hi]
 ·rw [Nat.testBit_lt_two_pow (Nat.lt_of_lt_of_le h (Nat.pow_le_pow_right (n := 2) (by decide) (show 16 ≤ i by omega)))]
  simp [hi]
theorem and12 (s : Nat) (h : s < 4096) : bits .and .u16 ((65535 - s : Nat) : Int) 4095 = ((4095 - s : Nat) : Int) := by
 rw [show (4095 : Int) = ((4095 : Nat) : Int) from rfl, u16_and_nat (65535 - s) 4095 (by omega) (by decide)]
 congr 1
 rw [show 4095 = 2 ^ 12 - 1 by rfl, Nat.and_two_pow_sub_one_eq_mod]
 omega
theorem pow_and (i s : Nat) : (2 ^ i &&& s ≠ 0) ↔ s.testBit i = true := by
 have h : ∀ j, (2 ^ i &&& s).testBit j = (decide (i = j) && s.testBit j) := fun j => by rw [Nat.testBit_and, Nat.testBit_two_pow]
 constructor
 ·intro h0
  cases hb : s.testBit i
  ·refine absurd (Nat.eq_of_testBit_eq fun j => ?_) h0
   rw [h, Nat.zero_testBit]
   by_cases e : i = j
   ·subst e; rw [hb]; simp
   ·simp [e]
  ·rfl
 ·intro hb h0
  have := h i
  rw [h0, hb, Nat.zero_testBit] at this
  simp at this
theorem CG {A : Option Addr} {c : Nat} {l pre : List Dc} {env : ByteArray → Ex × Nat} (hp : Plain l pre) (hL : RLim l) (hks : sD l) (op : Int) (name : ByteArray) (need : Int) (ws : List Int) (kids : List Tm) (ht : Typed pre (.mk op name need ws kids))
  (hkl : kids.length ≤ 10000000) (hwl : ws.length ≤ 10000000) (uX : ∀ x, aT (tab pre) x = 4 → (env x).2 = 0 → iI A c l (iH l x).term (env x).1) (yV : ∀ x, aT (tab pre) x = 4 → (env x).2 = 0 → nQ (env x).1)
  (ih : ∀ k ∈ kids, (fw l env k).2 = 0 → iI A c l k (fw l env k).1) (he : (fw l env (.mk op name need ws kids)).2 = 0)
  (hca : op = 1 ∧ ws = [] ∧ kids = [] ∧ (aT (tab pre) name = 2 ∨ aT (tab pre) name = 4)) : iI A c l (.mk op name need ws kids) (fw l env (.mk op name need ws kids)).1 := by
 intro v w S s hls hv hS hs0
 have HCAS := Lib.hid hca
 clear hca
 have hbA : ∀ (W : World) (o : Obj), Below W.heap.size W (W.alloc o) := fun W o => (Below.refl _ _).alloc (Nat.le_refl _) o
 cases hv with
 |mk _ _ _ _ _ wA kA wc kc vs hvw hwc hvk hkc hvl hvh =>
 have HKI := Lib.hid (show aL (dN w S) w S 5 kA kids from ⟨vs, hvl, hvk, hvh⟩)
 have HVW := Lib.hid hvw
 obtain ⟨-, h2, h3⟩ := jP he
 have hwk : ∀ x ∈ kids.map (fun t => (fw l env t).1), nQ x := fun x hx => by
  obtain ⟨t, htm, rfl⟩ := List.mem_map.1 hx
  exact oH hp yV _ t (Nat.le_refl _) (ht.parts.2.2.2 t htm) (h3 t htm)
 rw [h2] at he ⊢
 obtain ⟨rb, hrb⟩ : ∃ rb, rb = bY (gF l env op name need ws (kids.map fun t => (fw l env t).1)).1 s := ⟨_, rfl⟩
 rw [← hrb]
 have HRB := Lib.hid hrb
 clear hrb
 have HIH := Lib.hid (fun k hk => ih k hk (h3 k hk))
 have hLS := fun (W : World) (hW : Below w.heap.size w W) => (⟨hls.keep (P' := dx W S) (ai hW hS) (fun _ _ h => h.keep (ai hW hS)), fun g hg => by have := hS g hg; have := hW.size; omega⟩ : aL (dx W S) W S 22 A l ∧ ∀ g, S g → g < W.heap.size)
 have HLS := Lib.hid hLS
 have HG := Lib.hid (fun (W : World) (hW : Below w.heap.size w W) => ng A c W S (hLS W hW).1 (hLS W hW).2 hL.len hL.nd hL.sv name hL.names)
 have HKD := Lib.hid (fun (W : World) (hW : Below w.heap.size w W) => pX l A c name W S (hLS W hW).1 (hLS W hW).2 hL.tab hL.len)
 have HSET := Lib.hid (fun (W : World) (hW : Below w.heap.size w W) (nA : Option Addr) (T : Nat → Prop) (hn : ak W T 1 nA 1 (aA [name])) (hT : ∀ g, T g → g < W.heap.size) => pF A c W S (hLS W hW).1 (hLS W hW).2 hL.len hL.nd hL.sv [name] nA 1 T hn hT (by simp))
 have HFI := Lib.hid (fun (W : World) (hW : Below w.heap.size w W) => mG A c W S (hLS W hW).1 (hLS W hW).2 (by have := hL.len; omega) name)
 have hG12 := pK hL.sv name
 obtain ⟨W0, hW0⟩ : ∃ W0 : World, W0 = w.alloc (.cells #[.int .i64 op, .string name, .int .i64 need, .slice wA ws.length wc, .slice kA kids.length kc] 26) := ⟨_, rfl⟩
 have hb0 : Below w.heap.size w W0 := by rw [hW0]; exact hbA _ _
 have hr0 : W0.heap[w.heap.size]? = some (.cells #[.int .i64 op, .string name, .int .i64 need, .slice wA ws.length wc, .slice kA kids.length kc] 26 (0, 0)) := by rw [hW0]; exact heap_alloc_new _ _
 have HR0 := Lib.hid hr0
 have vS := lt_of_block hr0
 have H0 := Lib.hid hW0
 have HP := Lib.hid hp
 have HT := Lib.hid ht
 have HHE := Lib.hid he
 have HWK := Lib.hid hwk
 have HEN := Lib.hid uX
 have HLM := Lib.hid hL
 have HKS := Lib.hid hks
 clear hW0 hr0 hls hvw hvk hvl hvh ih he ht uX yV hwk h2 h3 hLS hL hks hp
 go_enter func11, ntmps11
 go_wp2_with fail
 rw [← H0.out]
 refine (HG.out W0 hb0).mono ?_
 rintro e w1 ⟨rfl, hb1⟩
 have gW := hb0.trans (hb1.mono hb0.size)
 have hr1 := (hb1.block _ vS).trans HR0.out
 have HR1 := Lib.hid hr1
 obtain ⟨z0, z1, z2, z3, z4⟩ := aO hr1
 obtain ⟨G, hG⟩ : ∃ G, G = jT l name := ⟨_, rfl⟩
 rw [← hG] at hG12 ⊢
 have HGE := Lib.hid hG
 have HB1 := Lib.hid gW
 have hlt1 := lt_of_block hr1
 have hgs := u16_and_nat G s (by omega) (by omega)
 have uY : G &&& s < 65536 := Nat.lt_of_le_of_lt Nat.and_le_left (by omega)
 obtain ⟨GS, hGS⟩ : ∃ GS, GS = G &&& s := ⟨_, rfl⟩
 rw [← hGS] at hgs uY
 have HGS := Lib.hid hGS
 clear hG hr1 hGS hb1 gW hb0 H0 HR0 vS HG
 go_wp2
 go_loop [8, 9, 10] (fun a b i => ∃ k : Nat, k ≤ 12 ∧ i = .int .i64 k ∧ a = .int .i64 (gI k G : Nat) ∧ b = .int .i64 (gI k GS : Nat)) (fun _ _ i => 12 - (intOf i).toNat)
 case atStart => exact ⟨0, Nat.zero_le _, rfl, rfl, rfl⟩
 case round =>
  obtain ⟨k, hk, rfl, rfl, rfl⟩ := hrel
  have hc1 := ku k G
  have hc2 := ku k GS
  by_cases hlt : k < 12
  ·have hb1 := bitN G k (by omega)
   have hb2 := bitN GS k uY
   have e1 := dP k G
   have e2 := dP k GS
   have hn1 : (if G.testBit k then 1 else 0 : Nat) ≤ 1 := by split <;> omega
   have hn2 : (if GS.testBit k then 1 else 0 : Nat) ≤ 1 := by split <;> omega
   generalize (if G.testBit k then 1 else 0 : Nat) = B1 at hb1 e1 hn1
   generalize (if GS.testBit k then 1 else 0 : Nat) = B2 at hb2 e2 hn2
   generalize gI k G = C1 at hc1 e1 ⊢
   generalize gI k GS = C2 at hc2 e2 ⊢
   have E1 := Lib.hid e1
   have E2 := Lib.hid e2
   have hkI : (k : Int) < 12 := by omega
   have hk0 : (0 : Int) ≤ (k : Int) := by omega
   clear e1 e2
   go_wp2
   go_round
   case rel => exact ⟨k + 1, by omega, by go_num, by rw [E1.out]; go_num, by rw [E2.out]; go_num⟩
   case measure => simp [intOf]; omega
  ·obtain rfl : k = 12 := by omega
   have hkI : ¬ ((12 : Nat) : Int) < 12 := by decide
   obtain ⟨rfl, rfl, rfl, hf⟩ := HCAS.out
   rcases hf with hf | hf
   ·obtain ⟨i, hi, hi12⟩ := HP.out.srv hf
    have hk2 : aT (tab l) name = 2 := by rw [HP.out.sub name (by rw [hf]; decide)]; exact hf
    have HE := Lib.hid (show rb = s.testBit i by rw [HRB.out]; unfold gF; rw [if_pos rfl, hi]; exact zU i s)
    have HKD1 := Lib.hid (HKD.out w1 HB1.out)
    rw [hk2] at HKD1
    have hsv : iJ (aj l) [name] = 2 ^ i := by
     have := kT (aj l) [] name
     rw [List.nil_append, hi] at this
     rw [this]
     simp [iJ]
    have HSV := Lib.hid hsv
    have h2i : 2 ^ i < 4096 := Nat.pow_lt_pow_right (n := 12) (by decide) hi12
    have hpa := u16_and_nat (2 ^ i) s (by omega) (by omega)
    have hpb := pow_and i s
    obtain ⟨P, hP⟩ : ∃ P, P = 2 ^ i := ⟨_, rfl⟩
    rw [← hP] at hpa hpb HSV h2i
    obtain ⟨PS, hPS⟩ : ∃ PS, PS = P &&& s := ⟨_, rfl⟩
    rw [← hPS] at hpa hpb
    have hne : ((PS : Int) != 0) = s.testBit i := by rw [Bool.eq_iff_iff, ← hpb]; simp
    have hne2 : ((PS : Int) == 0) = !s.testBit i := by rw [← hne]; cases h9 : ((PS : Int) == 0) <;> simp [bne, h9]
    obtain ⟨tb, htb⟩ : ∃ tb, tb = s.testBit i := ⟨_, rfl⟩
    rw [← htb] at hne hne2 HE
    clear hf hi hk2 hsv hpb hP hPS htb
    go_wp2_with fail
    refine HKD1.out.mono ?_
    rintro e w2 ⟨rfl, hb2⟩
    have hbw2 := HB1.out.trans (hb2.mono HB1.out.size)
    have r2 := (hb2.block _ hlt1).trans HR1.out
    obtain ⟨z0, z1, z2, z3, z4⟩ := aO r2
    have hbn : Below w2.heap.size w2 (w2.alloc (.cells #[.string name] 9)) := hbA _ _
    have HS3 := Lib.hid (HSET.out (w2.alloc (.cells #[.string name] 9)) (hbw2.trans (hbn.mono hbw2.size)) (some ⟨w2.heap.size, 0, none⟩) (fun g => g < w2.heap.size + 1)
     ⟨by simp [aA], fun _ => ⟨w2.heap.size, 0, rfl, Nat.lt_succ_self _, fun j u hu => by rw [cell_of_row _ _ (0 + j) _ _ _ (heap_alloc_new w2 _)]; simpa [aA] using hu⟩⟩ (fun g hg => by simpa using hg))
    rw [HSV.out] at HS3
    clear r2
    go_wp2_with fail
    refine HS3.out.mono ?_
    rintro e w3 ⟨rfl, hb3⟩
    go_wp2
    go_ret
    exact ⟨by rw [HE.out]; rfl, (hbw2.trans (hbn.mono hbw2.size)).trans (hb3.mono (hbw2.trans (hbn.mono hbw2.size)).size)⟩
   ·have hq := HP.out.qu hf
    have hx : gF l env 1 name need [] (List.map (fun t => (fw l env t).1) []) = env name := by unfold gF; rw [if_pos rfl, hq]
    have he := HHE.out
    rw [hx] at he
    have HE := Lib.hid (show rb = bY (env name).1 s by rw [HRB.out, hx])
    have HRE := Lib.hid (HEN.out name hf he)
    have hk4 : aT (tab l) name = 4 := by rw [HP.out.sub name (by rw [hf]; decide)]; exact hf
    have HKD1 := Lib.hid (HKD.out w1 HB1.out)
    rw [hk4] at HKD1
    clear hf hq he hk4 hx
    go_wp2_with fail
    refine HKD1.out.mono ?_
    rintro e w2 ⟨rfl, hb2⟩
    have hbw2 := HB1.out.trans (hb2.mono HB1.out.size)
    have r2 := (hb2.block _ hlt1).trans HR1.out
    obtain ⟨z0, z1, z2, z3, z4⟩ := aO r2
    have HFI2 := Lib.hid (HFI.out w2 hbw2)
    clear r2
    go_wp2_with fail
    refine HFI2.out.mono ?_
    rintro e w3 ⟨v3, rfl, hd3, hb3⟩
    have jw := hbw2.trans (hb3.mono hbw2.size)
    obtain ⟨-, vt, hvt, hfd⟩ := EP hd3
    have HC3 := Lib.hid (HRE.out vt w3 S s (HLS.out w3 jw).1 hvt (HLS.out w3 jw).2 hs0)
    clear hd3 hvt
    go_wp2_with fail
    refine HC3.out.mono ?_
    rintro e w4 ⟨rfl, hb4⟩
    go_wp2
    go_ret
    exact ⟨by rw [HE.out]; rfl, jw.trans (hb4.mono jw.size)⟩
theorem wX {A : Option Addr} {c : Nat} {l pre : List Dc} {env : ByteArray → Ex × Nat} (hp : Plain l pre) (hL : RLim l) (hks : sD l) (op : Int) (name : ByteArray) (need : Int) (ws : List Int) (kids : List Tm) (ht : Typed pre (.mk op name need ws kids))
  (hkl : kids.length ≤ 10000000) (hwl : ws.length ≤ 10000000) (uX : ∀ x, aT (tab pre) x = 4 → (env x).2 = 0 → iI A c l (iH l x).term (env x).1) (yV : ∀ x, aT (tab pre) x = 4 → (env x).2 = 0 → nQ (env x).1)
  (ih : ∀ k ∈ kids, (fw l env k).2 = 0 → iI A c l k (fw l env k).1) (he : (fw l env (.mk op name need ws kids)).2 = 0)
  (hop : op = 2 ∨ op = 3 ∨ op = 4) : iI A c l (.mk op name need ws kids) (fw l env (.mk op name need ws kids)).1 := by
 intro v w S s hls hv hS hs0
 have hbA : ∀ (W : World) (o : Obj), Below W.heap.size W (W.alloc o) := fun W o => (Below.refl _ _).alloc (Nat.le_refl _) o
 cases hv with
 |mk _ _ _ _ _ wA kA wc kc vs hvw hwc hvk hkc hvl hvh =>
 have HKI := Lib.hid (show aL (dN w S) w S 5 kA kids from ⟨vs, hvl, hvk, hvh⟩)
 have HVW := Lib.hid hvw
 obtain ⟨N, hN⟩ : ∃ N, N = ws.length := ⟨_, rfl⟩
 rw [← hN]
 have HN := Lib.hid hN
 obtain ⟨-, h2, h3⟩ := jP he
 have hwk : ∀ x ∈ kids.map (fun t => (fw l env t).1), nQ x := fun x hx => by
  obtain ⟨t, htm, rfl⟩ := List.mem_map.1 hx
  exact oH hp yV _ t (Nat.le_refl _) (ht.parts.2.2.2 t htm) (h3 t htm)
 rw [h2] at he ⊢
 obtain ⟨rb, hrb⟩ : ∃ rb, rb = bY (gF l env op name need ws (kids.map fun t => (fw l env t).1)).1 s := ⟨_, rfl⟩
 rw [← hrb]
 have HRB := Lib.hid hrb
 clear hrb
 have HIH := Lib.hid (fun k hk => ih k hk (h3 k hk))
 have hLS := fun (W : World) (hW : Below w.heap.size w W) => (⟨hls.keep (P' := dx W S) (ai hW hS) (fun _ _ h => h.keep (ai hW hS)), fun g hg => by have := hS g hg; have := hW.size; omega⟩ : aL (dx W S) W S 22 A l ∧ ∀ g, S g → g < W.heap.size)
 have HLS := Lib.hid hLS
 have HG := Lib.hid (fun (W : World) (hW : Below w.heap.size w W) => ng A c W S (hLS W hW).1 (hLS W hW).2 hL.len hL.nd hL.sv name hL.names)
 have HKD := Lib.hid (fun (W : World) (hW : Below w.heap.size w W) => pX l A c name W S (hLS W hW).1 (hLS W hW).2 hL.tab hL.len)
 have HSET := Lib.hid (fun (W : World) (hW : Below w.heap.size w W) (nA : Option Addr) (T : Nat → Prop) (hn : ak W T 1 nA 1 (aA [name])) (hT : ∀ g, T g → g < W.heap.size) => pF A c W S (hLS W hW).1 (hLS W hW).2 hL.len hL.nd hL.sv [name] nA 1 T hn hT (by simp))
 have HFI := Lib.hid (fun (W : World) (hW : Below w.heap.size w W) => mG A c W S (hLS W hW).1 (hLS W hW).2 (by have := hL.len; omega) name)
 have hG12 := pK hL.sv name
 obtain ⟨W0, hW0⟩ : ∃ W0 : World, W0 = w.alloc (.cells #[.int .i64 op, .string name, .int .i64 need, .slice wA N wc, .slice kA kids.length kc] 26) := ⟨_, rfl⟩
 have hb0 : Below w.heap.size w W0 := by rw [hW0]; exact hbA _ _
 have hr0 : W0.heap[w.heap.size]? = some (.cells #[.int .i64 op, .string name, .int .i64 need, .slice wA N wc, .slice kA kids.length kc] 26 (0, 0)) := by rw [hW0]; exact heap_alloc_new _ _
 have HR0 := Lib.hid hr0
 have vS := lt_of_block hr0
 have H0 := Lib.hid hW0
 have HP := Lib.hid hp
 have HT := Lib.hid ht
 have HHE := Lib.hid he
 have HWK := Lib.hid hwk
 have HEN := Lib.hid uX
 have HLM := Lib.hid hL
 have HKS := Lib.hid hks
 clear hN hW0 hr0 hls hvw hvk hvl hvh ih he ht uX yV hwk h2 h3 hLS hL hks hp
 go_enter func11, ntmps11
 go_wp2_with fail
 rw [← H0.out]
 refine (HG.out W0 hb0).mono ?_
 rintro e w1 ⟨rfl, hb1⟩
 have gW := hb0.trans (hb1.mono hb0.size)
 have hr1 := (hb1.block _ vS).trans HR0.out
 have HR1 := Lib.hid hr1
 obtain ⟨z0, z1, z2, z3, z4⟩ := aO hr1
 obtain ⟨G, hG⟩ : ∃ G, G = jT l name := ⟨_, rfl⟩
 rw [← hG] at hG12 ⊢
 have HGE := Lib.hid hG
 have HB1 := Lib.hid gW
 have hlt1 := lt_of_block hr1
 have hgs := u16_and_nat G s (by omega) (by omega)
 have uY : G &&& s < 65536 := Nat.lt_of_le_of_lt Nat.and_le_left (by omega)
 obtain ⟨GS, hGS⟩ : ∃ GS, GS = G &&& s := ⟨_, rfl⟩
 rw [← hGS] at hgs uY
 have HGS := Lib.hid hGS
 clear hG hr1 hGS hb1 gW hb0 H0 HR0 vS HG
 go_wp2
 go_loop [8, 9, 10] (fun a b i => ∃ k : Nat, k ≤ 12 ∧ i = .int .i64 k ∧ a = .int .i64 (gI k G : Nat) ∧ b = .int .i64 (gI k GS : Nat)) (fun _ _ i => 12 - (intOf i).toNat)
 case atStart => exact ⟨0, Nat.zero_le _, rfl, rfl, rfl⟩
 case round =>
  obtain ⟨k, hk, rfl, rfl, rfl⟩ := hrel
  have hc1 := ku k G
  have hc2 := ku k GS
  by_cases hlt : k < 12
  ·have hb1 := bitN G k (by omega)
   have hb2 := bitN GS k uY
   have e1 := dP k G
   have e2 := dP k GS
   have hn1 : (if G.testBit k then 1 else 0 : Nat) ≤ 1 := by split <;> omega
   have hn2 : (if GS.testBit k then 1 else 0 : Nat) ≤ 1 := by split <;> omega
   generalize (if G.testBit k then 1 else 0 : Nat) = B1 at hb1 e1 hn1
   generalize (if GS.testBit k then 1 else 0 : Nat) = B2 at hb2 e2 hn2
   generalize gI k G = C1 at hc1 e1 ⊢
   generalize gI k GS = C2 at hc2 e2 ⊢
   have E1 := Lib.hid e1
   have E2 := Lib.hid e2
   have hkI : (k : Int) < 12 := by omega
   have hk0 : (0 : Int) ≤ (k : Int) := by omega
   clear e1 e2
   go_wp2
   go_round
   case rel => exact ⟨k + 1, by omega, by go_num, by rw [E1.out]; go_num, by rw [E2.out]; go_num⟩
   case measure => simp [intOf]; omega
  ·obtain rfl : k = 12 := by omega
   have hkI : ¬ ((12 : Nat) : Int) < 12 := by decide
   obtain ⟨hE, hw1, hw2⟩ := own_sum HT.out hop HHE.out (List.length_map _) HWK.out s
   rw [List.map_map] at hE
   rw [List.length_map] at hE hw1
   obtain ⟨hs, hhs⟩ : ∃ hs, hs = kids.map ((fun x => bY x s) ∘ fun t => (fw l env t).1) := ⟨_, rfl⟩
   have hhl : hs.length = kids.length := by rw [hhs, List.length_map]
   rw [← hhs] at hE
   have HHS := Lib.hid (fun (j : Nat) (hj : j < kids.length) => show hs.take (j + 1) = hs.take j ++ [bY (fw l env kids[j]).1 s] by
    have hj2 : j < hs.length := by rw [hhl]; exact hj
    rw [List.take_succ_eq_append_getElem hj2]
    simp [hhs])
   have HHL := Lib.hid hhl
   have HE := Lib.hid (HRB.out.trans hE)
   have HW2 := Lib.hid hw2
   have hb1 : (op == (1 : Int)) = false := by rw [beq_eq_false_iff_ne]; omega
   have hb5 : (op == (5 : Int)) = false := by rw [beq_eq_false_iff_ne]; omega
   have hb6 : (op == (6 : Int)) = false := by rw [beq_eq_false_iff_ne]; omega
   have hb7 : (op == (7 : Int)) = false := by rw [beq_eq_false_iff_ne]; omega
   have hb8 : (op == (8 : Int)) = false := by rw [beq_eq_false_iff_ne]; omega
   clear hE hhs hhl hw2
   go_wp2
   go_loopw [11, 12, 13] (fun y x _ wr => ∃ j : Nat, j ≤ kids.length ∧ x = .int .i64 j ∧ y = .int .i64 (zH ws (hs.take j)) ∧ Below w1.heap.size w1 wr) (fun _ x _ _ => kids.length - (intOf x).toNat)
   case atStart => exact ⟨0, Nat.zero_le _, rfl, rfl, Below.refl _ _⟩
   case round =>
    obtain ⟨j, hj, rfl, rfl, hbr⟩ := hrel
    have hbw := HB1.out.trans (hbr.mono HB1.out.size)
    obtain ⟨z0, z1, z2, z3, z4⟩ := aO ((hbr.block _ hlt1).trans HR1.out)
    have hwi := wSum_in HW2.out (hs.take j)
    have htl : (hs.take j).length = j := by rw [List.length_take]; have := HHL.out; omega
    rw [htl] at hwi
    by_cases hjl : j < kids.length
    ·have hsn := oP ws (hs.take j) (bY (fw l env kids[j]).1 s)
     rw [← HHS.out j hjl, htl] at hsn
     obtain ⟨g, o, op2, nm2, nd2, wA2, wn2, wc2, kA2, kn2, kc2, rfl, hSg, htm, k0c, k1c, k2c, k3c, k4c⟩ := mK (fun t v h => ⟨_, h⟩) (HKI.out.keep (P' := dN wr S) (ai hbw hS) (fun _ _ h => h.keep (ai hbw hS))) j hjl
     have HC0 := Lib.hid (HIH.out kids[j] (List.getElem_mem hjl) _ wr S s (HLS.out wr hbw).1 htm (HLS.out wr hbw).2 hs0)
     obtain ⟨bb, hbb⟩ : ∃ bb, bb = bY (fw l env kids[j]).1 s := ⟨_, rfl⟩
     rw [← hbb] at hsn HC0
     obtain ⟨sm, hsm⟩ : ∃ sm, sm = zH ws (hs.take j) := ⟨_, rfl⟩
     rw [← hsm] at hsn hwi ⊢
     have hgs2 : g < wr.heap.size := by have := hS g hSg; have := hbw.size; omega
     have hjI : (j : Int) < (kids.length : Int) := by omega
     have hj0 : (0 : Int) ≤ (j : Int) := by omega
     clear htm hbb hsm htl
     cases bb
     ·have HS9 := Lib.hid hsn
      clear hsn
      go_wp2_with fail
      refine HC0.out.mono ?_
      rintro e w5 ⟨rfl, hb5⟩
      go_wp2
      go_roundw
      case rel => exact ⟨j + 1, by omega, by go_num, by rw [HS9.out]; simp, hbr.trans (hb5.mono hbr.size)⟩
      case measure => simp [intOf]; omega
     ·by_cases hw0 : N = 0
      ·have HS9 := Lib.hid (show zH ws (hs.take (j + 1)) = sm + 1 by rw [hsn, if_pos rfl, if_pos (HN.out.symm.trans hw0)])
       subst hw0
       clear hsn
       go_wp2_with fail
       refine HC0.out.mono ?_
       rintro e w5 ⟨rfl, hb5⟩
       obtain ⟨y0, y1, y2, y3, y4⟩ := aO ((hb5.block _ (Nat.lt_of_lt_of_le hlt1 hbr.size)).trans ((hbr.block _ hlt1).trans HR1.out))
       go_wp2
       go_roundw
       case rel => exact ⟨j + 1, by omega, by go_num, by rw [HS9.out], hbr.trans (hb5.mono hbr.size)⟩
       case measure => simp [intOf]; omega
      ·have hw0b : ¬ ws.length = 0 := fun e => hw0 (HN.out.trans e)
       have hjw : j < ws.length := by omega
       have hwv := HW2.out (ws[j]) (List.getElem_mem hjw)
       have HS9 := Lib.hid (show zH ws (hs.take (j + 1)) = sm + ws[j] by rw [hsn, if_pos rfl, if_neg hw0b, List.getD_eq_getElem?_getD, List.getElem?_eq_getElem hjw]; rfl)
       have hNe := HN.out
       have hwI : (0 : Int) < (N : Int) := by omega
       have hjwI : (j : Int) < (N : Int) := by omega
       clear hw0b hNe
       obtain ⟨wg, hwg⟩ : ∃ wg, wg = ws[j] := ⟨_, rfl⟩
       rw [← hwg] at HS9 hwv
       have HWG := Lib.hid (show (cu ws)[j]? = some (.int .i64 wg) by rw [iY _ j hjw, List.getD_eq_getElem?_getD, List.getElem?_eq_getElem hjw, hwg]; rfl)
       clear hsn hwg
       go_wp2_with fail
       refine HC0.out.mono ?_
       rintro e w5 ⟨rfl, hb5⟩
       have zI := hbw.trans (hb5.mono hbw.size)
       obtain ⟨gw, ow, rfl, hSw, hcw⟩ := (HVW.out.keep (ai zI hS)).cells (by omega)
       have x0 := hcw j _ HWG.out
       have hgsw : gw < w5.heap.size := by have := hS gw hSw; have := zI.size; omega
       obtain ⟨y0, y1, y2, y3, y4⟩ := aO ((hb5.block _ (Nat.lt_of_lt_of_le hlt1 hbr.size)).trans ((hbr.block _ hlt1).trans HR1.out))
       clear hcw
       go_wp2
       go_roundw
       case rel => exact ⟨j + 1, by omega, by go_num, by rw [HS9.out], hbr.trans (hb5.mono hbr.size)⟩
       case measure => simp [intOf]; omega
    ·obtain rfl : j = kids.length := by omega
     have hjI : ¬ (kids.length : Int) < (kids.length : Int) := by omega
     have htk : hs.take kids.length = hs := by rw [← HHL.out, List.take_length]
     rw [htk] at hwi ⊢
     obtain ⟨sm, hsm⟩ : ∃ sm, sm = zH ws hs := ⟨_, rfl⟩
     rw [← hsm] at hwi HE ⊢
     clear hsm htl htk
     rcases hop with rfl | rfl | rfl
     ·have HE2 := Lib.hid (show rb = decide (need ≤ sm) by rw [HE.out]; rfl)
      go_wp2
      go_ret
      exact ⟨by rw [HE2.out]; rfl, hbw⟩
     ·have HE2 := Lib.hid (show rb = (sm == (kids.length : Int)) by rw [HE.out]; rfl)
      go_wp2
      go_ret
      exact ⟨by rw [HE2.out]; rfl, hbw⟩
     ·have HE2 := Lib.hid (show rb = decide (0 < sm) by rw [HE.out]; rfl)
      go_wp2
      go_ret
      exact ⟨by rw [HE2.out]; rfl, hbw⟩
theorem CJ {A : Option Addr} {c : Nat} {l pre : List Dc} {env : ByteArray → Ex × Nat} (hp : Plain l pre) (hL : RLim l) (hks : sD l) (op : Int) (name : ByteArray) (need : Int) (ws : List Int) (kids : List Tm) (ht : Typed pre (.mk op name need ws kids))
  (hkl : kids.length ≤ 10000000) (hwl : ws.length ≤ 10000000) (uX : ∀ x, aT (tab pre) x = 4 → (env x).2 = 0 → iI A c l (iH l x).term (env x).1) (yV : ∀ x, aT (tab pre) x = 4 → (env x).2 = 0 → nQ (env x).1)
  (ih : ∀ k ∈ kids, (fw l env k).2 = 0 → iI A c l k (fw l env k).1) (he : (fw l env (.mk op name need ws kids)).2 = 0)
  (hca : op = 5 ∧ ws = [] ∧ kids.length = 1) : iI A c l (.mk op name need ws kids) (fw l env (.mk op name need ws kids)).1 := by
 intro v w S s hls hv hS hs0
 have HCAS := Lib.hid hca
 clear hca
 have hbA : ∀ (W : World) (o : Obj), Below W.heap.size W (W.alloc o) := fun W o => (Below.refl _ _).alloc (Nat.le_refl _) o
 cases hv with
 |mk _ _ _ _ _ wA kA wc kc vs hvw hwc hvk hkc hvl hvh =>
 have HKI := Lib.hid (show aL (dN w S) w S 5 kA kids from ⟨vs, hvl, hvk, hvh⟩)
 have HVW := Lib.hid hvw
 obtain ⟨-, h2, h3⟩ := jP he
 have hwk : ∀ x ∈ kids.map (fun t => (fw l env t).1), nQ x := fun x hx => by
  obtain ⟨t, htm, rfl⟩ := List.mem_map.1 hx
  exact oH hp yV _ t (Nat.le_refl _) (ht.parts.2.2.2 t htm) (h3 t htm)
 rw [h2] at he ⊢
 obtain ⟨rb, hrb⟩ : ∃ rb, rb = bY (gF l env op name need ws (kids.map fun t => (fw l env t).1)).1 s := ⟨_, rfl⟩
 rw [← hrb]
 have HRB := Lib.hid hrb
 clear hrb
 have HIH := Lib.hid (fun k hk => ih k hk (h3 k hk))
 have hLS := fun (W : World) (hW : Below w.heap.size w W) => (⟨hls.keep (P' := dx W S) (ai hW hS) (fun _ _ h => h.keep (ai hW hS)), fun g hg => by have := hS g hg; have := hW.size; omega⟩ : aL (dx W S) W S 22 A l ∧ ∀ g, S g → g < W.heap.size)
 have HLS := Lib.hid hLS
 have HG := Lib.hid (fun (W : World) (hW : Below w.heap.size w W) => ng A c W S (hLS W hW).1 (hLS W hW).2 hL.len hL.nd hL.sv name hL.names)
 have HKD := Lib.hid (fun (W : World) (hW : Below w.heap.size w W) => pX l A c name W S (hLS W hW).1 (hLS W hW).2 hL.tab hL.len)
 have HSET := Lib.hid (fun (W : World) (hW : Below w.heap.size w W) (nA : Option Addr) (T : Nat → Prop) (hn : ak W T 1 nA 1 (aA [name])) (hT : ∀ g, T g → g < W.heap.size) => pF A c W S (hLS W hW).1 (hLS W hW).2 hL.len hL.nd hL.sv [name] nA 1 T hn hT (by simp))
 have HFI := Lib.hid (fun (W : World) (hW : Below w.heap.size w W) => mG A c W S (hLS W hW).1 (hLS W hW).2 (by have := hL.len; omega) name)
 have hG12 := pK hL.sv name
 obtain ⟨W0, hW0⟩ : ∃ W0 : World, W0 = w.alloc (.cells #[.int .i64 op, .string name, .int .i64 need, .slice wA ws.length wc, .slice kA kids.length kc] 26) := ⟨_, rfl⟩
 have hb0 : Below w.heap.size w W0 := by rw [hW0]; exact hbA _ _
 have hr0 : W0.heap[w.heap.size]? = some (.cells #[.int .i64 op, .string name, .int .i64 need, .slice wA ws.length wc, .slice kA kids.length kc] 26 (0, 0)) := by rw [hW0]; exact heap_alloc_new _ _
 have HR0 := Lib.hid hr0
 have vS := lt_of_block hr0
 have H0 := Lib.hid hW0
 have HP := Lib.hid hp
 have HT := Lib.hid ht
 have HHE := Lib.hid he
 have HWK := Lib.hid hwk
 have HEN := Lib.hid uX
 have HLM := Lib.hid hL
 have HKS := Lib.hid hks
 clear hW0 hr0 hls hvw hvk hvl hvh ih he ht uX yV hwk h2 h3 hLS hL hks hp
 go_enter func11, ntmps11
 go_wp2_with fail
 rw [← H0.out]
 refine (HG.out W0 hb0).mono ?_
 rintro e w1 ⟨rfl, hb1⟩
 have gW := hb0.trans (hb1.mono hb0.size)
 have hr1 := (hb1.block _ vS).trans HR0.out
 have HR1 := Lib.hid hr1
 obtain ⟨z0, z1, z2, z3, z4⟩ := aO hr1
 obtain ⟨G, hG⟩ : ∃ G, G = jT l name := ⟨_, rfl⟩
 rw [← hG] at hG12 ⊢
 have HGE := Lib.hid hG
 have HB1 := Lib.hid gW
 have hlt1 := lt_of_block hr1
 have hgs := u16_and_nat G s (by omega) (by omega)
 have uY : G &&& s < 65536 := Nat.lt_of_le_of_lt Nat.and_le_left (by omega)
 obtain ⟨GS, hGS⟩ : ∃ GS, GS = G &&& s := ⟨_, rfl⟩
 rw [← hGS] at hgs uY
 have HGS := Lib.hid hGS
 clear hG hr1 hGS hb1 gW hb0 H0 HR0 vS HG
 go_wp2
 go_loop [8, 9, 10] (fun a b i => ∃ k : Nat, k ≤ 12 ∧ i = .int .i64 k ∧ a = .int .i64 (gI k G : Nat) ∧ b = .int .i64 (gI k GS : Nat)) (fun _ _ i => 12 - (intOf i).toNat)
 case atStart => exact ⟨0, Nat.zero_le _, rfl, rfl, rfl⟩
 case round =>
  obtain ⟨k, hk, rfl, rfl, rfl⟩ := hrel
  have hc1 := ku k G
  have hc2 := ku k GS
  by_cases hlt : k < 12
  ·have hb1 := bitN G k (by omega)
   have hb2 := bitN GS k uY
   have e1 := dP k G
   have e2 := dP k GS
   have hn1 : (if G.testBit k then 1 else 0 : Nat) ≤ 1 := by split <;> omega
   have hn2 : (if GS.testBit k then 1 else 0 : Nat) ≤ 1 := by split <;> omega
   generalize (if G.testBit k then 1 else 0 : Nat) = B1 at hb1 e1 hn1
   generalize (if GS.testBit k then 1 else 0 : Nat) = B2 at hb2 e2 hn2
   generalize gI k G = C1 at hc1 e1 ⊢
   generalize gI k GS = C2 at hc2 e2 ⊢
   have E1 := Lib.hid e1
   have E2 := Lib.hid e2
   have hkI : (k : Int) < 12 := by omega
   have hk0 : (0 : Int) ≤ (k : Int) := by omega
   clear e1 e2
   go_wp2
   go_round
   case rel => exact ⟨k + 1, by omega, by go_num, by rw [E1.out]; go_num, by rw [E2.out]; go_num⟩
   case measure => simp [intOf]; omega
  ·obtain rfl : k = 12 := by omega
   have hkI : ¬ ((12 : Nat) : Int) < 12 := by decide
   obtain ⟨rfl, rfl, hl1⟩ := HCAS.out
   have he := HHE.out
   unfold gF at he
   rw [if_neg (by decide), if_pos rfl] at he
   have hk0 : 0 < kids.length := by omega
   have hhd : (List.map (fun t => (fw l env t).1) kids).headD ex0 = (fw l env kids[0]).1 := by
    cases kids with
    |nil => simp at hk0
    |cons a r => rfl
   rw [hhd] at he
   have hE := GA he hs0
   have HE := Lib.hid (show rb = !bY (fw l env kids[0]).1 (4095 - s) by rw [HRB.out]; unfold gF; rw [if_neg (by decide), if_pos rfl, hhd]; exact hE)
   obtain ⟨g, o, op2, nm2, nd2, wA2, wn2, wc2, kA2, kn2, kc2, rfl, hSg, htm, k0c, k1c, k2c, k3c, k4c⟩ := mK (fun t v h => ⟨_, h⟩) (HKI.out.keep (P' := dN w1 S) (ai HB1.out hS) (fun _ _ h => h.keep (ai HB1.out hS))) 0 hk0
   have HC0 := Lib.hid (HIH.out kids[0] (List.getElem_mem hk0) _ w1 S (4095 - s) (HLS.out w1 HB1.out).1 htm (HLS.out w1 HB1.out).2 (by omega))
   have hxo : bits .xor .u16 IntKind.u16.max (s : Int) = ((65535 - s : Nat) : Int) := xor16 s (by omega)
   have hno := and12 s hs0
   have hgs := hS g hSg
   have hgs1 : g < w1.heap.size := by have := HB1.out.size; omega
   simp only [Nat.zero_mul, Nat.add_zero] at k0c k1c k2c k3c k4c
   obtain ⟨cs, hcs⟩ : ∃ cs, cs = 4095 - s := ⟨_, rfl⟩
   have hxs : 65535 - s < 65536 := by omega
   obtain ⟨xs, hxs2⟩ : ∃ xs, xs = 65535 - s := ⟨_, rfl⟩
   rw [← hxs2] at hxo hno hxs
   rw [← hcs] at HC0 hno HE
   obtain ⟨b0, hb0⟩ : ∃ b0, b0 = bY (fw l env kids[0]).1 cs := ⟨_, rfl⟩
   rw [← hb0] at HC0 HE
   have hkI : (0 : Int) < (kids.length : Int) := by omega
   have HL1 := Lib.hid hl1
   clear he hE htm hcs hl1 hxs2 hhd hb0 hk0
   go_wp2_with fail
   refine HC0.out.mono ?_
   rintro e w2 ⟨rfl, hb2⟩
   go_wp2
   go_ret
   exact ⟨by rw [HE.out]; rfl, HB1.out.trans (hb2.mono HB1.out.size)⟩
end Go.Proofs.YtmohibkomlhlaaaGreatDoor
