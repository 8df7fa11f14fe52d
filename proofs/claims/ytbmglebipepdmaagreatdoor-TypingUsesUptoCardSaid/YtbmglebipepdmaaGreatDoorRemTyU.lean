/- What this closing text needs beyond the base: parts of the texts on typing and on the syntax; the conditions stand at each theorem. -/
import Derived.Lib.Join
import Derived.Laws.Concat
import Derived.Lib.ItoaNum
import Derived.Lib.ItoaLen
import Derived.KernelRfl
import Derived.Maps.AppendAt
import Derived.Laws.Append
import Derived.Shelf.Strings.Builder1
import Derived.Shelf.Strings.Builder2
import Derived.Shelf.Strings.OnBuilder
import Derived.Shelf.Strconv.Itoa0
import Derived.Shelf.Strconv.Itoa1
import Derived.Shelf.LaysM
import Derived.Shelf.Strconv.Itoa2
import Derived.Shelf.Strconv.Itoa3
import Derived.Shelf.Strings.Search1
import Derived.Shelf.Strings.Search2
import Derived.Shelf.Strings.Search3
import Derived.Shelf.Strings.Count
import Derived.Shelf.Strings.Shaped
import Derived.Shelf.Slices.Turned
import Derived.Shelf.Slices.Equal
import Derived.Test.YtbmglebipepdmaaGreatDoorProg
import Derived.Test.YtbmglebipepdmaaGreatDoorPkPlain
import Derived.Test.YtbmglebipepdmaaGreatDoorPkRound
import Derived.Test.YtbmglebipepdmaaGreatDoorPkTyp
import Derived.Test.YtbmglebipepdmaaGreatDoorPkMem
import Derived.Test.YtbmglebipepdmaaGreatDoorPkPara
import Derived.Test.YtbmglebipepdmaaGreatDoorPkParb
import Derived.Test.YtbmglebipepdmaaGreatDoorPkLex
import Derived.Test.YtbmglebipepdmaaGreatDoorPkPare
import Derived.Test.YtbmglebipepdmaaGreatDoorPkVala
import Derived.Test.YtbmglebipepdmaaGreatDoorPkValb
import Derived.Test.YtbmglebipepdmaaGreatDoorPkValc
import Derived.Test.YtbmglebipepdmaaGreatDoorPkFmta
import Derived.Test.YtbmglebipepdmaaGreatDoorPkFmtb
import Derived.Test.YtbmglebipepdmaaGreatDoorPkNms
import Derived.Test.YtbmglebipepdmaaGreatDoorPkTya
import Derived.Test.YtbmglebipepdmaaGreatDoorPkTyb
import Derived.Test.YtbmglebipepdmaaGreatDoorPkOpen
import Derived.Test.YtbmglebipepdmaaGreatDoorPkCheck
import Derived.Test.YtbmglebipepdmaaGreatDoorPkRefl
import Derived.Test.YtbmglebipepdmaaGreatDoorPkRefa
import Derived.Test.YtbmglebipepdmaaGreatDoorPkRefb
import Derived.Test.YtbmglebipepdmaaGreatDoorPkRefc
import Derived.Test.YtbmglebipepdmaaGreatDoorPkRefd
import Derived.Test.YtbmglebipepdmaaGreatDoorPkEq
import Derived.Test.YtbmglebipepdmaaGreatDoorPkHead
import Derived.Test.YtbmglebipepdmaaGreatDoorPkUses
import Derived.Test.YtbmglebipepdmaaGreatDoorPkAwt
namespace Go.Proofs.YtbmglebipepdmaaGreatDoor
end Go.Proofs.YtbmglebipepdmaaGreatDoor
namespace Go.Proofs.YtbmglebipepdmaaGreatDoor
end Go.Proofs.YtbmglebipepdmaaGreatDoor
namespace Go.Proofs.YtbmglebipepdmaaGreatDoor
end Go.Proofs.YtbmglebipepdmaaGreatDoor
namespace Go.Proofs.YtbmglebipepdmaaGreatDoor
/-- What Term returns. -/
def A7 (text : List UInt8) : Tm × Nat × Nat :=
  let r := lex text 1 []
  if 65536 < text.length then (.zero, 0, 3)
  else if r.2.2 ≠ 0 then (.zero, r.2.1, r.2.2)
  else if 3000 < r.1.length then (.zero, 0, 3)
  else
    let p := iD r.1 ⟨0, 0⟩
    let s := if p.2.pos < r.1.length then fails 2 p.2 else p.2
    if s.err ≠ 0 then (.zero, gQ r.1 s.pos, s.err) else (p.1, 0, 0)
end Go.Proofs.YtbmglebipepdmaaGreatDoor
namespace Go.Proofs.YtbmglebipepdmaaGreatDoor
end Go.Proofs.YtbmglebipepdmaaGreatDoor
namespace Go.Proofs.YtbmglebipepdmaaGreatDoor
mutual
def dQ : Tm → Nat
  | .mk _ _ _ _ kids => fM kids + 1
def fM : List Tm → Nat
  | [] => 0
  | t :: r => max (dQ t) (fM r)
end
end Go.Proofs.YtbmglebipepdmaaGreatDoor
namespace Go.Proofs.YtbmglebipepdmaaGreatDoor
end Go.Proofs.YtbmglebipepdmaaGreatDoor
namespace Go.Proofs.YtbmglebipepdmaaGreatDoor
end Go.Proofs.YtbmglebipepdmaaGreatDoor
namespace Go.Proofs.YtbmglebipepdmaaGreatDoor
def ji (c : Bool) (d : Dc) : Bool := decide (d.kind = 2) || decide (d.kind = 3) || (decide (d.kind = 4) && c)
/-- What Unused returns. -/
def mQ (l : List Dc) : List ByteArray := l.flatMap fun d => if ji (eB l) d = true ∧ tyUses l d.name = [] then [d.name] else []

end Go.Proofs.YtbmglebipepdmaaGreatDoor
namespace Go.Proofs.YtbmglebipepdmaaGreatDoor
end Go.Proofs.YtbmglebipepdmaaGreatDoor
namespace Go.Proofs.YtbmglebipepdmaaGreatDoor
section
variable {ρ : ByteArray → ByteArray} {Y : ByteArray → Prop} {t t' : List (ByteArray × Int)}
end
end Go.Proofs.YtbmglebipepdmaaGreatDoor
namespace Go.Proofs.YtbmglebipepdmaaGreatDoor
section
variable {x : ByteArray} {m : List Dc}
end
end Go.Proofs.YtbmglebipepdmaaGreatDoor
namespace Go.Proofs.YtbmglebipepdmaaGreatDoor
end Go.Proofs.YtbmglebipepdmaaGreatDoor
namespace Go.Proofs.YtbmglebipepdmaaGreatDoor
open Go.RowKit
set_option maxRecDepth 100000 in
set_option maxHeartbeats 8000000 in
theorem Hq (t : Tm) (ih : ∀ k ∈ t.kids, NmOk 90 k) : NmOk 90 t := by
  intro v w S hv hS hsz
  have hss := fH t
  cases hv with
  | mk op nm need ws kids wA kA cw kc vs hw hwc hk hkc hl h =>
  have hss : au (.mk op nm need ws kids) = 1 + nm.size + ws.length + aR kids := hss
  have hkl := kz kids
  have HSZ := Lib.hid (show aR kids ≤ 1000000000 by omega)
  have IH := Lib.hid (show ∀ k ∈ kids, NmOk 90 k from ih)
  have HL := Lib.hid (show bG (gm w S) w S 5 kA kids from ⟨vs, hl, hk, h⟩)
  have hkb : kids.length ≤ 1000000000 := by omega
  clear ih hw hk hl h hss hsz
  rw [AV]
  obtain ⟨w0, hw0⟩ : ∃ w0 : World, w0 = w.alloc (.cells #[.int .i64 op, .string nm, .int .i64 need, .slice wA ws.length cw, .slice kA kids.length kc] 39) := ⟨_, rfl⟩
  have hb0 : Below w.heap.size w w0 := by rw [hw0]; exact (Below.refl _ _).alloc (Nat.le_refl _) _
  have hz0 : w0.heap.size = w.heap.size + 1 := by rw [hw0]; simp
  have hr0 : w0.heap[w.heap.size]? = some (.cells #[.int .i64 op, .string nm, .int .i64 need, .slice wA ws.length cw, .slice kA kids.length kc] 39 (0, 0)) := by rw [hw0]; exact heap_alloc_new w _
  have uy : w.heap.size + 1 ≤ w0.heap.size := by omega
  have HW0 := Lib.hid hw0
  have HZ0 := Lib.hid hz0
  have HR0 := Lib.hid hr0
  obtain ⟨c0, c1, c2, c3, c4, -⟩ := iH hr0
  clear hw0 hz0 hr0
  by_cases hn0 : nm.size = 0
  · obtain rfl : nm = ⟨#[]⟩ := by
      obtain ⟨⟨l⟩⟩ := nm
      have : l = [] := List.eq_nil_of_length_eq_zero (by simpa [ByteArray.size] using hn0)
      rw [this]
    have HE := Lib.hid (show ownName ⟨#[]⟩ = [] from rfl)
    clear hn0
    go_enter Tryz.func90, Tryz.ntmps90
    go_wp2
    rw [← HW0.out]
    go_loopw [3, 4] (fun v x wr => ∃ k : Nat, k ≤ kids.length ∧ x = .int .i64 k ∧ wr.ownsRow (w.heap.size + 1) 9 1 v (ownName ⟨#[]⟩ ++ dm (kids.take k)).length (aO (ownName ⟨#[]⟩ ++ dm (kids.take k))) ∧ Below (w.heap.size + 1) w0 wr) (fun _ x _ => kids.length - (intOf x).toNat)
    case atStart => exact ⟨0, Nat.zero_le _, rfl, World.ownsRow_nil _ _ _ _, Below.refl _ _⟩
    case round =>
      obtain ⟨k, hk, rfl, hown, hb⟩ := hrel
      have hsr := hb.size
      have hbw : Below w.heap.size w wr := hb0.trans (hb.mono (by omega))
      have hr1 := (hb.block _ (by omega)).trans HR0.out
      obtain ⟨c0, c1, c2, c3, c4, -⟩ := iH hr1
      clear hr1
      by_cases hlt : k < kids.length
      · have hlr := HL.out.keep (P' := gm wr S) (aF hbw hS) (fun _ _ h => h.keep (aF hbw hS))
        obtain ⟨g, o, op1, nm1, nd1, wA1, wn1, wc1, kA1, kn1, kc1, rfl, hSg, htm, k0, k1, k2, k3, k4, -⟩ := gV hlr hlt
        have hgs : g < wr.heap.size := World.block_lt_of_cell? wr _ k0
        have hkI : (k : Int) < (kids.length : Int) := by omega
        have hk0 : (0 : Int) ≤ (k : Int) := by omega
        have hmem : kids[k] ∈ kids := List.getElem_mem hlt
        have hts := bX hmem
        have HC := Lib.hid (fun (W : World) (hW : Below wr.heap.size wr W) => IH.out _ hmem _ W S (htm.keep (aW hW)) (fun g hg => by have := hS g hg; have := hbw.size; have := hW.size; omega) (by have := HSZ.out; omega))
        have hsn := mU kids k hlt
        have hln := mR kids (k + 1)
        rw [hsn, List.length_append] at hln
        have hol := rV ⟨#[]⟩
        obtain ⟨ns, hns⟩ : ∃ ns, ns = aK kids[k] := ⟨_, rfl⟩
        rw [← hns] at HC hsn hln
        have HSN := Lib.hid hsn
        have HBZ := Lib.hid HSZ.out
        have hlen2 : (ownName ⟨#[]⟩ ++ dm (kids.take k)).length ≤ 1000000001 := by rw [List.length_append]; have := HSZ.out; omega
        have hlen3 : ns.length ≤ 1000000000 := by have := HSZ.out; omega
        clear htm hlr hns hsn hln
        go_wp2_with fail
        refine (HC.out _ (Below.refl _ _)).mono ?_
        rintro e W2 ⟨A2, c2', rfl, hc2, hs2, hb2⟩
        skip
        have hb3 : Below wr.heap.size wr W2 := hb2
        have hown2 := own_below hown hb3 (Nat.le_refl _)
        have hsW := hb3.size
        clear k0 k1 k2 k3 k4 c0 c1 c2 c3 c4 hown hb2 HC
        go_wp2_with (at_builtin; refine pK W2 rfl (.tmp 20) (.tmp 26) rfl (w.heap.size + 1) _ _ _ hown2 rfl _ A2 ns.length c2' ns rfl rfl hs2 (by omega) (by omega) (by omega) ?_; intro v' W3 hown3 hg3 _)
        have hbl := bH hown2 hg3 (by omega)
        go_roundw
        case rel =>
          refine ⟨k + 1, by omega, by go_num, ?_, hb.trans ((hb3.mono (by omega)).trans hbl)⟩
          rw [HSN.out, ← List.append_assoc, List.length_append (bs := ns), show aO ((ownName ⟨#[]⟩ ++ dm (kids.take k)) ++ ns) = aO (ownName ⟨#[]⟩ ++ dm (kids.take k)) ++ aO ns by simp [aO]]
          exact hown3
        case measure => simp [intOf]; omega
      · obtain rfl : k = kids.length := by omega
        rw [List.take_length] at hown
        obtain ⟨A9, c9, rfl, hc9⟩ := bV hown
        have hkI : ¬ (kids.length : Int) < (kids.length : Int) := by omega
        have HO := Lib.hid hown
        clear hown
        go_wp2
        go_ret
        exact ⟨A9, c9, by rw [List.length_append]; rfl, hc9, (aV.own HO.out).mono (fun g hg _ => by omega) (by decide), hbw⟩
  · have HE := Lib.hid (show ownName nm = [nm] by unfold ownName; rw [if_neg hn0])
    have hne2 := bg (show 0 < nm.size by omega)
    have hne := av (show 0 < nm.size by omega)
    clear hn0
    go_enter Tryz.func90, Tryz.ntmps90
    go_wp2_with (at_builtin; refine jc _ rfl (.tmp 8) (.tmp 11) rfl (w.heap.size + 1) _ _ _ (World.ownsRow_nil _ _ _ _) rfl nm (by rw [ig]; rfl) (by omega) (by rw [ig]; omega) ?_; intro v' W1 hown1 hg1 _; rw [← HW0.out] at hg1; have hb1 : Below (w.heap.size + 1) w0 W1 := bH (World.ownsRow_nil w0 (w.heap.size + 1) 9 1) hg1 uy; obtain ⟨-, -, -, -, d4, -⟩ := iH ((hb1.block _ (by omega)).trans HR0.out))
    go_loopw [3, 4] (fun v x wr => ∃ k : Nat, k ≤ kids.length ∧ x = .int .i64 k ∧ wr.ownsRow (w.heap.size + 1) 9 1 v (ownName nm ++ dm (kids.take k)).length (aO (ownName nm ++ dm (kids.take k))) ∧ Below (w.heap.size + 1) w0 wr) (fun _ x _ => kids.length - (intOf x).toNat)
    case atStart => exact ⟨0, Nat.zero_le _, rfl, by rw [HE.out]; exact hown1, hb1⟩
    case round =>
      obtain ⟨k, hk, rfl, hown, hb⟩ := hrel
      have hsr := hb.size
      have hbw : Below w.heap.size w wr := hb0.trans (hb.mono (by omega))
      have hr1 := (hb.block _ (by omega)).trans HR0.out
      obtain ⟨c0, c1, c2, c3, c4, -⟩ := iH hr1
      clear hr1
      by_cases hlt : k < kids.length
      · have hlr := HL.out.keep (P' := gm wr S) (aF hbw hS) (fun _ _ h => h.keep (aF hbw hS))
        obtain ⟨g, o, op1, nm1, nd1, wA1, wn1, wc1, kA1, kn1, kc1, rfl, hSg, htm, k0, k1, k2, k3, k4, -⟩ := gV hlr hlt
        have hgs : g < wr.heap.size := World.block_lt_of_cell? wr _ k0
        have hkI : (k : Int) < (kids.length : Int) := by omega
        have hk0 : (0 : Int) ≤ (k : Int) := by omega
        have hmem : kids[k] ∈ kids := List.getElem_mem hlt
        have hts := bX hmem
        have HC := Lib.hid (fun (W : World) (hW : Below wr.heap.size wr W) => IH.out _ hmem _ W S (htm.keep (aW hW)) (fun g hg => by have := hS g hg; have := hbw.size; have := hW.size; omega) (by have := HSZ.out; omega))
        have hsn := mU kids k hlt
        have hln := mR kids (k + 1)
        rw [hsn, List.length_append] at hln
        have hol := rV nm
        obtain ⟨ns, hns⟩ : ∃ ns, ns = aK kids[k] := ⟨_, rfl⟩
        rw [← hns] at HC hsn hln
        have HSN := Lib.hid hsn
        have HBZ := Lib.hid HSZ.out
        have hlen2 : (ownName nm ++ dm (kids.take k)).length ≤ 1000000001 := by rw [List.length_append]; have := HSZ.out; omega
        have hlen3 : ns.length ≤ 1000000000 := by have := HSZ.out; omega
        clear htm hlr hns hsn hln
        go_wp2_with fail
        refine (HC.out _ (Below.refl _ _)).mono ?_
        rintro e W2 ⟨A2, c2', rfl, hc2, hs2, hb2⟩
        skip
        have hb3 : Below wr.heap.size wr W2 := hb2
        have hown2 := own_below hown hb3 (Nat.le_refl _)
        have hsW := hb3.size
        clear k0 k1 k2 k3 k4 c0 c1 c2 c3 c4 hown hb2 HC
        go_wp2_with (at_builtin; refine pK W2 rfl (.tmp 20) (.tmp 26) rfl (w.heap.size + 1) _ _ _ hown2 rfl _ A2 ns.length c2' ns rfl rfl hs2 (by omega) (by omega) (by omega) ?_; intro v' W3 hown3 hg3 _)
        have hbl := bH hown2 hg3 (by omega)
        go_roundw
        case rel =>
          refine ⟨k + 1, by omega, by go_num, ?_, hb.trans ((hb3.mono (by omega)).trans hbl)⟩
          rw [HSN.out, ← List.append_assoc, List.length_append (bs := ns), show aO ((ownName nm ++ dm (kids.take k)) ++ ns) = aO (ownName nm ++ dm (kids.take k)) ++ aO ns by simp [aO]]
          exact hown3
        case measure => simp [intOf]; omega
      · obtain rfl : k = kids.length := by omega
        rw [List.take_length] at hown
        obtain ⟨A9, c9, rfl, hc9⟩ := bV hown
        have hkI : ¬ (kids.length : Int) < (kids.length : Int) := by omega
        have HO := Lib.hid hown
        clear hown
        go_wp2
        go_ret
        exact ⟨A9, c9, by rw [List.length_append]; rfl, hc9, (aV.own HO.out).mono (fun g hg _ => by omega) (by decide), hbw⟩
theorem names_ref (t : Tm) : NmOk 90 t := by
  have : ∀ (n : Nat) (t : Tm), au t ≤ n → NmOk 90 t := by
    intro n
    induction n with
    | zero =>
        intro t ht; have : 0 < au t := by (cases t; rw [au]; omega)
        omega
    | succ n ih => intro t ht; exact Hq t (fun k hk => ih k (by have := iC hk; omega))
  exact this _ t (Nat.le_refl _)
end Go.Proofs.YtbmglebipepdmaaGreatDoor
namespace Go.Proofs.YtbmglebipepdmaaGreatDoor
open Go.RowKit
end Go.Proofs.YtbmglebipepdmaaGreatDoor
namespace Go.Proofs
open Go.Shelf
end Go.Proofs
namespace Go.Proofs
open Go.Shelf
end Go.Proofs
namespace Go.Proofs.YtbmglebipepdmaaGreatDoor
theorem few_take (l : List Dc) (k : Nat) (h : k < l.length) : ((l.take (k + 1)).map dF).sum = ((l.take k).map dF).sum + dF l[k] := by
  rw [List.take_succ_eq_append_getElem h, List.map_append, List.sum_append]; simp
theorem Io (l : List Dc) (k : Nat) : ((l.take k).map dF).sum ≤ (l.map dF).sum := by
  have h := List.take_append_drop k l
  have : (l.map dF).sum = ((l.take k).map dF).sum + ((l.drop k).map dF).sum := by
    rw [← List.sum_append, ← List.map_append, h]
  omega
theorem fts_len (l : List Ft) : l.length ≤ (l.map jB).sum := by
  induction l with
  | nil => simp
  | cons f r ih =>
    have c := vO f
    rw [List.map_cons, List.sum_cons, List.length_cons]; omega
theorem few_dc (l : List Dc) : (l.map dF).sum ≤ 10 * (l.map d9).sum := by
  induction l with
  | nil => simp
  | cons d r ih =>
    have n1 := jV d.names
    have n2 := fts_len d.faults
    have e : dF d ≤ 10 * d9 d := by unfold dF d9; omega
    rw [List.map_cons, List.map_cons, List.sum_cons, List.sum_cons]; omega
end Go.Proofs.YtbmglebipepdmaaGreatDoor
namespace Go.Proofs.YtbmglebipepdmaaGreatDoor
open Go.RowKit
theorem Cm (l : List Tm) (k : Nat) (h : k < l.length) : fM (l.take (k + 1)) = max (fM (l.take k)) (dQ l[k]) := by
  have : ∀ (a : List Tm) (t : Tm), fM (a ++ [t]) = max (fM a) (dQ t) := by
    intro a t
    induction a with
    | nil => simp [fM]
    | cons x r ih => simp only [List.cons_append, fM, ih]; omega
  rw [List.take_succ_eq_append_getElem h, this]
theorem Ee (l : List Tm) (k : Nat) (h : k < l.length) : aR (l.take (k + 1)) = aR (l.take k) + au l[k] := by
  have : ∀ (a : List Tm) (t : Tm), aR (a ++ [t]) = aR a + au t := by
    intro a t
    induction a with
    | nil => simp [aR]
    | cons x r ih => simp only [List.cons_append, aR, ih]; omega
  rw [List.take_succ_eq_append_getElem h, this]
theorem Ed (l : List Tm) (k : Nat) : aR (l.take k) ≤ aR l := by
  have : ∀ (a b : List Tm), aR (a ++ b) = aR a + aR b := by
    intro a b
    induction a with
    | nil => simp [aR]
    | cons x r ih => simp only [List.cons_append, aR, ih]; omega
  have h := this (l.take k) (l.drop k)
  rw [List.take_append_drop] at h; omega
mutual
theorem AX : ∀ t : Tm, dQ t ≤ au t
  | .mk op name need ws kids => by
    have h := pR kids
    rw [dQ, au]; omega
theorem pR : ∀ l : List Tm, fM l ≤ aR l
  | [] => by simp [fM]
  | t :: r => by
    have h1 := AX t
    have h2 := pR r
    rw [fM, aR]; omega
end
def SzOk (t : Tm) : Prop := ∀ (v : Value) (w : World) (S : Nat → Prop), gm w S t v → (∀ g, S g → g < w.heap.size) → au t ≤ 1000000000 → Calls Tryz.prog 29 #[v] w fun e w' => e = .returned (.tuple #[.int .i64 (au t), .int .i64 (dQ t)]) ∧ Below w.heap.size w w'

set_option maxRecDepth 100000 in
set_option maxHeartbeats 4000000 in
theorem size_step (t : Tm) (ih : ∀ k ∈ t.kids, SzOk k) : SzOk t := by
  intro v w S hv hS hsz
  have HSS0 := Lib.hid (fH t)
  cases hv with
  | mk op nm need ws kids wA kA cw kc vs hw hwc hk hkc hl h =>
  have hss : au (.mk op nm need ws kids) = 1 + nm.size + ws.length + aR kids := HSS0.out
  have hdd : dQ (.mk op nm need ws kids) = fM kids + 1 := by rw [dQ]
  have hkl := kz kids
  have hbig : 1 + nm.size + ws.length + aR kids ≤ 1000000000 := by omega
  have IH := Lib.hid (show ∀ k ∈ kids, SzOk k from ih)
  have HL := Lib.hid (show bG (gm w S) w S 5 kA kids from ⟨vs, hl, hk, h⟩)
  have hkb : kids.length ≤ 1000000000 := by omega
  have HSS := Lib.hid hss
  have HDD := Lib.hid hdd
  clear ih hw hk hl h hss hdd hsz
  obtain ⟨w0, hw0⟩ : ∃ w0 : World, w0 = w.alloc (.cells #[.int .i64 op, .string nm, .int .i64 need, .slice wA ws.length cw, .slice kA kids.length kc] 39) := ⟨_, rfl⟩
  have hb0 : Below w.heap.size w w0 := by rw [hw0]; exact (Below.refl _ _).alloc (Nat.le_refl _) _
  have hz0 : w0.heap.size = w.heap.size + 1 := by rw [hw0]; simp
  have hr0 : w0.heap[w.heap.size]? = some (.cells #[.int .i64 op, .string nm, .int .i64 need, .slice wA ws.length cw, .slice kA kids.length kc] 39 (0, 0)) := by rw [hw0]; exact heap_alloc_new w _
  have uy : w.heap.size + 1 ≤ w0.heap.size := by omega
  have HR0 := Lib.hid hr0
  have hnI : (nm.size : Int) ≤ 1000000000 := by omega
  have hwI : (ws.length : Int) ≤ 1000000000 := by omega
  have HW0 := Lib.hid hw0
  clear hz0 hr0 hw0
  go_enter Tryz.func29, Tryz.ntmps29
  go_wp2
  rw [← HW0.out]
  go_loopw [4, 5, 6] (fun x y z wr => ∃ k : Nat, k ≤ kids.length ∧ z = .int .i64 k ∧ x = .int .i64 ((1 + nm.size + ws.length + aR (kids.take k) : Nat) : Int) ∧ y = .int .i64 (fM (kids.take k) : Nat) ∧ Below (w.heap.size + 1) w0 wr) (fun _ _ z _ => kids.length - (intOf z).toNat)
  case atStart => exact ⟨0, Nat.zero_le _, rfl, by simp [aR], by simp [fM], Below.refl _ _⟩
  case round =>
    obtain ⟨k, hk, rfl, rfl, rfl, hb⟩ := hrel
    have hsr := hb.size
    have hbw : Below w.heap.size w wr := hb0.trans (hb.mono (by omega))
    have hr1 := (hb.block _ (by omega)).trans HR0.out
    obtain ⟨c0, c1, c2, c3, c4, -⟩ := iH hr1
    clear hr1
    by_cases hlt : k < kids.length
    · have hlr := HL.out.keep (P' := gm wr S) (aF hbw hS) (fun _ _ h => h.keep (aF hbw hS))
      obtain ⟨g, o, op1, nm1, nd1, wA1, wn1, wc1, kA1, kn1, kc1, rfl, hSg, htm, k0, k1, k2, k3, k4, -⟩ := gV hlr hlt
      have hgs : g < wr.heap.size := World.block_lt_of_cell? wr _ k0
      have hkI : (k : Int) < (kids.length : Int) := by omega
      have hk0 : (0 : Int) ≤ (k : Int) := by omega
      have hmem : kids[k] ∈ kids := List.getElem_mem hlt
      have hts := bX hmem
      have hsn := Ee kids k hlt
      have hdn := Cm kids k hlt
      have htk := Ed kids (k + 1)
      have hdl := AX kids[k]
      have hdk := pR (kids.take k)
      have HC := Lib.hid (IH.out _ hmem _ wr S htm (fun g hg => by have := hS g hg; have := hbw.size; omega) (by omega))
      obtain ⟨a, ha⟩ : ∃ a, a = au kids[k] := ⟨_, rfl⟩
      obtain ⟨d, hd⟩ : ∃ d, d = dQ kids[k] := ⟨_, rfl⟩
      rw [← ha, ← hd] at HC
      rw [← ha] at hsn
      rw [← hd] at hdn
      obtain ⟨p, hp⟩ : ∃ p, p = 1 + nm.size + ws.length + aR (kids.take k) := ⟨_, rfl⟩
      obtain ⟨q, hq⟩ : ∃ q, q = fM (kids.take k) := ⟨_, rfl⟩
      have hpa : p + a ≤ 1000000000 := by omega
      have hqb : q ≤ 1000000000 := by omega
      have hdb : d ≤ 1000000000 := by omega
      have HSN := Lib.hid (show 1 + nm.size + ws.length + aR (kids.take (k + 1)) = p + a by omega)
      have HDN := Lib.hid (show fM (kids.take (k + 1)) = max q d by rw [hdn, hq])
      rw [← hp, ← hq]
      clear htm hlr hsn hdn htk hdl hdk ha hd hp hq hts
      by_cases hqd : q ≤ d
      · have m1 : (q : Int) ≤ (d : Int) := by omega
        have m2 : ¬ (d : Int) < (q : Int) := by omega
        have HM := Lib.hid (show max q d = d by omega)
        go_wp2_with fail
        refine HC.out.mono ?_
        rintro e W2 ⟨rfl, hb2⟩
        go_wp2
        go_roundw
        case rel => exact ⟨k + 1, by omega, by go_num, by rw [HSN.out]; go_num, by rw [HDN.out, HM.out]; congr 1; omega, hb.trans (hb2.mono (by omega))⟩
        case measure => simp [intOf]; omega
      · have m1 : ¬ (q : Int) ≤ (d : Int) := by omega
        have m2 : (d : Int) < (q : Int) := by omega
        have HM := Lib.hid (show max q d = q by omega)
        go_wp2_with fail
        refine HC.out.mono ?_
        rintro e W2 ⟨rfl, hb2⟩
        go_wp2
        go_roundw
        case rel => exact ⟨k + 1, by omega, by go_num, by rw [HSN.out]; go_num, by rw [HDN.out, HM.out]; congr 1; omega, hb.trans (hb2.mono (by omega))⟩
        case measure => simp [intOf]; omega
    · obtain rfl : k = kids.length := by omega
      have hkI : ¬ (kids.length : Int) < (kids.length : Int) := by omega
      rw [List.take_length]
      have hdl := pR kids
      obtain ⟨q, hq⟩ : ∃ q, q = fM kids := ⟨_, rfl⟩
      obtain ⟨p, hp⟩ : ∃ p, p = 1 + nm.size + ws.length + aR kids := ⟨_, rfl⟩
      have HSZ := Lib.hid (HSS.out.trans hp.symm)
      have HDZ := Lib.hid (show dQ (.mk op nm need ws kids) = q + 1 by rw [HDD.out, hq])
      have hqb : q ≤ 1000000000 := by omega
      rw [← hp, ← hq]
      clear hq hp hdl
      go_wp2
      go_ret2
      refine ⟨?_, hbw⟩
      rw [HSZ.out, HDZ.out]; rfl
theorem Cv (t : Tm) : SzOk t := by
  have : ∀ (n : Nat) (t : Tm), au t ≤ n → SzOk t := by
    intro n
    induction n with
    | zero =>
        intro t ht; have : 0 < au t := by (cases t; rw [au]; omega)
        omega
    | succ n ih => intro t ht; exact size_step t (fun k hk => ih k (by have := iC hk; omega))
  exact this _ t (Nat.le_refl _)
end Go.Proofs.YtbmglebipepdmaaGreatDoor
namespace Go.Proofs.YtbmglebipepdmaaGreatDoor
open Go.RowKit
set_option maxRecDepth 100000 in
set_option maxHeartbeats 4000000 in
theorem few_ref (l : List Dc) (A : Option Addr) (c : Nat) (w : World) (S : Nat → Prop) (hl : bG (jE w S) w S 22 A l) (hS : ∀ g, S g → g < w.heap.size) (hsz : (l.map d9).sum ≤ 1100000) :
    Calls Tryz.prog 11 #[.slice A l.length c] w fun e w' => e = .returned (.bool (decide ((l.map dF).sum ≤ 10000))) ∧ Below w.heap.size w w' := by
  have HL := Lib.hid hl
  have hll := uh l
  have hlb : l.length ≤ 1100000 := by omega
  have hfd := few_dc l
  have hfb : (l.map dF).sum ≤ 11000000 := by omega
  have HFB := Lib.hid (show ∀ k, ((l.take k).map dF).sum ≤ 11000000 from fun k => by have := Io l k; omega)
  clear hl hsz hll hfd
  go_enter Tryz.func11, Tryz.ntmps11
  go_wp2
  go_loopw [3, 4] (fun n x wr => ∃ k : Nat, k ≤ l.length ∧ x = .int .i64 k ∧ n = .int .i64 (((l.take k).map dF).sum : Nat) ∧ Below w.heap.size w wr) (fun _ x _ => l.length - (intOf x).toNat)
  case atStart => exact ⟨0, Nat.zero_le _, rfl, rfl, Below.refl _ _⟩
  case round =>
    obtain ⟨k, hk, rfl, rfl, hb⟩ := hrel
    have hsr := hb.size
    by_cases hlt : k < l.length
    · obtain ⟨g, o, v, rfl, hSg, hp, hc⟩ := iM (fun _ _ h => qB h) (HL.out.keep (P' := jE wr S) (aF hb hS) (fun _ _ h => h.keep (aF hb hS))) hlt
      have hgs : g < wr.heap.size := by have := hS g hSg; omega
      have hkI : (k : Int) < (l.length : Int) := by omega
      have hk0 : (0 : Int) ≤ (k : Int) := by omega
      have hft := few_take l k hlt
      have hfk := HFB.out (k + 1)
      rw [hft] at hfk
      generalize l[k] = d at hp hft hfk
      obtain ⟨kind, line, name, names, faults, term, proto, read, write, use⟩ := d
      obtain ⟨nA, nc, fA, fc, vt, vr, vw, rfl, h1, h2, h3, h4, h5, h6, h7⟩ := hp
      obtain ⟨o1, m1, d1, wA1, wn1, wc1, kA1, kn1, kc1, rfl⟩ := h5.form
      obtain ⟨o2, m2, d2, wA2, wn2, wc2, kA2, kn2, kc2, rfl⟩ := h6.form
      obtain ⟨o3, m3, d3, wA3, wn3, wc3, kA3, kn3, kc3, rfl⟩ := h7.form
      simp only at h5 h6 h7
      have hfs : dF ⟨kind, line, name, names, faults, term, proto, read, write, use⟩ = au term + au read + au write + name.size + names.length + 10 * faults.length + proto.size + use.size := rfl
      rw [hfs] at hft hfk
      have hc2 : ∀ (j : Nat) (u : Value), ([.int .i64 kind, .int .i64 line, .string name, .slice nA names.length nc, .slice fA faults.length fc, .int .i64 o1, .string m1, .int .i64 d1, .slice wA1 wn1 wc1, .slice kA1 kn1 kc1, .string proto, .int .i64 o2, .string m2, .int .i64 d2, .slice wA2 wn2 wc2, .slice kA2 kn2 kc2, .int .i64 o3, .string m3, .int .i64 d3, .slice wA3 wn3 wc3, .slice kA3 kn3 kc3, .string use] : List Value)[j]? = some u → wr.cell? ⟨g, o + k * 22 + j, none⟩ = some u := fun j u hu => hc j u (by simpa [cellsOf, Value.cells] using hu)
      have hSW : ∀ (W : World), Below wr.heap.size wr W → ∀ g, S g → g < W.heap.size := fun W hW g hg => by have := hS g hg; have := hW.size; omega
      have e1 : au term ≤ 11000000 := by omega
      have e2 : au read ≤ 11000000 := by omega
      have e3 : au write ≤ 11000000 := by omega
      have hs1 := fun (W : World) (hW : Below wr.heap.size wr W) => Cv term _ W S (h5.keep (aW hW)) (hSW W hW) (by omega)
      have hs2 := fun (W : World) (hW : Below wr.heap.size wr W) => Cv read _ W S (h6.keep (aW hW)) (hSW W hW) (by omega)
      have hs3 := fun (W : World) (hW : Below wr.heap.size wr W) => Cv write _ W S (h7.keep (aW hW)) (hSW W hW) (by omega)
      obtain ⟨z1, y1⟩ : ∃ z, z = au term := ⟨_, rfl⟩
      obtain ⟨z2, y2⟩ : ∃ z, z = au read := ⟨_, rfl⟩
      obtain ⟨z3, y3⟩ : ∃ z, z = au write := ⟨_, rfl⟩
      simp only [← y1] at hs1
      simp only [← y2] at hs2
      simp only [← y3] at hs3
      rw [← y1, ← y2, ← y3] at hft hfk
      have HS1 := Lib.hid hs1
      have HS2 := Lib.hid hs2
      have HS3 := Lib.hid hs3
      obtain ⟨p, hp⟩ : ∃ p, p = ((l.take k).map dF).sum := ⟨_, rfl⟩
      rw [← hp] at hft hfk
      rw [← hp]
      have HSN := Lib.hid hft
      have p1 : p ≤ 11000000 := by omega
      have p2 : z1 ≤ 11000000 := by omega
      have p3 : z2 ≤ 11000000 := by omega
      have p4 : z3 ≤ 11000000 := by omega
      have p5 : name.size ≤ 11000000 := by omega
      have p6 : names.length ≤ 11000000 := by omega
      have p7 : faults.length ≤ 11000000 := by omega
      have p8 : proto.size ≤ 11000000 := by omega
      have p9 : use.size ≤ 11000000 := by omega
      clear hft hfk hfs hs1 hs2 hs3 h1 h2 h3 h4 h5 h6 h7 hc y1 y2 y3 hp e1 e2 e3
      have HC := Lib.hid hc2
      have a5 : wr.cell? ⟨g, o + k * 22 + 5, none⟩ = some (.int .i64 o1) := HC.out 5 _ rfl
      have a6 : wr.cell? ⟨g, o + k * 22 + 6, none⟩ = some (.string m1) := HC.out 6 _ rfl
      have a7 : wr.cell? ⟨g, o + k * 22 + 7, none⟩ = some (.int .i64 d1) := HC.out 7 _ rfl
      have a8 : wr.cell? ⟨g, o + k * 22 + 8, none⟩ = some (.slice wA1 wn1 wc1) := HC.out 8 _ rfl
      have a9 : wr.cell? ⟨g, o + k * 22 + 9, none⟩ = some (.slice kA1 kn1 kc1) := HC.out 9 _ rfl
      go_wp2_with fail
      refine (HS1.out wr (Below.refl _ _)).mono ?_
      rintro e W1 ⟨rfl, hb1⟩
      clear a5 a6 a7 a8 a9
      have b11 : W1.cell? ⟨g, o + k * 22 + 11, none⟩ = some (.int .i64 o2) := (hb1.cell (p := ⟨g, o + k * 22 + 11, none⟩) hgs).trans (HC.out 11 _ rfl)
      have b12 : W1.cell? ⟨g, o + k * 22 + 12, none⟩ = some (.string m2) := (hb1.cell (p := ⟨g, o + k * 22 + 12, none⟩) hgs).trans (HC.out 12 _ rfl)
      have b13 : W1.cell? ⟨g, o + k * 22 + 13, none⟩ = some (.int .i64 d2) := (hb1.cell (p := ⟨g, o + k * 22 + 13, none⟩) hgs).trans (HC.out 13 _ rfl)
      have b14 : W1.cell? ⟨g, o + k * 22 + 14, none⟩ = some (.slice wA2 wn2 wc2) := (hb1.cell (p := ⟨g, o + k * 22 + 14, none⟩) hgs).trans (HC.out 14 _ rfl)
      have b15 : W1.cell? ⟨g, o + k * 22 + 15, none⟩ = some (.slice kA2 kn2 kc2) := (hb1.cell (p := ⟨g, o + k * 22 + 15, none⟩) hgs).trans (HC.out 15 _ rfl)
      go_wp2_with fail
      refine (HS2.out W1 hb1).mono ?_
      rintro e W2 ⟨rfl, hb2⟩
      have hx2 : Below wr.heap.size wr W2 := hb1.trans (hb2.mono hb1.size)
      clear b11 b12 b13 b14 b15
      have e16 : W2.cell? ⟨g, o + k * 22 + 16, none⟩ = some (.int .i64 o3) := (hx2.cell (p := ⟨g, o + k * 22 + 16, none⟩) hgs).trans (HC.out 16 _ rfl)
      have e17 : W2.cell? ⟨g, o + k * 22 + 17, none⟩ = some (.string m3) := (hx2.cell (p := ⟨g, o + k * 22 + 17, none⟩) hgs).trans (HC.out 17 _ rfl)
      have e18 : W2.cell? ⟨g, o + k * 22 + 18, none⟩ = some (.int .i64 d3) := (hx2.cell (p := ⟨g, o + k * 22 + 18, none⟩) hgs).trans (HC.out 18 _ rfl)
      have e19 : W2.cell? ⟨g, o + k * 22 + 19, none⟩ = some (.slice wA3 wn3 wc3) := (hx2.cell (p := ⟨g, o + k * 22 + 19, none⟩) hgs).trans (HC.out 19 _ rfl)
      have e20 : W2.cell? ⟨g, o + k * 22 + 20, none⟩ = some (.slice kA3 kn3 kc3) := (hx2.cell (p := ⟨g, o + k * 22 + 20, none⟩) hgs).trans (HC.out 20 _ rfl)
      go_wp2_with fail
      refine (HS3.out W2 hx2).mono ?_
      rintro e W3 ⟨rfl, hb3⟩
      have hx3 : Below wr.heap.size wr W3 := hx2.trans (hb3.mono hx2.size)
      have hgs3 : g < W3.heap.size := Nat.lt_of_lt_of_le hgs hx3.size
      clear e16 e17 e18 e19 e20
      have f2 : W3.cell? ⟨g, o + k * 22 + 2, none⟩ = some (.string name) := (hx3.cell (p := ⟨g, o + k * 22 + 2, none⟩) hgs).trans (HC.out 2 _ rfl)
      have f3 : W3.cell? ⟨g, o + k * 22 + 3, none⟩ = some (.slice nA names.length nc) := (hx3.cell (p := ⟨g, o + k * 22 + 3, none⟩) hgs).trans (HC.out 3 _ rfl)
      have f4 : W3.cell? ⟨g, o + k * 22 + 4, none⟩ = some (.slice fA faults.length fc) := (hx3.cell (p := ⟨g, o + k * 22 + 4, none⟩) hgs).trans (HC.out 4 _ rfl)
      have f10 : W3.cell? ⟨g, o + k * 22 + 10, none⟩ = some (.string proto) := (hx3.cell (p := ⟨g, o + k * 22 + 10, none⟩) hgs).trans (HC.out 10 _ rfl)
      have f21 : W3.cell? ⟨g, o + k * 22 + 21, none⟩ = some (.string use) := (hx3.cell (p := ⟨g, o + k * 22 + 21, none⟩) hgs).trans (HC.out 21 _ rfl)
      go_upto_region 8 with fail
      go_quiet (fail)
      go_wp2
      go_roundw
      case rel =>
        refine ⟨k + 1, by omega, by go_num, ?_, below_drewN (hb.trans (hx3.mono hsr)) _⟩
        rw [HSN.out]
        go_num
      case measure => simp [intOf]; omega
    · obtain rfl : k = l.length := by omega
      have hkI : ¬ (l.length : Int) < (l.length : Int) := by omega
      rw [List.take_length]
      obtain ⟨n, hn⟩ : ∃ n, n = (l.map dF).sum := ⟨_, rfl⟩
      rw [← hn]
      have HN := Lib.hid hn
      rw [← hn] at hfb
      clear hn
      go_wp2
      go_ret
      refine ⟨?_, hb⟩
      show Ending.returned (.bool (decide ((n : Int) ≤ 10000))) = _
      rw [show decide ((n : Int) ≤ 10000) = decide (n ≤ 10000) by rw [Bool.eq_iff_iff, decide_eq_true_iff, decide_eq_true_iff]; omega, HN.out]
end Go.Proofs.YtbmglebipepdmaaGreatDoor
namespace Go.Proofs.YtbmglebipepdmaaGreatDoor
open Go.RowKit
end Go.Proofs.YtbmglebipepdmaaGreatDoor
namespace Go.Proofs.YtbmglebipepdmaaGreatDoor
open Go.RowKit
end Go.Proofs.YtbmglebipepdmaaGreatDoor
namespace Go.Proofs.YtbmglebipepdmaaGreatDoor
open Go.RowKit
set_option maxRecDepth 100000 in
set_option maxHeartbeats 1000000 in
theorem kind_ref (d : Dc) (v : Value) (w : World) (S : Nat → Prop) (hd : jE w S d v) :
    Calls Tryz.prog 51 #[v] w fun e w' => e = .returned (.int .i64 (jl d.kind)) ∧ Below w.heap.size w w' := by
  obtain ⟨cs, nA, nc, hcl, hone, rfl, c0, -⟩ := rC hd
  have e0 : (w.alloc (.cells cs.toArray 41)).cell? ⟨w.heap.size, 0, none⟩ = some (.int .i64 d.kind) := rE (heap_alloc_new w _) c0
  have hfin := (Below.refl w.heap.size w).alloc (Nat.le_refl _) (.cells cs.toArray 41)
  obtain ⟨k, hk⟩ : ∃ k, k = d.kind := ⟨_, rfl⟩
  rw [← hk] at e0 ⊢
  clear hd c0 hcl hone hk
  by_cases h1 : k = 1
  · subst h1
    go_enter Tryz.func51, Tryz.ntmps51
    go_wp2
    go_ret
    exact ⟨rfl, hfin⟩
  by_cases h2 : k = 2
  · subst h2
    go_enter Tryz.func51, Tryz.ntmps51
    go_wp2
    go_ret
    exact ⟨rfl, hfin⟩
  by_cases h3 : k = 3
  · subst h3
    go_enter Tryz.func51, Tryz.ntmps51
    go_wp2
    go_ret
    exact ⟨rfl, hfin⟩
  by_cases h4 : k = 4
  · subst h4
    go_enter Tryz.func51, Tryz.ntmps51
    go_wp2
    go_ret
    exact ⟨rfl, hfin⟩
  by_cases h6 : k = 6
  · subst h6
    go_enter Tryz.func51, Tryz.ntmps51
    go_wp2
    go_ret
    exact ⟨rfl, hfin⟩
  have q1 : (k == (1 : Int)) = false := by rw [beq_eq_false_iff_ne]; exact h1
  have q2 : (k == (2 : Int)) = false := by rw [beq_eq_false_iff_ne]; exact h2
  have q3 : (k == (3 : Int)) = false := by rw [beq_eq_false_iff_ne]; exact h3
  have q4 : (k == (4 : Int)) = false := by rw [beq_eq_false_iff_ne]; exact h4
  have q6 : (k == (6 : Int)) = false := by rw [beq_eq_false_iff_ne]; exact h6
  have HK := Lib.hid (show jl k = 0 by unfold jl; rw [if_neg h1, if_neg h2, if_neg h3, if_neg h4, if_neg h6])
  clear h1 h2 h3 h4 h6
  go_enter Tryz.func51, Tryz.ntmps51
  go_wp2
  go_ret
  exact ⟨by rw [HK.out]; rfl, hfin⟩

section
variable {t : List (ByteArray × Int)} {A : Option Addr} {w : World} {S : Nat → Prop}
theorem ba_tl (a b : ByteArray) : (a == b) = (a.toList == b.toList) := by
  rw [Bool.eq_iff_iff, gY, beq_iff_eq, ByteArray.toList_eq, ByteArray.toList_eq]
  exact ⟨fun h => by rw [h], fun h => ByteArray.ext (Array.toList_inj.1 h)⟩
end
end Go.Proofs.YtbmglebipepdmaaGreatDoor
namespace Go.Proofs.YtbmglebipepdmaaGreatDoor
open Go.RowKit
end Go.Proofs.YtbmglebipepdmaaGreatDoor
namespace Go.Proofs.YtbmglebipepdmaaGreatDoor
open Go.RowKit
def Mj (l : List Dc) (w : World) (e : Ending) (w' : World) : Prop := ∃ v, e = .returned v ∧ w'.ownsRow w.heap.size 9 1 v (mQ l).length (aO (mQ l)) ∧ Below w.heap.size w w'
theorem L8 (w : World) (S : Nat → Prop) (l : List Dc) : Tests (fun W x v => jE W S x v) w 50 l (fun d => decide (d.kind = 7)) := by
  intro d _ v W hd _
  show Calls Tryz.prog 50 #[v] W fun e W' => e = .returned (.bool (decide (d.kind = 7))) ∧ Below W.heap.size W W'
  obtain ⟨cs, nA, nc, hcl, hone, rfl, c0, -⟩ := rC hd
  have e0 : (W.alloc (.cells cs.toArray 41)).cell? ⟨W.heap.size, 0, none⟩ = some (.int .i64 d.kind) := rE (heap_alloc_new W _) c0
  have hfin := (Below.refl W.heap.size W).alloc (Nat.le_refl _) (.cells cs.toArray 41)
  obtain ⟨q, hq⟩ : ∃ q, q = decide (d.kind = 7) := ⟨_, rfl⟩
  have hqb : (d.kind == (7 : Int)) = q := by rw [hq]; rfl
  rw [← hq]
  clear hd c0 hcl hone hq
  go_enter Tryz.func50, Tryz.ntmps50
  go_wp2
  go_ret
  exact ⟨rfl, hfin⟩
/-- Unused of a part, with the whole's chain and uses. -/
def mP (m l : List Dc) : List ByteArray := l.flatMap fun d => if ji (eB m) d = true ∧ tyUses m d.name = [] then [d.name] else []
theorem Ck (m l : List Dc) (d : Dc) : mP m (l ++ [d]) = mP m l ++ if ji (eB m) d = true ∧ tyUses m d.name = [] then [d.name] else [] := by unfold mP; rw [List.flatMap_append]; simp
theorem Ec (m l : List Dc) : (mP m l).length ≤ l.length := by
  unfold mP
  induction l with
  | nil => simp
  | cons d r ih =>
    have h1 : (if ji (eB m) d = true ∧ tyUses m d.name = [] then [d.name] else []).length ≤ 1 := by split <;> simp
    rw [List.flatMap_cons, List.length_append, List.length_cons]; omega
set_option maxRecDepth 100000 in
set_option maxHeartbeats 8000000 in
theorem unused_any (l : List Dc) (A : Option Addr) (c : Nat) (w : World) (S : Nat → Prop) (hl : bG (jE w S) w S 22 A l) (hS : ∀ g, S g → g < w.heap.size) (hsz : (l.map d9).sum ≤ 10000000) (hll : l.length ≤ 10000000) :
    Calls Tryz.prog 19 #[.slice A l.length c] w (Mj l w) := by
  have HL := Lib.hid hl
  have HC := Lib.hid (vV l S A c w hl hS (by omega) 50 (enters_of Tryz.func50 (by kernel_rfl) rfl) _ (L8 w S l))
  have HU := Lib.hid (fun (W : World) (hW : Below w.heap.size w W) (x : ByteArray) => Jd l A c x W S (hl.keep (aF hW hS) (fun _ _ h => h.keep (aF hW hS))) (fun g hg => by have := hS g hg; have := hW.size; omega) hsz hll)
  obtain ⟨ch, hch⟩ : ∃ ch, ch = eB l := ⟨_, rfl⟩
  have hch2 : l.any (fun d => decide (d.kind = 7)) = ch := hch.symm
  rw [hch2] at HC
  have HCH := Lib.hid hch
  clear hl hch hch2
  go_enter Tryz.func19, Tryz.ntmps19
  go_wp2_with fail
  refine HC.out.mono ?_
  rintro e w1 ⟨rfl, hb1⟩
  go_wp2_with fail
  go_loopw [4, 12] (fun v x' wr => ∃ k : Nat, k ≤ l.length ∧ x' = .int .i64 k ∧ wr.ownsRow w.heap.size 9 1 v (mP l (l.take k)).length (aO (mP l (l.take k))) ∧ Below w.heap.size w wr) (fun _ x _ => l.length - (intOf x).toNat)
  case atStart => exact ⟨0, Nat.zero_le _, rfl, World.ownsRow_nil _ _ _ _, hb1⟩
  case round =>
    obtain ⟨k, hk, rfl, hown, hb⟩ := hrel
    have hsr := hb.size
    by_cases hlt : k < l.length
    · obtain ⟨g, o, v2, rfl, hSg, hp, hc⟩ := iM (fun _ _ h => qB h) HL.out hlt
      have hgs : g < w.heap.size := hS g hSg
      obtain ⟨d, hd⟩ : ∃ d, d = l[k] := ⟨_, rfl⟩
      have htk := A8 l k hlt
      rw [← hd] at hp htk
      obtain ⟨cs, nA, nc, hcl, hone, rfl, c0, -, c2, c3, -, hsn, hnc⟩ := rC hp
      have hrange : w.rangeAt g (o + k * 22) cs := fun j u hu => hc j u (by simpa [cellsOf, Value.cells] using hu)
      have hrr : wr.rangeAt g (o + k * 22) cs := xR hrange hb hgs
      have BA : (Tryz.prog.info? 41).map (·.size) = some cs.length := by rw [hcl]; exact fP
      have hcs2 : cs.toArray.size = 22 := by simpa using hcl
      have Mv := Lib.hid hone
      have HCS := Lib.hid hcs2
      have C0 := Lib.hid c0
      have C2 := Lib.hid c2
      have hkI : (k : Int) < (l.length : Int) := by omega
      have hk0 : (0 : Int) ≤ (k : Int) := by omega
      have hbA : ∀ o, Below wr.heap.size wr (wr.alloc o) := fun o => (Below.refl _ _).alloc (Nat.le_refl _) o
      obtain ⟨cur, hcur⟩ : ∃ cur, cur = mP l (l.take k) := ⟨_, rfl⟩
      have htu := Ck l (l.take k) d
      rw [← htk, ← hcur, ← HCH.out] at htu
      have hcll : cur.length ≤ 10000000 := by rw [hcur]; have := Ec l (l.take k); rw [List.length_take] at this; omega
      rw [← hcur] at hown
      have HTU := Lib.hid htu
      clear hcur htk hd hc hcl c0 c2 c3 hone hsn htu hp hcs2
      go_upto_region 6 with (first | (with_reducible refine wpList_load_mid rfl 41 (.tmp 14) rfl g (o + k * 22) rfl cs _ hrr Tryz.underlying41 rfl BA ?_) | (with_reducible refine gG _ rfl rfl (.tmp 6) (.tmp 15) rfl wr.heap.size cs.toArray rfl rfl _ (heap_alloc_new wr _) rfl HCS.out Mv.out ?_; intro W5 hr5 hg5; have hb5 : Below wr.heap.size wr W5 := (hbA _).trans (below_grown hg5 (Nat.le_refl _) (by simp)); have hz5 : wr.heap.size < W5.heap.size := lt_of_block hr5))
      have JU : Below w.heap.size w W5 := hb.trans (hb5.mono hsr)
      have hs5 := JU.size
      have hown5 := own_below hown hb5 (Nat.le_refl _)
      have e0 : W5.cell? ⟨wr.heap.size, 0, none⟩ = some (.int .i64 d.kind) := rE hr5 C0.out
      have e2 : W5.cell? ⟨wr.heap.size, 2, none⟩ = some (.string d.name) := rE hr5 C2.out
      have HR5 := Lib.hid hr5
      clear hown hr5 hg5 hrr hrange BA hb5 hb
      obtain ⟨q, hq⟩ : ∃ q, q = ji ch d := ⟨_, rfl⟩
      rw [← hq] at HTU
      unfold ji at hq
      have HQ := Lib.hid hq
      clear hq
      go_cut [7] (fun s7 wx => s7 = .bool q ∧ W5 = wx)
      case first =>
        obtain ⟨kd, hkd⟩ : ∃ kd, kd = d.kind := ⟨_, rfl⟩
        rw [← hkd] at e0 HQ
        clear hkd
        by_cases h2 : kd = 2
        · subst h2
          have hq1 : q = true := by rw [HQ.out]; rfl
          subst hq1
          go_wp2
          go_meet
          exact ⟨rfl, rfl⟩
        by_cases h3 : kd = 3
        · subst h3
          have hq1 : q = true := by rw [HQ.out]; rfl
          subst hq1
          go_wp2
          go_meet
          exact ⟨rfl, rfl⟩
        have b2 : (kd == (2 : Int)) = false := by rw [beq_eq_false_iff_ne]; exact h2
        have b3 : (kd == (3 : Int)) = false := by rw [beq_eq_false_iff_ne]; exact h3
        by_cases h4 : kd = 4
        · subst h4
          have hq1 : q = ch := by rw [HQ.out]; simp
          subst hq1
          clear h2 h3
          cases q
          · go_wp2
            go_meet
            exact ⟨rfl, rfl⟩
          · go_wp2
            go_meet
            exact ⟨rfl, rfl⟩
        have b4 : (kd == (4 : Int)) = false := by rw [beq_eq_false_iff_ne]; exact h4
        have hq1 : q = false := by rw [HQ.out]; simp [h2, h3, h4]
        subst hq1
        clear h2 h3 h4
        go_wp2
        go_meet
        exact ⟨rfl, rfl⟩
      case rest =>
        obtain ⟨rfl, rfl⟩ := hcut
        cases q
        · have HT2 := Lib.hid (show mP l (l.take (k + 1)) = cur by rw [HTU.out, if_neg (fun h => by cases h.1), List.append_nil])
          go_wp2
          go_roundw
          case rel =>
            refine ⟨k + 1, by omega, by go_num, ?_, JU⟩
            rw [HT2.out]
            exact hown5
          case measure => simp [intOf]; omega
        · have HUC := Lib.hid (HU.out W5 JU d.name)
          unfold Ka at HUC
          obtain ⟨us, hus⟩ : ∃ us, us = tyUses l d.name := ⟨_, rfl⟩
          rw [← hus] at HUC HTU
          clear hus
          go_wp2_with fail
          refine HUC.out.mono ?_
          rintro e W6 ⟨v6, rfl, hown6, hb6⟩
          obtain ⟨A6, c6, rfl, hc6⟩ := bV hown6
          have Ik := own_below hown5 hb6 (Nat.le_refl _)
          have hbw6 : Below w.heap.size w W6 := JU.trans (hb6.mono JU.size)
          have hs6 := hbw6.size
          have e2 : W6.cell? ⟨wr.heap.size, 2, none⟩ = some (.string d.name) := rE ((hb6.block wr.heap.size hz5).trans HR5.out) C2.out
          by_cases hu0 : us.length = 0
          · have hn0 : ((us.length : Int) == 0) = true := by rw [hu0]; rfl
            have HT2 := Lib.hid (show mP l (l.take (k + 1)) = cur ++ [d.name] by rw [HTU.out, if_pos (by exact ⟨by trivial, List.eq_nil_of_length_eq_zero hu0⟩)])
            clear hu0 hown6
            go_wp2_with (at_builtin; refine jc W6 rfl (.tmp 41) (.tmp 44) rfl w.heap.size _ _ _ Ik rfl d.name rfl (by omega) hs6 ?_; intro v' w' hown' hg' hv')
            go_roundw
            case rel =>
              refine ⟨k + 1, by omega, by go_num, ?_, hbw6.trans (bH Ik hg' hs6)⟩
              rw [HT2.out, List.length_append, nH]
              exact hown'
            case measure => simp [intOf]; omega
          · have hn0 : ((us.length : Int) == 0) = false := by rw [beq_eq_false_iff_ne]; omega
            have HT2 := Lib.hid (show mP l (l.take (k + 1)) = cur by rw [HTU.out, if_neg (fun h => hu0 (by rw [h.2]; rfl)), List.append_nil])
            clear hu0 hown6
            go_wp2
            go_roundw
            case rel =>
              refine ⟨k + 1, by omega, by go_num, ?_, hbw6⟩
              rw [HT2.out]
              exact Ik
            case measure => simp [intOf]; omega
    · obtain rfl : k = l.length := by omega
      have hkI : ¬ (l.length : Int) < (l.length : Int) := by omega
      rw [List.take_length] at hown
      go_wp2
      go_ret
      exact ⟨_, rfl, hown, hb⟩
end Go.Proofs.YtbmglebipepdmaaGreatDoor
namespace Go.Proofs.YtbmglebipepdmaaGreatDoor
open Go.RowKit
/-- The dI order: the faults' names first. -/
def tyUsedR (d : Dc) : List ByteArray := d.faults.flatMap oC ++ aK d.term ++ aK d.read ++ aK d.write ++ [d.use] ++ (if d.kind = 5 ∨ d.kind = 7 then d.names else [])
theorem usedR_contains (d : Dc) (x : ByteArray) : (tyUsedR d).contains x = (gq d).contains x := by
  rw [Bool.eq_iff_iff, rG, rG]
  have e : gq d = aK d.term ++ aK d.read ++ aK d.write ++ [d.use] ++ d.faults.flatMap oC ++ (if d.kind = 5 ∨ d.kind = 7 then d.names else []) := rfl
  rw [e]
  unfold tyUsedR
  simp only [List.mem_append]
  constructor
  · rintro (((((h | h) | h) | h) | h) | h)
    · exact Or.inl (Or.inr h)
    · exact Or.inl (Or.inl (Or.inl (Or.inl (Or.inl h))))
    · exact Or.inl (Or.inl (Or.inl (Or.inl (Or.inr h))))
    · exact Or.inl (Or.inl (Or.inl (Or.inr h)))
    · exact Or.inl (Or.inl (Or.inr h))
    · exact Or.inr h
  · rintro (((((h | h) | h) | h) | h) | h)
    · exact Or.inl (Or.inl (Or.inl (Or.inl (Or.inr h))))
    · exact Or.inl (Or.inl (Or.inl (Or.inr h)))
    · exact Or.inl (Or.inl (Or.inr h))
    · exact Or.inl (Or.inr h)
    · exact Or.inl (Or.inl (Or.inl (Or.inl (Or.inl h))))
    · exact Or.inr h
/-- A list appended at a step of a region that draws its order. -/
theorem step_strs (w : World) {ops : Array Oper} {o : Oper} {a : Act} {K : Act → World → Prop} {Q : Exit → Act → World → Prop} {E : Prop} (hgd : o.guard = none) (s x : Operand)
    (ho : o.op = .call { callee := .builtin .append, args := #[s, x], argTypes := #[34, 34] })
    (base : Nat) (v : Value) (n : Nat) (xs : List Value) (hown : w.ownsRow base 9 1 v n xs) (hs : a.eval s = v)
    (S : Nat → Prop) (A : Option Addr) (m c : Nat) (ss : List ByteArray) (hx : a.eval x = .slice A m c) (hmm : m = ss.length) (hr : aV w S 1 A ss.length (aO ss))
    (hn : n ≤ 1000000000000) (hm : ss.length ≤ 1000000000000) (hbase : base ≤ w.heap.size)
    (h : ∀ v' w', w'.ownsRow base 9 1 v' (n + ss.length) (xs ++ aO ss) → w.grownBy w' v.ownBlock → (v'.ownBlock = v.ownBlock ∨ v'.ownBlock = some w.heap.size) → K (a.put o.dst v') w') :
    if Region.wanted o (yielded ops a.tmps) = true then Oper.wp Tryz.prog o a w K Q else E := by
  subst hmm
  have hw : Region.wanted o (yielded ops a.tmps) = true := by unfold Region.wanted; rw [hgd]
  rw [if_pos hw]
  obtain ⟨v', w', h1, h2, h3, h4⟩ := run_strs w o.type base v n xs hown S A c ss hr hn hm hbase
  unfold Oper.wp execOp
  simp only [ho, resolve, invoke, builtin, Sem.run_bind, Sem.run_pure, Result.andThen_ok, List.map_toArray, List.map_cons, List.map_nil, hs, hx, h1]
  exact h v' w' h2 h3 h4
theorem own_lt {w w' : World} {base e size n B : Nat} {v : Value} {xs : List Value} (h : w.ownsRow base e size v n xs) (hb : Below B w w') (hlt : ∀ g, v.ownBlock = some g → g < B) : w'.ownsRow base e size v n xs := by
  obtain ⟨h1, h2⟩ := h
  refine ⟨h1, ?_⟩
  rcases h2 with h2 | ⟨g, cap, cur, hv, hg, hh, r⟩
  · exact Or.inl h2
  · exact Or.inr ⟨g, cap, cur, hv, hg, by rw [hb.block g (hlt g (by rw [hv]; rfl))]; exact hh, r⟩
set_option maxRecDepth 100000 in
set_option maxHeartbeats 8000000 in
theorem used_ref (d : Dc) (v : Value) (w : World) (S : Nat → Prop) (hd : jE w S d v) (hS : ∀ g, S g → g < w.heap.size) (hlim : au d.term ≤ 100000000 ∧ au d.read ≤ 100000000 ∧ au d.write ≤ 100000000) (hfl : (d.faults.flatMap oC).length ≤ 100000000) (hnl : d.names.length ≤ 100000000) (hff : d.faults.length ≤ 100000000) :
    Calls Tryz.prog 48 #[v] w fun e w' => ∃ v', e = .returned v' ∧ w'.ownsRow w.heap.size 9 1 v' (tyUsedR d).length (aO (tyUsedR d)) ∧ Below w.heap.size w w' := by
  obtain ⟨nA, nc', fA, fc, vt, vr, vw, hv, hnA, hnc, hfA, hfc, h5, h6, h7⟩ := hd
  have HT5 := Lib.hid h5
  have HT6 := Lib.hid h6
  have HT7 := Lib.hid h7
  obtain ⟨o1, m1, d1, wA1, wn1, wc1, kA1, kn1, kc1, rfl⟩ := h5.form
  obtain ⟨o2, m2, d2, wA2, wn2, wc2, kA2, kn2, kc2, rfl⟩ := h6.form
  obtain ⟨o3, m3, d3, wA3, wn3, wc3, kA3, kn3, kc3, rfl⟩ := h7.form
  clear h5 h6 h7
  simp only [Value.cells, List.append_toArray, List.cons_append, List.nil_append] at hv
  rw [hv]
  have n1 := lg d.term
  have n2 := lg d.read
  have n3 := lg d.write
  obtain ⟨l1, l2, l3⟩ := hlim
  obtain ⟨w0, hw0⟩ : ∃ w0 : World, w0 = w.alloc (.cells #[.int .i64 d.kind, .int .i64 d.line, .string d.name, .slice nA d.names.length nc', .slice fA d.faults.length fc, .int .i64 o1, .string m1, .int .i64 d1, .slice wA1 wn1 wc1, .slice kA1 kn1 kc1, .string d.proto, .int .i64 o2, .string m2, .int .i64 d2, .slice wA2 wn2 wc2, .slice kA2 kn2 kc2, .int .i64 o3, .string m3, .int .i64 d3, .slice wA3 wn3 wc3, .slice kA3 kn3 kc3, .string d.use] 41 (0, 0)) := ⟨_, rfl⟩
  have hb0 : Below w.heap.size w w0 := by rw [hw0]; exact (Below.refl _ _).alloc (Nat.le_refl _) _
  have hz0 : w0.heap.size = w.heap.size + 1 := by rw [hw0]; simp
  have hr0 : w0.heap[w.heap.size]? = some (.cells #[.int .i64 d.kind, .int .i64 d.line, .string d.name, .slice nA d.names.length nc', .slice fA d.faults.length fc, .int .i64 o1, .string m1, .int .i64 d1, .slice wA1 wn1 wc1, .slice kA1 kn1 kc1, .string d.proto, .int .i64 o2, .string m2, .int .i64 d2, .slice wA2 wn2 wc2, .slice kA2 kn2 kc2, .int .i64 o3, .string m3, .int .i64 d3, .slice wA3 wn3 wc3, .slice kA3 kn3 kc3, .string d.use] 41 (0, 0)) := by rw [hw0]; exact heap_alloc_new w _
  have HB := Lib.hid (show ∀ W', Below w0.heap.size w0 W' → W'.heap[w.heap.size]? = some (.cells #[.int .i64 d.kind, .int .i64 d.line, .string d.name, .slice nA d.names.length nc', .slice fA d.faults.length fc, .int .i64 o1, .string m1, .int .i64 d1, .slice wA1 wn1 wc1, .slice kA1 kn1 kc1, .string d.proto, .int .i64 o2, .string m2, .int .i64 d2, .slice wA2 wn2 wc2, .slice kA2 kn2 kc2, .int .i64 o3, .string m3, .int .i64 d3, .slice wA3 wn3 wc3, .slice kA3 kn3 kc3, .string d.use] 41 (0, 0)) from fun W' hW => (hW.block _ (by omega)).trans hr0)
  have hS2 : ∀ W', Below w0.heap.size w0 W' → ∀ g, S g → g < W'.heap.size := fun W' hW g hg => by have := hS g hg; have := hW.size; omega
  have hk2 : ∀ W', Below w0.heap.size w0 W' → Kept S w W' := fun W' hW => aF (hb0.trans (hW.mono hb0.size)) hS
  have HN1 := Lib.hid (fun (W : World) (hW : Below w0.heap.size w0 W) => names_ref d.term _ W S (HT5.out.keep (hk2 W hW)) (hS2 W hW) (by omega))
  have HN2 := Lib.hid (fun (W : World) (hW : Below w0.heap.size w0 W) => names_ref d.read _ W S (HT6.out.keep (hk2 W hW)) (hS2 W hW) (by omega))
  have HN3 := Lib.hid (fun (W : World) (hW : Below w0.heap.size w0 W) => names_ref d.write _ W S (HT7.out.keep (hk2 W hW)) (hS2 W hW) (by omega))
  have HW0 := Lib.hid hw0
  have HNA := Lib.hid hnA
  have HFA := Lib.hid hfA
  have HBW := Lib.hid hb0
  obtain ⟨us, hus⟩ : ∃ us, us = tyUsedR d := ⟨_, rfl⟩
  rw [← hus]
  have HUS := Lib.hid hus
  clear hw0 hr0 hnA hfA hv hus
  go_enter Tryz.func48, Tryz.ntmps48
  go_upto_region 1 with fail
  rw [← HW0.out]
  clear HW0
  go_wp2_with fail
  go_loopw [3, 4] (fun v x wr => ∃ k : Nat, k ≤ d.faults.length ∧ x = .int .i64 k ∧ wr.ownsRow w0.heap.size 9 1 v ((d.faults.take k).flatMap oC).length (aO ((d.faults.take k).flatMap oC)) ∧ Below w0.heap.size w0 wr) (fun _ x _ => d.faults.length - (intOf x).toNat)
  case atStart => exact ⟨0, Nat.zero_le _, rfl, World.ownsRow_nil _ _ _ _, Below.refl _ _⟩
  case round =>
    obtain ⟨k, hk, rfl, hown, hb⟩ := hrel
    have hsr := hb.size
    have hbw : Below w.heap.size w wr := HBW.out.trans (hb.mono HBW.out.size)
    obtain ⟨vA, vc, rfl, hvc⟩ := bV hown
    have q4 : wr.cell? ⟨w.heap.size, 4, none⟩ = some (.slice fA d.faults.length fc) := ah (HB.out wr hb) 4 _ rfl
    by_cases hlt : k < d.faults.length
    · obtain ⟨g, o, op, nm, x, y, bA, bn, bc, cA, cn, cc, rfl, hSg, hft, k0, k1, k2, k3, k4, k5⟩ := qp (HFA.out.keep (P' := lK wr S) (aF hbw hS) (fun _ _ h => h.keep (aF hbw hS))) hlt
      have hgs : g < wr.heap.size := World.block_lt_of_cell? wr _ k0
      have hkI : (k : Int) < (d.faults.length : Int) := by omega
      have hk0 : (0 : Int) ≤ (k : Int) := by omega
      obtain ⟨f, hf⟩ : ∃ f, f = d.faults[k] := ⟨_, rfl⟩
      rw [← hf] at hft
      have htk : d.faults.take (k + 1) = d.faults.take k ++ [f] := by rw [hf]; exact List.take_succ_eq_append_getElem hlt
      obtain ⟨bA', bc', cA', cc', hv, hs4, -, hs5, -⟩ := hft
      simp only [Value.agg.injEq, Array.mk.injEq, List.cons.injEq, Value.int.injEq, Value.string.injEq, Value.slice.injEq, true_and, and_true] at hv
      obtain ⟨rfl, rfl, rfl, rfl, ⟨rfl, rfl, rfl⟩, ⟨rfl, rfl, rfl⟩⟩ := hv
      obtain ⟨cur, hcur⟩ : ∃ cur, cur = (d.faults.take k).flatMap oC := ⟨_, rfl⟩
      have hcn : (d.faults.take (k + 1)).flatMap oC = cur ++ oC f := by rw [htk, hcur, List.flatMap_append, List.flatMap_cons, List.flatMap_nil, List.append_nil]
      have hcl : cur.length + (oC f).length ≤ 100000000 := by
        rw [← List.length_append, ← hcn]
        have h1 : ((d.faults.take (k + 1)).flatMap oC).length ≤ (d.faults.flatMap oC).length := by
          conv => rhs; rw [← List.take_append_drop (k + 1) d.faults, List.flatMap_append, List.length_append]
          omega
        omega
      have hfu : (oC f).length = f.aH.length + f.ax.length + 1 := by unfold oC; simp only [List.length_append, List.length_cons, List.length_nil]
      rw [← hcur] at hown hvc ⊢
      obtain ⟨Wv, hWv⟩ : ∃ Wv : World, Wv = wr.alloc (.cells #[.int .i64 f.op, .string f.name, .int .i64 f.byz, .int .i64 f.kW, .slice bA f.aH.length bc, .slice cA f.ax.length cc] 82 (0, 0)) := ⟨_, rfl⟩
      have hbv : Below wr.heap.size wr Wv := by rw [hWv]; exact (Below.refl _ _).alloc (Nat.le_refl _) _
      have hzv : Wv.heap.size = wr.heap.size + 1 := by rw [hWv]; simp
      have hrv : Wv.heap[wr.heap.size]? = some (.cells #[.int .i64 f.op, .string f.name, .int .i64 f.byz, .int .i64 f.kW, .slice bA f.aH.length bc, .slice cA f.ax.length cc] 82 (0, 0)) := by rw [hWv]; exact heap_alloc_new wr _
      have hbf : wr.heap.size < Wv.heap.size := by omega
      have hovl := hown.lt
      have HOV := Lib.hid (fun (W : World) (hW : Below Wv.heap.size Wv W) => own_lt (own_below hown hbv (Nat.le_refl _)) hW (fun g hg => by have := (hovl g hg).2; omega))
      have HNE := Lib.hid (show (Value.slice vA cur.length vc).ownBlock ≠ some wr.heap.size from fun h => by have := (hovl _ h).2; omega)
      have HS4 := Lib.hid (fun (W : World) (hW : Below Wv.heap.size Wv W) => show aV W S 1 bA f.aH.length (aO f.aH) from (hs4.keep (aW hbv)).keep (fun g hg _ => hW.block g (by have := hS g hg; have := hbw.size; omega)))
      have HS5 := Lib.hid (fun (W : World) (hW : Below Wv.heap.size Wv W) => show aV W S 1 cA f.ax.length (aO f.ax) from (hs5.keep (aW hbv)).keep (fun g hg _ => hW.block g (by have := hS g hg; have := hbw.size; omega)))
      have HF := Lib.hid hrv
      have HWV := Lib.hid hWv
      have HZ := Lib.hid (show w0.heap.size ≤ Wv.heap.size by omega)
      have HB0 := Lib.hid (show Below w0.heap.size w0 Wv from hb.trans (hbv.mono hsr))
      have HCN := Lib.hid hcn
      have HPT := Lib.hid (fun (W : World) (u : Value) (h : W.ownsRow Wv.heap.size 9 1 u (0 + f.aH.length + f.ax.length + [f.name].length) ([] ++ aO f.aH ++ aO f.ax ++ aO [f.name])) => show W.ownsRow Wv.heap.size 9 1 u (oC f).length (aO (oC f)) by
        have e1 : (0 + f.aH.length + f.ax.length + [f.name].length) = (oC f).length := by rw [hfu]; simp
        have e2 : ([] ++ aO f.aH ++ aO f.ax ++ aO [f.name] : List Value) = aO (oC f) := by unfold oC aO; simp
        rw [e1, e2] at h; exact h)
      have HPE := Lib.hid (fun (W : World) (u : Value) (h : W.ownsRow w0.heap.size 9 1 u (cur.length + (oC f).length) (aO cur ++ aO (oC f))) => show W.ownsRow w0.heap.size 9 1 u ((d.faults.take (k + 1)).flatMap oC).length (aO ((d.faults.take (k + 1)).flatMap oC)) by
        rw [hcn, List.length_append, nH]; exact h)
      clear hWv hrv hcur hcn htk hf hs4 hs5 hovl hown hfl
      go_upto_region 6 with fail
      rw [← HWV.out]
      have x0 : Below Wv.heap.size Wv Wv.drew := (Below.refl _ _).drew
      obtain ⟨X0, hX0⟩ : ∃ X0 : World, X0 = Wv.drew := ⟨_, rfl⟩
      refine wp_region_held_drew (S := fun w' => w'.heap[wr.heap.size]? = some (.cells #[.int .i64 f.op, .string f.name, .int .i64 f.byz, .int .i64 f.kW, .slice bA f.aH.length bc, .slice cA f.ax.length cc] 82 (0, 0))) (by kernel_rfl) (by exact HF.out) (fun hHeld => ?_)
      rw [← hX0]
      rw [← hX0] at hHeld x0
      clear hX0
      have z0 : Wv.heap.size ≤ X0.heap.size := x0.size
      focus
        (refine wpAnyH_take (i := 0) (oi := _) (v := ?_) rfl (by kernel_rfl) (by kernel_rfl) (by kernel_rfl) (fun _ _ _ h => h) (Or.inl ⟨by kernel_rfl, ?_⟩) hHeld ?_; rotate_left; focus (intro w9 hS9; (try dsimp only at hS9); have z1 := ah hS9 1 _ rfl; have z4 := ah hS9 4 _ rfl; have z5 := ah hS9 5 _ rfl; clear hS9; go_simp; (try with_reducible rfl); done))
        (try simp only [Act.put, List.getElem_toArray, List.getElem_cons_zero, List.setIfInBounds_toArray, List.set_cons_zero, List.set_cons_succ])
        (refine wpAnyH_take (i := 2) (oi := _) (v := ?_) rfl (by kernel_rfl) (by kernel_rfl) (by kernel_rfl) (fun _ _ _ h => h) (Or.inl ⟨by kernel_rfl, ?_⟩) hHeld ?_; rotate_left; focus (intro w9 hS9; (try dsimp only at hS9); have z1 := ah hS9 1 _ rfl; have z4 := ah hS9 4 _ rfl; have z5 := ah hS9 5 _ rfl; clear hS9; go_simp; (try with_reducible rfl); done))
        (try simp only [Act.put, List.getElem_toArray, List.getElem_cons_succ, List.getElem_cons_zero, List.setIfInBounds_toArray, List.set_cons_zero, List.set_cons_succ])
        (refine wpAnyH_take (i := 3) (oi := _) (v := ?_) rfl (by kernel_rfl) (by kernel_rfl) (by kernel_rfl) (fun _ _ _ h => h) (Or.inl ⟨by kernel_rfl, ?_⟩) hHeld ?_; rotate_left; focus (intro w9 hS9; (try dsimp only at hS9); have z1 := ah hS9 1 _ rfl; have z4 := ah hS9 4 _ rfl; have z5 := ah hS9 5 _ rfl; clear hS9; go_simp; (try with_reducible rfl); done))
        (try simp only [Act.put, List.getElem_toArray, List.getElem_cons_succ, List.getElem_cons_zero, List.setIfInBounds_toArray, List.set_cons_zero, List.set_cons_succ])
        (refine wpAnyH_take (i := 5) (oi := _) (v := ?_) rfl (by kernel_rfl) (by kernel_rfl) (by kernel_rfl) (fun _ _ _ h => h) (Or.inl ⟨by kernel_rfl, ?_⟩) hHeld ?_; rotate_left; focus (intro w9 hS9; (try dsimp only at hS9); have z1 := ah hS9 1 _ rfl; have z4 := ah hS9 4 _ rfl; have z5 := ah hS9 5 _ rfl; clear hS9; go_simp; (try with_reducible rfl); done))
        (try simp only [Act.put, List.getElem_toArray, List.getElem_cons_succ, List.getElem_cons_zero, List.setIfInBounds_toArray, List.set_cons_zero, List.set_cons_succ])
        (refine wpAnyH_take (i := 6) (oi := _) (v := ?_) rfl (by kernel_rfl) (by kernel_rfl) (by kernel_rfl) (fun _ _ _ h => h) (Or.inl ⟨by kernel_rfl, ?_⟩) hHeld ?_; rotate_left; focus (intro w9 hS9; (try dsimp only at hS9); have z1 := ah hS9 1 _ rfl; have z4 := ah hS9 4 _ rfl; have z5 := ah hS9 5 _ rfl; clear hS9; go_simp; (try with_reducible rfl); done))
        (try simp only [Act.put, List.getElem_toArray, List.getElem_cons_succ, List.getElem_cons_zero, List.setIfInBounds_toArray, List.set_cons_zero, List.set_cons_succ])
        (refine wpAnyH_take (i := 8) (oi := _) (v := ?_) rfl (by kernel_rfl) (by kernel_rfl) (by kernel_rfl) (fun _ _ _ h => h) (Or.inl ⟨by kernel_rfl, ?_⟩) hHeld ?_; rotate_left; focus (intro w9 hS9; (try dsimp only at hS9); have z1 := ah hS9 1 _ rfl; have z4 := ah hS9 4 _ rfl; have z5 := ah hS9 5 _ rfl; clear hS9; go_simp; (try with_reducible rfl); done))
        (try simp only [Act.put, List.getElem_toArray, List.getElem_cons_succ, List.getElem_cons_zero, List.setIfInBounds_toArray, List.set_cons_zero, List.set_cons_succ])
        (refine wpAnyH_take (i := 9) (oi := _) (v := ?_) rfl (by kernel_rfl) (by kernel_rfl) (by kernel_rfl) (fun _ _ _ h => h) (Or.inl ⟨by kernel_rfl, ?_⟩) hHeld ?_; rotate_left; focus (intro w9 hS9; (try dsimp only at hS9); have z1 := ah hS9 1 _ rfl; have z4 := ah hS9 4 _ rfl; have z5 := ah hS9 5 _ rfl; clear hS9; go_simp; (try with_reducible rfl); done))
        (try simp only [Act.put, List.getElem_toArray, List.getElem_cons_succ, List.getElem_cons_zero, List.setIfInBounds_toArray, List.set_cons_zero, List.set_cons_succ])
        refine wpAnyH_ready (rs := [1, 10]) (by kernel_rfl) (by simp) ?_
        refine AllReadyH.cons (o := _) rfl (fun K hK => ?_) (AllReadyH.cons (o := _) rfl (fun K hK => ?_) AllReadyH.nil)
        · go_simp
          refine hK.out _ _ (by exact (x0.alloc z0 (.cells #[] 9 (0, 0))).block _ hbf |>.trans HF.out) (fun hHeld => ?_)
          clear hK K
          (try simp only [Act.put, List.getElem_toArray, List.getElem_cons_succ, List.getElem_cons_zero, List.setIfInBounds_toArray, List.set_cons_zero, List.set_cons_succ])
          obtain ⟨b0, hb0⟩ : ∃ b0, b0 = X0.heap.size := ⟨_, rfl⟩
          obtain ⟨X1, hY⟩ : ∃ X1 : World, X1 = X0.alloc (.cells #[] 9 (0, 0)) := ⟨_, rfl⟩
          have x1 : Below Wv.heap.size Wv X1 := by rw [hY]; exact x0.alloc z0 _
          have z1 : Wv.heap.size ≤ X1.heap.size := x1.size
          have o1 : X1.ownsRow Wv.heap.size 9 1 (.slice (some ⟨b0, 0, none⟩) 0 0) 0 [] := by rw [hY, hb0]; exact World.ownsRow_lit (base := Wv.heap.size) (e := 9) (size := 1) X0 #[] 0 z0 (by decide) rfl
          rw [← hY, ← hb0]
          rw [← hY] at hHeld
          clear hb0 hY
          refine wpAnyH_ready (rs := [4, 10]) (by kernel_rfl) (by simp) ?_
          refine AllReadyH.cons (o := _) rfl (fun K hK => ?_) (AllReadyH.cons (o := _) rfl (fun K hK => ?_) AllReadyH.nil)
          · refine step_strs X1 rfl (.tmp 19) (.tmp 21) rfl Wv.heap.size _ _ _ o1 rfl S bA _ bc f.aH rfl rfl (HS4.out X1 x1) (by omega) (by omega) z1 ?_
            intro v2 X2 o2 g2 q2
            have x2 : Below Wv.heap.size Wv X2 := x1.trans (bH o1 g2 z1)
            have z2 : Wv.heap.size ≤ X2.heap.size := x2.size
            refine hK.out _ _ (by exact (x2.block _ hbf).trans HF.out) (fun hHeld => ?_)
            clear hK K
            (try simp only [Act.put, List.getElem_toArray, List.getElem_cons_succ, List.getElem_cons_zero, List.setIfInBounds_toArray, List.set_cons_zero, List.set_cons_succ])
            refine wpAnyH_ready (rs := [7, 10]) (by kernel_rfl) (by simp) ?_
            refine AllReadyH.cons (o := _) rfl (fun K hK => ?_) (AllReadyH.cons (o := _) rfl (fun K hK => ?_) AllReadyH.nil)
            · refine step_strs X2 rfl (.tmp 22) (.tmp 24) rfl Wv.heap.size _ _ _ o2 rfl S cA _ cc f.ax rfl rfl (HS5.out X2 x2) (by omega) (by omega) z2 ?_
              intro v3 X3 o3 g3 q3
              have x3 : Below Wv.heap.size Wv X3 := x2.trans (bH o2 g3 z2)
              have z3 : Wv.heap.size ≤ X3.heap.size := x3.size
              refine hK.out _ _ (by exact (x3.block _ hbf).trans HF.out) (fun hHeld => ?_)
              clear hK K
              (try simp only [Act.put, List.getElem_toArray, List.getElem_cons_succ, List.getElem_cons_zero, List.setIfInBounds_toArray, List.set_cons_zero, List.set_cons_succ])
              refine wpAnyH_ready (rs := [10]) (by kernel_rfl) (by simp) ?_
              refine AllReadyH.cons (o := _) rfl (fun K hK => ?_) AllReadyH.nil
              go_simp
              refine hK.out _ _ (by exact (x3.alloc z3 (.cells #[.string f.name] 9 (0, 0))).block _ hbf |>.trans HF.out) (fun hHeld => ?_)
              clear hK K
              (try simp only [Act.put, List.getElem_toArray, List.getElem_cons_succ, List.getElem_cons_zero, List.setIfInBounds_toArray, List.set_cons_zero, List.set_cons_succ])
              obtain ⟨b1, hb1⟩ : ∃ b1, b1 = X3.heap.size := ⟨_, rfl⟩
              obtain ⟨X4, hY⟩ : ∃ X4 : World, X4 = X3.alloc (.cells #[.string f.name] 9 (0, 0)) := ⟨_, rfl⟩
              have x4 : Below Wv.heap.size Wv X4 := by rw [hY]; exact x3.alloc z3 _
              have z4 : Wv.heap.size ≤ X4.heap.size := x4.size
              have m4 : X4.heap[b1]? = some (.cells #[.string f.name] 9 (0, 0)) := by rw [hY, hb1]; exact heap_alloc_new X3 _
              have o4 : X4.ownsRow Wv.heap.size 9 1 v3 ((0 + f.aH.length) + f.ax.length) (([] ++ aO f.aH) ++ aO f.ax) := by rw [hY]; exact o3.alloc _
              have e4 : (v3 : Value).ownBlock ≠ some b1 := fun h => by have := (o3.lt b1 h).2; omega
              rw [← hY, ← hb1]
              rw [← hY] at hHeld
              clear hb1 hY
              refine wpAnyH_ready (rs := [11]) (by kernel_rfl) (by simp) ?_
              refine AllReadyH.cons (o := _) rfl (fun K hK => ?_) AllReadyH.nil
              have see4 : aV X4 (fun g => g = b1) 1 (some ⟨b1, 0, none⟩) [f.name].length (aO [f.name]) := ⟨by simp [aO], fun _ => ⟨b1, 0, rfl, rfl, fun j u hu => by rw [cell_of_row X4 _ (0 + j) _ _ _ m4]; simpa [aO] using hu⟩⟩
              refine step_strs X4 rfl (.tmp 25) (.tmp 28) rfl Wv.heap.size _ _ _ o4 rfl _ _ _ 1 [f.name] rfl rfl see4 (by omega) (by simp) z4 ?_
              intro v5 X5 o5 g5 q5
              have x5 : Below Wv.heap.size Wv X5 := x4.trans (bH o4 g5 z4)
              have z5 : Wv.heap.size ≤ X5.heap.size := x5.size
              refine hK.out _ _ (by exact (x5.block _ hbf).trans HF.out) (fun hHeld => ?_)
              clear hK K
              (try simp only [Act.put, List.getElem_toArray, List.getElem_cons_succ, List.getElem_cons_zero, List.setIfInBounds_toArray, List.set_cons_zero, List.set_cons_succ])
              have HO5 := Lib.hid (HPT.out _ _ o5)
              obtain ⟨At, ct, hAt, hct⟩ := bV HO5.out
              subst hAt
              refine wpAnyH_ready (rs := [12]) (by kernel_rfl) (by simp) ?_
              refine AllReadyH.cons (o := _) rfl (fun K hK => ?_) AllReadyH.nil
              refine step_strs X5 rfl (.tmp 18) (.tmp 29) rfl w0.heap.size _ _ _ (HOV.out X5 x5) rfl (fun g => Wv.heap.size ≤ g) At _ ct (oC f) rfl rfl (aV.own HO5.out) (by omega) (by omega) (by have := HZ.out; omega) ?_
              intro v6 X6 o6 g6 q6
              have hrow6 : X6.heap[wr.heap.size]? = some (.cells #[.int .i64 f.op, .string f.name, .int .i64 f.byz, .int .i64 f.kW, .slice bA f.aH.length bc, .slice cA f.ax.length cc] 82 (0, 0)) := (g6.block wr.heap.size (by omega) (fun h => HNE.out h.symm)).trans ((x5.block _ hbf).trans HF.out)
              refine hK.out _ _ hrow6 (fun hHeld => ?_)
              clear hK K
              (try simp only [Act.put, List.getElem_toArray, List.getElem_cons_succ, List.getElem_cons_zero, List.setIfInBounds_toArray, List.set_cons_zero, List.set_cons_succ])
              (refine wpAnyH_take (i := 13) (oi := _) (v := ?_) rfl (by kernel_rfl) (by kernel_rfl) (by kernel_rfl) (fun _ _ _ h => h) (Or.inl ⟨by kernel_rfl, ?_⟩) hHeld ?_; rotate_left; focus (intro w9 hS9; (try dsimp only at hS9); have z1 := ah hS9 1 _ rfl; have z4 := ah hS9 4 _ rfl; have z5 := ah hS9 5 _ rfl; clear hS9; go_simp; (try with_reducible rfl); done))
              (try simp only [Act.put, List.getElem_toArray, List.getElem_cons_succ, List.getElem_cons_zero, List.setIfInBounds_toArray, List.set_cons_zero, List.set_cons_succ])
              refine wpAnyH_done (by kernel_rfl) ?_ _
              go_wp2
              go_roundw
              case rel => exact ⟨k + 1, by omega, by go_num, HPE.out _ _ o6, HB0.out.trans ((x5.mono (by have := HZ.out; omega)).trans (bH (HOV.out X5 x5) g6 (by have := HZ.out; omega)))⟩
              case measure => simp [intOf]; omega
            · go_simp
              refine hK.out _ _ (by exact (x2.alloc z2 (.cells #[.string f.name] 9 (0, 0))).block _ hbf |>.trans HF.out) (fun hHeld => ?_)
              clear hK K
              (try simp only [Act.put, List.getElem_toArray, List.getElem_cons_succ, List.getElem_cons_zero, List.setIfInBounds_toArray, List.set_cons_zero, List.set_cons_succ])
              obtain ⟨b1, hb1⟩ : ∃ b1, b1 = X2.heap.size := ⟨_, rfl⟩
              obtain ⟨X3, hY⟩ : ∃ X3 : World, X3 = X2.alloc (.cells #[.string f.name] 9 (0, 0)) := ⟨_, rfl⟩
              have x3 : Below Wv.heap.size Wv X3 := by rw [hY]; exact x2.alloc z2 _
              have z3 : Wv.heap.size ≤ X3.heap.size := x3.size
              have m3 : X3.heap[b1]? = some (.cells #[.string f.name] 9 (0, 0)) := by rw [hY, hb1]; exact heap_alloc_new X2 _
              have o3 : X3.ownsRow Wv.heap.size 9 1 v2 (0 + f.aH.length) ([] ++ aO f.aH) := by rw [hY]; exact o2.alloc _
              have e3 : (v2 : Value).ownBlock ≠ some b1 := fun h => by have := (o2.lt b1 h).2; omega
              rw [← hY, ← hb1]
              rw [← hY] at hHeld
              clear hb1 hY
              refine wpAnyH_ready (rs := [7]) (by kernel_rfl) (by simp) ?_
              refine AllReadyH.cons (o := _) rfl (fun K hK => ?_) AllReadyH.nil
              refine step_strs X3 rfl (.tmp 22) (.tmp 24) rfl Wv.heap.size _ _ _ o3 rfl S cA _ cc f.ax rfl rfl (HS5.out X3 x3) (by omega) (by omega) z3 ?_
              intro v4 X4 o4 g4 q4
              have x4 : Below Wv.heap.size Wv X4 := x3.trans (bH o3 g4 z3)
              have z4 : Wv.heap.size ≤ X4.heap.size := x4.size
              have m4 : X4.heap[b1]? = some (.cells #[.string f.name] 9 (0, 0)) := (g4.block b1 (lt_of_block m3) (fun h => e3 h.symm)).trans m3
              have e4 : v4.ownBlock ≠ some b1 := by
                have h1 := lt_of_block m3
                rcases q4 with h | h
                · rw [h]; exact e3
                · rw [h]; intro h2; injection h2; omega
              refine hK.out _ _ (by exact (x4.block _ hbf).trans HF.out) (fun hHeld => ?_)
              clear hK K
              (try simp only [Act.put, List.getElem_toArray, List.getElem_cons_succ, List.getElem_cons_zero, List.setIfInBounds_toArray, List.set_cons_zero, List.set_cons_succ])
              refine wpAnyH_ready (rs := [11]) (by kernel_rfl) (by simp) ?_
              refine AllReadyH.cons (o := _) rfl (fun K hK => ?_) AllReadyH.nil
              have see4 : aV X4 (fun g => g = b1) 1 (some ⟨b1, 0, none⟩) [f.name].length (aO [f.name]) := ⟨by simp [aO], fun _ => ⟨b1, 0, rfl, rfl, fun j u hu => by rw [cell_of_row X4 _ (0 + j) _ _ _ m4]; simpa [aO] using hu⟩⟩
              refine step_strs X4 rfl (.tmp 25) (.tmp 28) rfl Wv.heap.size _ _ _ o4 rfl _ _ _ 1 [f.name] rfl rfl see4 (by omega) (by simp) z4 ?_
              intro v5 X5 o5 g5 q5
              have x5 : Below Wv.heap.size Wv X5 := x4.trans (bH o4 g5 z4)
              have z5 : Wv.heap.size ≤ X5.heap.size := x5.size
              refine hK.out _ _ (by exact (x5.block _ hbf).trans HF.out) (fun hHeld => ?_)
              clear hK K
              (try simp only [Act.put, List.getElem_toArray, List.getElem_cons_succ, List.getElem_cons_zero, List.setIfInBounds_toArray, List.set_cons_zero, List.set_cons_succ])
              have HO5 := Lib.hid (HPT.out _ _ o5)
              obtain ⟨At, ct, hAt, hct⟩ := bV HO5.out
              subst hAt
              refine wpAnyH_ready (rs := [12]) (by kernel_rfl) (by simp) ?_
              refine AllReadyH.cons (o := _) rfl (fun K hK => ?_) AllReadyH.nil
              refine step_strs X5 rfl (.tmp 18) (.tmp 29) rfl w0.heap.size _ _ _ (HOV.out X5 x5) rfl (fun g => Wv.heap.size ≤ g) At _ ct (oC f) rfl rfl (aV.own HO5.out) (by omega) (by omega) (by have := HZ.out; omega) ?_
              intro v6 X6 o6 g6 q6
              have hrow6 : X6.heap[wr.heap.size]? = some (.cells #[.int .i64 f.op, .string f.name, .int .i64 f.byz, .int .i64 f.kW, .slice bA f.aH.length bc, .slice cA f.ax.length cc] 82 (0, 0)) := (g6.block wr.heap.size (by omega) (fun h => HNE.out h.symm)).trans ((x5.block _ hbf).trans HF.out)
              refine hK.out _ _ hrow6 (fun hHeld => ?_)
              clear hK K
              (try simp only [Act.put, List.getElem_toArray, List.getElem_cons_succ, List.getElem_cons_zero, List.setIfInBounds_toArray, List.set_cons_zero, List.set_cons_succ])
              (refine wpAnyH_take (i := 13) (oi := _) (v := ?_) rfl (by kernel_rfl) (by kernel_rfl) (by kernel_rfl) (fun _ _ _ h => h) (Or.inl ⟨by kernel_rfl, ?_⟩) hHeld ?_; rotate_left; focus (intro w9 hS9; (try dsimp only at hS9); have z1 := ah hS9 1 _ rfl; have z4 := ah hS9 4 _ rfl; have z5 := ah hS9 5 _ rfl; clear hS9; go_simp; (try with_reducible rfl); done))
              (try simp only [Act.put, List.getElem_toArray, List.getElem_cons_succ, List.getElem_cons_zero, List.setIfInBounds_toArray, List.set_cons_zero, List.set_cons_succ])
              refine wpAnyH_done (by kernel_rfl) ?_ _
              go_wp2
              go_roundw
              case rel => exact ⟨k + 1, by omega, by go_num, HPE.out _ _ o6, HB0.out.trans ((x5.mono (by have := HZ.out; omega)).trans (bH (HOV.out X5 x5) g6 (by have := HZ.out; omega)))⟩
              case measure => simp [intOf]; omega
          · go_simp
            refine hK.out _ _ (by exact (x1.alloc z1 (.cells #[.string f.name] 9 (0, 0))).block _ hbf |>.trans HF.out) (fun hHeld => ?_)
            clear hK K
            (try simp only [Act.put, List.getElem_toArray, List.getElem_cons_succ, List.getElem_cons_zero, List.setIfInBounds_toArray, List.set_cons_zero, List.set_cons_succ])
            obtain ⟨b1, hb1⟩ : ∃ b1, b1 = X1.heap.size := ⟨_, rfl⟩
            obtain ⟨X2, hY⟩ : ∃ X2 : World, X2 = X1.alloc (.cells #[.string f.name] 9 (0, 0)) := ⟨_, rfl⟩
            have x2 : Below Wv.heap.size Wv X2 := by rw [hY]; exact x1.alloc z1 _
            have z2 : Wv.heap.size ≤ X2.heap.size := x2.size
            have m2 : X2.heap[b1]? = some (.cells #[.string f.name] 9 (0, 0)) := by rw [hY, hb1]; exact heap_alloc_new X1 _
            have o2 : X2.ownsRow Wv.heap.size 9 1 (.slice (some ⟨b0, 0, none⟩) 0 0) 0 [] := by rw [hY]; exact o1.alloc _
            have e2 : ((.slice (some ⟨b0, 0, none⟩) 0 0) : Value).ownBlock ≠ some b1 := fun h => by have := (o1.lt b1 h).2; omega
            rw [← hY, ← hb1]
            rw [← hY] at hHeld
            clear hb1 hY
            refine wpAnyH_ready (rs := [4]) (by kernel_rfl) (by simp) ?_
            refine AllReadyH.cons (o := _) rfl (fun K hK => ?_) AllReadyH.nil
            refine step_strs X2 rfl (.tmp 19) (.tmp 21) rfl Wv.heap.size _ _ _ o2 rfl S bA _ bc f.aH rfl rfl (HS4.out X2 x2) (by omega) (by omega) z2 ?_
            intro v3 X3 o3 g3 q3
            have x3 : Below Wv.heap.size Wv X3 := x2.trans (bH o2 g3 z2)
            have z3 : Wv.heap.size ≤ X3.heap.size := x3.size
            have m3 : X3.heap[b1]? = some (.cells #[.string f.name] 9 (0, 0)) := (g3.block b1 (lt_of_block m2) (fun h => e2 h.symm)).trans m2
            have e3 : v3.ownBlock ≠ some b1 := by
              have h1 := lt_of_block m2
              rcases q3 with h | h
              · rw [h]; exact e2
              · rw [h]; intro h2; injection h2; omega
            refine hK.out _ _ (by exact (x3.block _ hbf).trans HF.out) (fun hHeld => ?_)
            clear hK K
            (try simp only [Act.put, List.getElem_toArray, List.getElem_cons_succ, List.getElem_cons_zero, List.setIfInBounds_toArray, List.set_cons_zero, List.set_cons_succ])
            refine wpAnyH_ready (rs := [7]) (by kernel_rfl) (by simp) ?_
            refine AllReadyH.cons (o := _) rfl (fun K hK => ?_) AllReadyH.nil
            refine step_strs X3 rfl (.tmp 22) (.tmp 24) rfl Wv.heap.size _ _ _ o3 rfl S cA _ cc f.ax rfl rfl (HS5.out X3 x3) (by omega) (by omega) z3 ?_
            intro v4 X4 o4 g4 q4
            have x4 : Below Wv.heap.size Wv X4 := x3.trans (bH o3 g4 z3)
            have z4 : Wv.heap.size ≤ X4.heap.size := x4.size
            have m4 : X4.heap[b1]? = some (.cells #[.string f.name] 9 (0, 0)) := (g4.block b1 (lt_of_block m3) (fun h => e3 h.symm)).trans m3
            have e4 : v4.ownBlock ≠ some b1 := by
              have h1 := lt_of_block m3
              rcases q4 with h | h
              · rw [h]; exact e3
              · rw [h]; intro h2; injection h2; omega
            refine hK.out _ _ (by exact (x4.block _ hbf).trans HF.out) (fun hHeld => ?_)
            clear hK K
            (try simp only [Act.put, List.getElem_toArray, List.getElem_cons_succ, List.getElem_cons_zero, List.setIfInBounds_toArray, List.set_cons_zero, List.set_cons_succ])
            refine wpAnyH_ready (rs := [11]) (by kernel_rfl) (by simp) ?_
            refine AllReadyH.cons (o := _) rfl (fun K hK => ?_) AllReadyH.nil
            have see4 : aV X4 (fun g => g = b1) 1 (some ⟨b1, 0, none⟩) [f.name].length (aO [f.name]) := ⟨by simp [aO], fun _ => ⟨b1, 0, rfl, rfl, fun j u hu => by rw [cell_of_row X4 _ (0 + j) _ _ _ m4]; simpa [aO] using hu⟩⟩
            refine step_strs X4 rfl (.tmp 25) (.tmp 28) rfl Wv.heap.size _ _ _ o4 rfl _ _ _ 1 [f.name] rfl rfl see4 (by omega) (by simp) z4 ?_
            intro v5 X5 o5 g5 q5
            have x5 : Below Wv.heap.size Wv X5 := x4.trans (bH o4 g5 z4)
            have z5 : Wv.heap.size ≤ X5.heap.size := x5.size
            refine hK.out _ _ (by exact (x5.block _ hbf).trans HF.out) (fun hHeld => ?_)
            clear hK K
            (try simp only [Act.put, List.getElem_toArray, List.getElem_cons_succ, List.getElem_cons_zero, List.setIfInBounds_toArray, List.set_cons_zero, List.set_cons_succ])
            have HO5 := Lib.hid (HPT.out _ _ o5)
            obtain ⟨At, ct, hAt, hct⟩ := bV HO5.out
            subst hAt
            refine wpAnyH_ready (rs := [12]) (by kernel_rfl) (by simp) ?_
            refine AllReadyH.cons (o := _) rfl (fun K hK => ?_) AllReadyH.nil
            refine step_strs X5 rfl (.tmp 18) (.tmp 29) rfl w0.heap.size _ _ _ (HOV.out X5 x5) rfl (fun g => Wv.heap.size ≤ g) At _ ct (oC f) rfl rfl (aV.own HO5.out) (by omega) (by omega) (by have := HZ.out; omega) ?_
            intro v6 X6 o6 g6 q6
            have hrow6 : X6.heap[wr.heap.size]? = some (.cells #[.int .i64 f.op, .string f.name, .int .i64 f.byz, .int .i64 f.kW, .slice bA f.aH.length bc, .slice cA f.ax.length cc] 82 (0, 0)) := (g6.block wr.heap.size (by omega) (fun h => HNE.out h.symm)).trans ((x5.block _ hbf).trans HF.out)
            refine hK.out _ _ hrow6 (fun hHeld => ?_)
            clear hK K
            (try simp only [Act.put, List.getElem_toArray, List.getElem_cons_succ, List.getElem_cons_zero, List.setIfInBounds_toArray, List.set_cons_zero, List.set_cons_succ])
            (refine wpAnyH_take (i := 13) (oi := _) (v := ?_) rfl (by kernel_rfl) (by kernel_rfl) (by kernel_rfl) (fun _ _ _ h => h) (Or.inl ⟨by kernel_rfl, ?_⟩) hHeld ?_; rotate_left; focus (intro w9 hS9; (try dsimp only at hS9); have z1 := ah hS9 1 _ rfl; have z4 := ah hS9 4 _ rfl; have z5 := ah hS9 5 _ rfl; clear hS9; go_simp; (try with_reducible rfl); done))
            (try simp only [Act.put, List.getElem_toArray, List.getElem_cons_succ, List.getElem_cons_zero, List.setIfInBounds_toArray, List.set_cons_zero, List.set_cons_succ])
            refine wpAnyH_done (by kernel_rfl) ?_ _
            go_wp2
            go_roundw
            case rel => exact ⟨k + 1, by omega, by go_num, HPE.out _ _ o6, HB0.out.trans ((x5.mono (by have := HZ.out; omega)).trans (bH (HOV.out X5 x5) g6 (by have := HZ.out; omega)))⟩
            case measure => simp [intOf]; omega
        · go_simp
          refine hK.out _ _ (by exact (x0.alloc z0 (.cells #[.string f.name] 9 (0, 0))).block _ hbf |>.trans HF.out) (fun hHeld => ?_)
          clear hK K
          (try simp only [Act.put, List.getElem_toArray, List.getElem_cons_succ, List.getElem_cons_zero, List.setIfInBounds_toArray, List.set_cons_zero, List.set_cons_succ])
          obtain ⟨b1, hb1⟩ : ∃ b1, b1 = X0.heap.size := ⟨_, rfl⟩
          obtain ⟨X1, hY⟩ : ∃ X1 : World, X1 = X0.alloc (.cells #[.string f.name] 9 (0, 0)) := ⟨_, rfl⟩
          have x1 : Below Wv.heap.size Wv X1 := by rw [hY]; exact x0.alloc z0 _
          have z1 : Wv.heap.size ≤ X1.heap.size := x1.size
          have m1 : X1.heap[b1]? = some (.cells #[.string f.name] 9 (0, 0)) := by rw [hY, hb1]; exact heap_alloc_new X0 _
          rw [← hY, ← hb1]
          rw [← hY] at hHeld
          clear hb1 hY
          refine wpAnyH_ready (rs := [1]) (by kernel_rfl) (by simp) ?_
          refine AllReadyH.cons (o := _) rfl (fun K hK => ?_) AllReadyH.nil
          go_simp
          refine hK.out _ _ (by exact (x1.alloc z1 (.cells #[] 9 (0, 0))).block _ hbf |>.trans HF.out) (fun hHeld => ?_)
          clear hK K
          (try simp only [Act.put, List.getElem_toArray, List.getElem_cons_succ, List.getElem_cons_zero, List.setIfInBounds_toArray, List.set_cons_zero, List.set_cons_succ])
          obtain ⟨b0, hb0⟩ : ∃ b0, b0 = X1.heap.size := ⟨_, rfl⟩
          obtain ⟨X2, hY⟩ : ∃ X2 : World, X2 = X1.alloc (.cells #[] 9 (0, 0)) := ⟨_, rfl⟩
          have x2 : Below Wv.heap.size Wv X2 := by rw [hY]; exact x1.alloc z1 _
          have z2 : Wv.heap.size ≤ X2.heap.size := x2.size
          have o2 : X2.ownsRow Wv.heap.size 9 1 (.slice (some ⟨b0, 0, none⟩) 0 0) 0 [] := by rw [hY, hb0]; exact World.ownsRow_lit (base := Wv.heap.size) (e := 9) (size := 1) X1 #[] 0 z1 (by decide) rfl
          have m2 : X2.heap[b1]? = some (.cells #[.string f.name] 9 (0, 0)) := by rw [hY]; exact (((Below.refl X1.heap.size X1).alloc (Nat.le_refl _) _).block _ (lt_of_block m1)).trans m1
          have e2 : (Value.slice (some ⟨b0, 0, none⟩) 0 0).ownBlock ≠ some b1 := by have := lt_of_block m1; rw [hb0]; simp [Value.ownBlock]; omega
          rw [← hY, ← hb0]
          rw [← hY] at hHeld
          clear hb0 hY
          refine wpAnyH_ready (rs := [4]) (by kernel_rfl) (by simp) ?_
          refine AllReadyH.cons (o := _) rfl (fun K hK => ?_) AllReadyH.nil
          refine step_strs X2 rfl (.tmp 19) (.tmp 21) rfl Wv.heap.size _ _ _ o2 rfl S bA _ bc f.aH rfl rfl (HS4.out X2 x2) (by omega) (by omega) z2 ?_
          intro v3 X3 o3 g3 q3
          have x3 : Below Wv.heap.size Wv X3 := x2.trans (bH o2 g3 z2)
          have z3 : Wv.heap.size ≤ X3.heap.size := x3.size
          have m3 : X3.heap[b1]? = some (.cells #[.string f.name] 9 (0, 0)) := (g3.block b1 (lt_of_block m2) (fun h => e2 h.symm)).trans m2
          have e3 : v3.ownBlock ≠ some b1 := by
            have h1 := lt_of_block m2
            rcases q3 with h | h
            · rw [h]; exact e2
            · rw [h]; intro h2; injection h2; omega
          refine hK.out _ _ (by exact (x3.block _ hbf).trans HF.out) (fun hHeld => ?_)
          clear hK K
          (try simp only [Act.put, List.getElem_toArray, List.getElem_cons_succ, List.getElem_cons_zero, List.setIfInBounds_toArray, List.set_cons_zero, List.set_cons_succ])
          refine wpAnyH_ready (rs := [7]) (by kernel_rfl) (by simp) ?_
          refine AllReadyH.cons (o := _) rfl (fun K hK => ?_) AllReadyH.nil
          refine step_strs X3 rfl (.tmp 22) (.tmp 24) rfl Wv.heap.size _ _ _ o3 rfl S cA _ cc f.ax rfl rfl (HS5.out X3 x3) (by omega) (by omega) z3 ?_
          intro v4 X4 o4 g4 q4
          have x4 : Below Wv.heap.size Wv X4 := x3.trans (bH o3 g4 z3)
          have z4 : Wv.heap.size ≤ X4.heap.size := x4.size
          have m4 : X4.heap[b1]? = some (.cells #[.string f.name] 9 (0, 0)) := (g4.block b1 (lt_of_block m3) (fun h => e3 h.symm)).trans m3
          have e4 : v4.ownBlock ≠ some b1 := by
            have h1 := lt_of_block m3
            rcases q4 with h | h
            · rw [h]; exact e3
            · rw [h]; intro h2; injection h2; omega
          refine hK.out _ _ (by exact (x4.block _ hbf).trans HF.out) (fun hHeld => ?_)
          clear hK K
          (try simp only [Act.put, List.getElem_toArray, List.getElem_cons_succ, List.getElem_cons_zero, List.setIfInBounds_toArray, List.set_cons_zero, List.set_cons_succ])
          refine wpAnyH_ready (rs := [11]) (by kernel_rfl) (by simp) ?_
          refine AllReadyH.cons (o := _) rfl (fun K hK => ?_) AllReadyH.nil
          have see4 : aV X4 (fun g => g = b1) 1 (some ⟨b1, 0, none⟩) [f.name].length (aO [f.name]) := ⟨by simp [aO], fun _ => ⟨b1, 0, rfl, rfl, fun j u hu => by rw [cell_of_row X4 _ (0 + j) _ _ _ m4]; simpa [aO] using hu⟩⟩
          refine step_strs X4 rfl (.tmp 25) (.tmp 28) rfl Wv.heap.size _ _ _ o4 rfl _ _ _ 1 [f.name] rfl rfl see4 (by omega) (by simp) z4 ?_
          intro v5 X5 o5 g5 q5
          have x5 : Below Wv.heap.size Wv X5 := x4.trans (bH o4 g5 z4)
          have z5 : Wv.heap.size ≤ X5.heap.size := x5.size
          refine hK.out _ _ (by exact (x5.block _ hbf).trans HF.out) (fun hHeld => ?_)
          clear hK K
          (try simp only [Act.put, List.getElem_toArray, List.getElem_cons_succ, List.getElem_cons_zero, List.setIfInBounds_toArray, List.set_cons_zero, List.set_cons_succ])
          have HO5 := Lib.hid (HPT.out _ _ o5)
          obtain ⟨At, ct, hAt, hct⟩ := bV HO5.out
          subst hAt
          refine wpAnyH_ready (rs := [12]) (by kernel_rfl) (by simp) ?_
          refine AllReadyH.cons (o := _) rfl (fun K hK => ?_) AllReadyH.nil
          refine step_strs X5 rfl (.tmp 18) (.tmp 29) rfl w0.heap.size _ _ _ (HOV.out X5 x5) rfl (fun g => Wv.heap.size ≤ g) At _ ct (oC f) rfl rfl (aV.own HO5.out) (by omega) (by omega) (by have := HZ.out; omega) ?_
          intro v6 X6 o6 g6 q6
          have hrow6 : X6.heap[wr.heap.size]? = some (.cells #[.int .i64 f.op, .string f.name, .int .i64 f.byz, .int .i64 f.kW, .slice bA f.aH.length bc, .slice cA f.ax.length cc] 82 (0, 0)) := (g6.block wr.heap.size (by omega) (fun h => HNE.out h.symm)).trans ((x5.block _ hbf).trans HF.out)
          refine hK.out _ _ hrow6 (fun hHeld => ?_)
          clear hK K
          (try simp only [Act.put, List.getElem_toArray, List.getElem_cons_succ, List.getElem_cons_zero, List.setIfInBounds_toArray, List.set_cons_zero, List.set_cons_succ])
          (refine wpAnyH_take (i := 13) (oi := _) (v := ?_) rfl (by kernel_rfl) (by kernel_rfl) (by kernel_rfl) (fun _ _ _ h => h) (Or.inl ⟨by kernel_rfl, ?_⟩) hHeld ?_; rotate_left; focus (intro w9 hS9; (try dsimp only at hS9); have z1 := ah hS9 1 _ rfl; have z4 := ah hS9 4 _ rfl; have z5 := ah hS9 5 _ rfl; clear hS9; go_simp; (try with_reducible rfl); done))
          (try simp only [Act.put, List.getElem_toArray, List.getElem_cons_succ, List.getElem_cons_zero, List.setIfInBounds_toArray, List.set_cons_zero, List.set_cons_succ])
          refine wpAnyH_done (by kernel_rfl) ?_ _
          go_wp2
          go_roundw
          case rel => exact ⟨k + 1, by omega, by go_num, HPE.out _ _ o6, HB0.out.trans ((x5.mono (by have := HZ.out; omega)).trans (bH (HOV.out X5 x5) g6 (by have := HZ.out; omega)))⟩
          case measure => simp [intOf]; omega
    · obtain rfl : k = d.faults.length := by omega
      have hkI : ¬ (d.faults.length : Int) < (d.faults.length : Int) := by omega
      rw [List.take_length] at hown hvc ⊢
      obtain ⟨cur, hcur⟩ : ∃ cur, cur = d.faults.flatMap oC := ⟨_, rfl⟩
      have HU2 := Lib.hid (show us = cur ++ aK d.term ++ aK d.read ++ aK d.write ++ [d.use] ++ (if d.kind = 5 ∨ d.kind = 7 then d.names else []) by rw [HUS.out, hcur]; rfl)
      rw [← hcur] at hown hvc hfl ⊢
      obtain ⟨N1, hN1⟩ : ∃ N1, N1 = aK d.term := ⟨_, rfl⟩
      obtain ⟨N2, hN2⟩ : ∃ N2, N2 = aK d.read := ⟨_, rfl⟩
      obtain ⟨N3, hN3⟩ : ∃ N3, N3 = aK d.write := ⟨_, rfl⟩
      rw [← hN1] at HU2 HN1 n1
      rw [← hN2] at HU2 HN2 n2
      rw [← hN3] at HU2 HN3 n3
      clear hcur hN1 hN2 hN3
      have a5 : wr.cell? ⟨w.heap.size, 5, none⟩ = some (.int .i64 o1) := ah (HB.out wr hb) 5 _ rfl
      have a6 : wr.cell? ⟨w.heap.size, 6, none⟩ = some (.string m1) := ah (HB.out wr hb) 6 _ rfl
      have a7 : wr.cell? ⟨w.heap.size, 7, none⟩ = some (.int .i64 d1) := ah (HB.out wr hb) 7 _ rfl
      have a8 : wr.cell? ⟨w.heap.size, 8, none⟩ = some (.slice wA1 wn1 wc1) := ah (HB.out wr hb) 8 _ rfl
      have a9 : wr.cell? ⟨w.heap.size, 9, none⟩ = some (.slice kA1 kn1 kc1) := ah (HB.out wr hb) 9 _ rfl
      go_wp2_with fail
      refine (HN1.out wr hb).mono ?_
      rintro e W2 ⟨A2, c2, rfl, -, hs2, hb2⟩
      have hown2 := own_below hown hb2 (Nat.le_refl _)
      have hb02 := hb.trans (hb2.mono hsr)
      have hz2 := hb02.size
      clear a5 a6 a7 a8 a9 q4
      go_wp2_with (at_builtin; refine pK W2 rfl (.tmp 31) (.tmp 34) rfl w0.heap.size _ _ _ hown2 rfl _ A2 _ c2 N1 rfl rfl hs2 (by omega) (by omega) hz2 ?_; intro v3 W3 hown3 hg3 hv3; have hb03 := hb02.trans (bH hown2 hg3 hz2); have b11 : W3.cell? ⟨w.heap.size, 11, none⟩ = some (.int .i64 o2) := ah (HB.out W3 hb03) 11 _ rfl; have b12 : W3.cell? ⟨w.heap.size, 12, none⟩ = some (.string m2) := ah (HB.out W3 hb03) 12 _ rfl; have b13 : W3.cell? ⟨w.heap.size, 13, none⟩ = some (.int .i64 d2) := ah (HB.out W3 hb03) 13 _ rfl; have b14 : W3.cell? ⟨w.heap.size, 14, none⟩ = some (.slice wA2 wn2 wc2) := ah (HB.out W3 hb03) 14 _ rfl; have b15 : W3.cell? ⟨w.heap.size, 15, none⟩ = some (.slice kA2 kn2 kc2) := ah (HB.out W3 hb03) 15 _ rfl)
      refine (HN2.out W3 hb03).mono ?_
      rintro e W4 ⟨A4, c4, rfl, -, hs4, hb4⟩
      have kS := own_below hown3 hb4 (Nat.le_refl _)
      have hb04 := hb03.trans (hb4.mono hb03.size)
      have hz4 := hb04.size
      clear b11 b12 b13 b14 b15
      go_wp2_with (at_builtin; refine pK W4 rfl (.tmp 36) (.tmp 39) rfl w0.heap.size _ _ _ kS rfl _ A4 _ c4 N2 rfl rfl hs4 (by omega) (by omega) hz4 ?_; intro v5 W5 hown5 hg5 hv5; have hb05 := hb04.trans (bH kS hg5 hz4); have b16 : W5.cell? ⟨w.heap.size, 16, none⟩ = some (.int .i64 o3) := ah (HB.out W5 hb05) 16 _ rfl; have b17 : W5.cell? ⟨w.heap.size, 17, none⟩ = some (.string m3) := ah (HB.out W5 hb05) 17 _ rfl; have b18 : W5.cell? ⟨w.heap.size, 18, none⟩ = some (.int .i64 d3) := ah (HB.out W5 hb05) 18 _ rfl; have b19 : W5.cell? ⟨w.heap.size, 19, none⟩ = some (.slice wA3 wn3 wc3) := ah (HB.out W5 hb05) 19 _ rfl; have b20 : W5.cell? ⟨w.heap.size, 20, none⟩ = some (.slice kA3 kn3 kc3) := ah (HB.out W5 hb05) 20 _ rfl)
      refine (HN3.out W5 hb05).mono ?_
      rintro e W6 ⟨A6, c6, rfl, -, hs6, hb6⟩
      have hown6 := own_below hown5 hb6 (Nat.le_refl _)
      have hb06 := hb05.trans (hb6.mono hb05.size)
      have hz6 := hb06.size
      clear b16 b17 b18 b19 b20
      have HFN := Lib.hid (fun (W : World) (u : Value) (n : Nat) (xs : List Value) (h : W.ownsRow w0.heap.size 9 1 u n xs) (e1 : n = us.length) (e2 : xs = aO us) => show W.ownsRow w.heap.size 9 1 u us.length (aO us) by subst e1 e2; exact mY h HBW.out.size)
      by_cases hk5 : d.kind = 5
      · have b5 : (d.kind == (5 : Int)) = true := by rw [hk5]; rfl
        have HU := Lib.hid (show us = cur ++ N1 ++ N2 ++ N3 ++ [d.use] ++ d.names by rw [HU2.out, if_pos (Or.inl hk5)])
        clear hk5
        go_wp2_with (first | (at_builtin; refine pK W6 rfl (.tmp 41) (.tmp 44) rfl w0.heap.size _ _ _ hown6 rfl _ A6 _ c6 N3 rfl rfl hs6 (by omega) (by omega) hz6 ?_; intro v7 W7 Ik hg7 hv7; have hb07 := hb06.trans (bH hown6 hg7 hz6); have hz7 := hb07.size; have e21 : W7.cell? ⟨w.heap.size, 21, none⟩ = some (.string d.use) := ah (HB.out W7 hb07) 21 _ rfl) | (at_builtin; refine jc W7 rfl (.tmp 46) (.tmp 49) rfl w0.heap.size _ _ _ Ik rfl d.use rfl (by omega) hz7 ?_; intro v8 W8 vC hg8 hv8; have hb08 := hb07.trans (bH Ik hg8 hz7); have hz8 := hb08.size; have e0 : W8.cell? ⟨w.heap.size, 0, none⟩ = some (.int .i64 d.kind) := ah (HB.out W8 hb08) 0 _ rfl; have e3 : W8.cell? ⟨w.heap.size, 3, none⟩ = some (.slice nA d.names.length nc') := ah (HB.out W8 hb08) 3 _ rfl) | (at_builtin; refine pK W8 rfl (.tmp 59) (.tmp 61) rfl w0.heap.size _ _ _ vC rfl S nA _ nc' d.names rfl rfl (HNA.out.keep (hk2 W8 hb08)) (by simp; omega) (by omega) hz8 ?_; intro v9 W9 hown9 hg9 hv9; have hb09 := hb08.trans (bH vC hg9 hz8)))
        go_ret
        refine ⟨v9, rfl, HFN.out _ _ _ _ hown9 ?_ ?_, HBW.out.trans (hb09.mono HBW.out.size)⟩
        · rw [HU.out]; simp only [List.length_append, List.length_cons, List.length_nil]
        · rw [HU.out]; simp [aO]
      have b5 : (d.kind == (5 : Int)) = false := by rw [beq_eq_false_iff_ne]; exact hk5
      by_cases hk7 : d.kind = 7
      · have b7 : (d.kind == (7 : Int)) = true := by rw [hk7]; rfl
        have HU := Lib.hid (show us = cur ++ N1 ++ N2 ++ N3 ++ [d.use] ++ d.names by rw [HU2.out, if_pos (Or.inr hk7)])
        clear hk5 hk7
        go_wp2_with (first | (at_builtin; refine pK W6 rfl (.tmp 41) (.tmp 44) rfl w0.heap.size _ _ _ hown6 rfl _ A6 _ c6 N3 rfl rfl hs6 (by omega) (by omega) hz6 ?_; intro v7 W7 Ik hg7 hv7; have hb07 := hb06.trans (bH hown6 hg7 hz6); have hz7 := hb07.size; have e21 : W7.cell? ⟨w.heap.size, 21, none⟩ = some (.string d.use) := ah (HB.out W7 hb07) 21 _ rfl) | (at_builtin; refine jc W7 rfl (.tmp 46) (.tmp 49) rfl w0.heap.size _ _ _ Ik rfl d.use rfl (by omega) hz7 ?_; intro v8 W8 vC hg8 hv8; have hb08 := hb07.trans (bH Ik hg8 hz7); have hz8 := hb08.size; have e0 : W8.cell? ⟨w.heap.size, 0, none⟩ = some (.int .i64 d.kind) := ah (HB.out W8 hb08) 0 _ rfl; have e3 : W8.cell? ⟨w.heap.size, 3, none⟩ = some (.slice nA d.names.length nc') := ah (HB.out W8 hb08) 3 _ rfl) | (at_builtin; refine pK W8 rfl (.tmp 59) (.tmp 61) rfl w0.heap.size _ _ _ vC rfl S nA _ nc' d.names rfl rfl (HNA.out.keep (hk2 W8 hb08)) (by simp; omega) (by omega) hz8 ?_; intro v9 W9 hown9 hg9 hv9; have hb09 := hb08.trans (bH vC hg9 hz8)))
        go_ret
        refine ⟨v9, rfl, HFN.out _ _ _ _ hown9 ?_ ?_, HBW.out.trans (hb09.mono HBW.out.size)⟩
        · rw [HU.out]; simp only [List.length_append, List.length_cons, List.length_nil]
        · rw [HU.out]; simp [aO]
      have b7 : (d.kind == (7 : Int)) = false := by rw [beq_eq_false_iff_ne]; exact hk7
      have HU := Lib.hid (show us = cur ++ N1 ++ N2 ++ N3 ++ [d.use] by rw [HU2.out, if_neg (fun h => h.elim hk5 hk7), List.append_nil])
      clear hk5 hk7
      go_wp2_with (first | (at_builtin; refine pK W6 rfl (.tmp 41) (.tmp 44) rfl w0.heap.size _ _ _ hown6 rfl _ A6 _ c6 N3 rfl rfl hs6 (by omega) (by omega) hz6 ?_; intro v7 W7 Ik hg7 hv7; have hb07 := hb06.trans (bH hown6 hg7 hz6); have hz7 := hb07.size; have e21 : W7.cell? ⟨w.heap.size, 21, none⟩ = some (.string d.use) := ah (HB.out W7 hb07) 21 _ rfl) | (at_builtin; refine jc W7 rfl (.tmp 46) (.tmp 49) rfl w0.heap.size _ _ _ Ik rfl d.use rfl (by omega) hz7 ?_; intro v8 W8 vC hg8 hv8; have hb08 := hb07.trans (bH Ik hg8 hz7); have hz8 := hb08.size; have e0 : W8.cell? ⟨w.heap.size, 0, none⟩ = some (.int .i64 d.kind) := ah (HB.out W8 hb08) 0 _ rfl))
      go_ret
      refine ⟨v8, rfl, HFN.out _ _ _ _ vC ?_ ?_, HBW.out.trans (hb08.mono HBW.out.size)⟩
      · rw [HU.out]; simp only [List.length_append, List.length_cons, List.length_nil]
      · rw [HU.out]; simp [aO]
end Go.Proofs.YtbmglebipepdmaaGreatDoor
namespace Go.Proofs.YtbmglebipepdmaaGreatDoor
open Go.RowKit
theorem contains_drop (l : List ByteArray) (k : Nat) (h : k < l.length) (x : ByteArray) : (l.drop k).contains x = (l[k].toList == x.toList || (l.drop (k + 1)).contains x) := by
  rw [List.drop_eq_getElem_cons h, List.contains_cons, ← ba_tl]
  congr 1
  rw [Bool.eq_iff_iff, gY, gY]
  exact ⟨Eq.symm, Eq.symm⟩
set_option maxRecDepth 100000 in
set_option maxHeartbeats 1000000 in
theorem in_ref {w : World} {S : Nat → Prop} {A : Option Addr} {l : List ByteArray} (hs : aV w S 1 A l.length (aO l)) (c : Nat) (x : ByteArray) (hl : l.length ≤ 1000000000) :
    Calls Tryz.prog 47 #[.slice A l.length c, .string x] w fun e w' => e = .returned (.bool (l.contains x)) ∧ w = w' := by
  have HS := Lib.hid hs
  obtain ⟨r, hr⟩ : ∃ r, r = l.contains x := ⟨_, rfl⟩
  have HR0 := Lib.hid (show r = (l.drop 0).contains x by rw [List.drop_zero]; exact hr)
  rw [← hr]
  clear hs hr
  go_enter Tryz.func47, Tryz.ntmps47
  go_wp2
  go_loop [5] (fun i => ∃ k : Nat, k ≤ l.length ∧ i = .int .i64 k ∧ Hid (r = (l.drop k).contains x)) (fun i => l.length - (intOf i).toNat)
  case atStart => exact ⟨0, Nat.zero_le _, rfl, HR0⟩
  case round =>
    obtain ⟨k, hk, rfl, hr⟩ := hrel
    by_cases hlt : k < l.length
    · obtain ⟨g, o, rfl, -, k0⟩ := one_cell (f := Value.string) HS.out hlt
      have hd := contains_drop l k hlt x
      obtain ⟨p, hp⟩ : ∃ p, p = l[k] := ⟨_, rfl⟩
      rw [← hp] at k0 hd
      have hkI : (k : Int) < (l.length : Int) := by omega
      have hk0 : (0 : Int) ≤ (k : Int) := by omega
      clear hp
      cases hq : (p.toList == x.toList)
      · have HR := Lib.hid (show r = (l.drop (k + 1)).contains x by have := hr.out; rw [hd, hq] at this; exact this)
        clear hd hr
        go_wp2
        go_round
        case rel => exact ⟨k + 1, by omega, by go_num, HR⟩
        case measure => simp [intOf]; omega
      · have HR := Lib.hid (show r = true by have := hr.out; rw [hd, hq] at this; exact this)
        clear hd hr
        go_wp2
        go_ret
        exact ⟨by rw [HR.out]; rfl, rfl⟩
    · obtain rfl : k = l.length := by omega
      have hkI : ¬ (l.length : Int) < (l.length : Int) := by omega
      have HR := Lib.hid (show r = false by have := hr.out; rw [List.drop_length] at this; exact this)
      clear hr
      go_wp2
      go_ret
      exact ⟨by rw [HR.out]; rfl, rfl⟩
end Go.Proofs.YtbmglebipepdmaaGreatDoor
namespace Go.Proofs.YtbmglebipepdmaaGreatDoor
open Go.RowKit
theorem usedR_bound {l : List Dc} (hsz : (l.map d9).sum ≤ 10000000) {d : Dc} (hm : d ∈ l) : (tyUsedR d).length ≤ 1000000000 := by
  have h := Ki hsz hm
  have e2 : gq d = aK d.term ++ aK d.read ++ aK d.write ++ [d.use] ++ d.faults.flatMap oC ++ (if d.kind = 5 ∨ d.kind = 7 then d.names else []) := rfl
  rw [e2] at h
  unfold tyUsedR
  simp only [List.length_append, List.length_cons, List.length_nil] at h ⊢
  omega
attribute [local go_sem ↓] wL in
set_option maxRecDepth 100000 in
set_option maxHeartbeats 8000000 in
theorem Ja (l : List Dc) (A : Option Addr) (c : Nat) (x : ByteArray) (w : World) (S : Nat → Prop) (hl : bG (jE w S) w S 22 A l) (hS : ∀ g, S g → g < w.heap.size) (hsz : (l.map d9).sum ≤ 10000000) (hll : l.length ≤ 10000000) :
    Calls Tryz.prog 18 #[.slice A l.length c, .string x] w (Ka l x w) := by
  have HL := Lib.hid hl
  clear hl
  go_enter Tryz.func18, Tryz.ntmps18
  go_wp2
  go_loopw [5, 6] (fun v x' wr => ∃ k : Nat, k ≤ l.length ∧ x' = .int .i64 k ∧ wr.ownsRow w.heap.size 9 1 v (tyUses (l.take k) x).length (aO (tyUses (l.take k) x)) ∧ Below w.heap.size w wr) (fun _ x _ => l.length - (intOf x).toNat)
  case atStart => exact ⟨0, Nat.zero_le _, rfl, World.ownsRow_nil _ _ _ _, Below.refl _ _⟩
  case round =>
    obtain ⟨k, hk, rfl, hown, hb⟩ := hrel
    have hsr := hb.size
    by_cases hlt : k < l.length
    · skip
      obtain ⟨g, o, v2, rfl, hSg, hp, hc⟩ := iM (fun _ _ h => qB h) HL.out hlt
      have hgs : g < w.heap.size := hS g hSg
      obtain ⟨d, hd⟩ : ∃ d, d = l[k] := ⟨_, rfl⟩
      have hmem : d ∈ l := by rw [hd]; exact List.getElem_mem hlt
      have htk := A8 l k hlt
      rw [← hd] at hp htk
      have hp2 := hp
      obtain ⟨cs, nA, nc, hcl, hone, rfl, c0, -, c2, c3, -, hsn, hnc⟩ := rC hp2
      have hrange : w.rangeAt g (o + k * 22) cs := fun j u hu => hc j u (by simpa [cellsOf, Value.cells] using hu)
      have hrr : wr.rangeAt g (o + k * 22) cs := xR hrange hb hgs
      have BA : (Tryz.prog.info? 41).map (·.size) = some cs.length := by rw [hcl]; exact fP
      have hcs2 : cs.toArray.size = 22 := by simpa using hcl
      have Mv := Lib.hid hone
      have HCS := Lib.hid hcs2
      have HCL := Lib.hid hcl
      have C0 := Lib.hid c0
      have C2 := Lib.hid c2
      have hul := used_all hsz hmem
      have HUS := Lib.hid (fun (W : World) (hW : Below w.heap.size w W) => used_ref d _ W S (hp.keep (aF hW hS)) (fun g hg => by have := hS g hg; have := hW.size; omega) hul.1 hul.2.1 hul.2.2.1 hul.2.2.2)
      have hkI : (k : Int) < (l.length : Int) := by omega
      have hk0 : (0 : Int) ≤ (k : Int) := by omega
      have hbA : ∀ o, Below wr.heap.size wr (wr.alloc o) := fun o => (Below.refl _ _).alloc (Nat.le_refl _) o
      obtain ⟨cur, hcur⟩ : ∃ cur, cur = tyUses (l.take k) x := ⟨_, rfl⟩
      have htu := uses_snoc (l.take k) x d
      rw [← htk, ← hcur] at htu
      have hcll : cur.length ≤ 10000000 := by rw [hcur]; have := uses_len (l.take k) x; rw [List.length_take] at this; omega
      rw [← hcur] at hown
      obtain ⟨us, hus⟩ : ∃ us, us = tyUsedR d := ⟨_, rfl⟩
      have husl : us.length ≤ 1000000000 := by rw [hus]; exact usedR_bound hsz hmem
      rw [← usedR_contains] at htu
      rw [← hus] at HUS htu
      have HTU := Lib.hid htu
      clear hcur htk hd hc hcl c0 c2 c3 hone hsn htu hus hul hp hp2 hcs2
      by_cases hx0 : x.size = 0
      · have hxe : x.toList.isEmpty = true := by rw [ba_zero hx0, ByteArray.toList_eq]; rfl
        have HT2 := Lib.hid (show tyUses (l.take (k + 1)) x = cur by rw [HTU.out, if_neg (fun h => h.1 hx0), List.append_nil])
        clear hx0
        go_wp2
        go_roundw
        case rel =>
          refine ⟨k + 1, by omega, by go_num, ?_, hb⟩
          rw [HT2.out]
          exact hown
        case measure => simp [intOf]; omega
      · have hxe : x.toList.isEmpty = false := av (by omega)
        have ra := uL wr g (o + k * 22) cs hrr HCL.out
        have HU5 := Lib.hid (HUS.out wr hb)
        have HRG := Lib.hid (fun (W : World) (hW : Below w.heap.size w W) => xR hrange hW hgs)
        clear hrr hrange BA
        go_wp2_with fail
        refine HU5.out.mono ?_
        rintro e W6 ⟨v6, rfl, hown6, hb6⟩
        obtain ⟨A6, c6, rfl, hc6⟩ := bV hown6
        have HCT := Lib.hid (in_ref (aV.own hown6) c6 x (by omega))
        have hbw6 : Below w.heap.size w W6 := hb.trans (hb6.mono hb.size)
        have e0 : W6.cell? ⟨g, o + k * 22, none⟩ = some (.int .i64 d.kind) := HRG.out W6 hbw6 0 _ C0.out
        have e2 : W6.cell? ⟨g, o + k * 22 + 2, none⟩ = some (.string d.name) := HRG.out W6 hbw6 2 _ C2.out
        have Ik := own_below hown hb6 (Nat.le_refl _)
        have hs6 := hbw6.size
        obtain ⟨q, hq⟩ : ∃ q, q = us.contains x := ⟨_, rfl⟩
        rw [← hq] at HCT HTU
        clear hown6 hown ra hq
        cases q
        · have HT2 := Lib.hid (show tyUses (l.take (k + 1)) x = cur by rw [HTU.out, if_neg (fun h => by cases h.2), List.append_nil])
          clear hx0
          go_wp2_with fail
          refine HCT.out.mono ?_
          rintro e w' ⟨rfl, rfl⟩
          go_wp2
          go_roundw
          case rel =>
            refine ⟨k + 1, by omega, by go_num, ?_, hbw6⟩
            rw [HT2.out]
            exact Ik
          case measure => simp [intOf]; omega
        · have HT2 := Lib.hid (show tyUses (l.take (k + 1)) x = cur ++ [pQ d] by rw [HTU.out, if_pos ⟨hx0, rfl⟩])
          clear hx0
          go_wp2_with fail
          refine HCT.out.mono ?_
          rintro e w' ⟨rfl, rfl⟩
          by_cases hk5 : d.kind = 5
          · have b5 : (d.kind == (5 : Int)) = true := by rw [hk5]; rfl
            have HT3 := Lib.hid (show tyUses (l.take (k + 1)) x = cur ++ [(⟨#[119, 105, 116, 110, 101, 115, 115]⟩ : ByteArray)] by rw [HT2.out]; unfold pQ; rw [if_pos hk5])
            clear hk5
            go_wp2_with (at_builtin; refine jc W6 rfl (.tmp 40) (.tmp 41) rfl w.heap.size _ _ _ Ik rfl (⟨#[119, 105, 116, 110, 101, 115, 115]⟩ : ByteArray) rfl (by omega) hs6 ?_; intro v' w' hown' hg' hv')
            go_roundw
            case rel =>
              refine ⟨k + 1, by omega, by go_num, ?_, hbw6.trans (bH Ik hg' hs6)⟩
              rw [HT3.out, List.length_append, nH]
              exact hown'
            case measure => simp [intOf]; omega
          have b5 : (d.kind == (5 : Int)) = false := by rw [beq_eq_false_iff_ne]; exact hk5
          by_cases hk7 : d.kind = 7
          · have b7 : (d.kind == (7 : Int)) = true := by rw [hk7]; rfl
            have HT3 := Lib.hid (show tyUses (l.take (k + 1)) x = cur ++ [(⟨#[99, 104, 97, 105, 110]⟩ : ByteArray)] by rw [HT2.out]; unfold pQ; rw [if_neg hk5, if_pos hk7])
            clear hk5 hk7
            go_wp2_with (at_builtin; refine jc W6 rfl (.tmp 45) (.tmp 46) rfl w.heap.size _ _ _ Ik rfl (⟨#[99, 104, 97, 105, 110]⟩ : ByteArray) rfl (by omega) hs6 ?_; intro v' w' hown' hg' hv')
            go_roundw
            case rel =>
              refine ⟨k + 1, by omega, by go_num, ?_, hbw6.trans (bH Ik hg' hs6)⟩
              rw [HT3.out, List.length_append, nH]
              exact hown'
            case measure => simp [intOf]; omega
          have b7 : (d.kind == (7 : Int)) = false := by rw [beq_eq_false_iff_ne]; exact hk7
          have HT3 := Lib.hid (show tyUses (l.take (k + 1)) x = cur ++ [d.name] by rw [HT2.out]; unfold pQ; rw [if_neg hk5, if_neg hk7])
          clear hk5 hk7
          go_wp2_with (at_builtin; refine jc W6 rfl (.tmp 30) (.tmp 36) rfl w.heap.size _ _ _ Ik rfl d.name rfl (by omega) hs6 ?_; intro v' w' hown' hg' hv')
          go_roundw
          case rel =>
            refine ⟨k + 1, by omega, by go_num, ?_, hbw6.trans (bH Ik hg' hs6)⟩
            rw [HT3.out, List.length_append, nH]
            exact hown'
          case measure => simp [intOf]; omega
    · obtain rfl : k = l.length := by omega
      have hkI : ¬ (l.length : Int) < (l.length : Int) := by omega
      rw [List.take_length] at hown
      go_wp2
      go_ret
      exact ⟨_, rfl, hown, hb⟩
end Go.Proofs.YtbmglebipepdmaaGreatDoor
namespace Go.Proofs.YtbmglebipepdmaaGreatDoor
open Go.RowKit
theorem matters_cases {ch : Bool} {d : Dc} (h : ji ch d = true) : jl d.kind = 3 ∨ jl d.kind = 4 ∨ (jl d.kind = 5 ∧ ch = true) := by
  unfold ji at h
  simp only [Bool.or_eq_true, Bool.and_eq_true, decide_eq_true_eq] at h
  rcases h with (h | h) | ⟨h, hc⟩
  · rw [h]; exact Or.inl rfl
  · rw [h]; exact Or.inr (Or.inl rfl)
  · rw [h]; exact Or.inr (Or.inr ⟨rfl, hc⟩)
theorem matters_not {ch : Bool} {d : Dc} (h : ¬ ji ch d = true) : jl d.kind ≠ 3 ∧ jl d.kind ≠ 4 ∧ (jl d.kind ≠ 5 ∨ ch = false) := by
  unfold ji at h
  simp only [Bool.or_eq_true, Bool.and_eq_true, decide_eq_true_eq] at h
  have h2 : d.kind ≠ 2 := fun e => h (Or.inl (Or.inl e))
  have h3 : d.kind ≠ 3 := fun e => h (Or.inl (Or.inr e))
  unfold jl
  by_cases h1 : d.kind = 1
  · rw [if_pos h1]; exact ⟨by decide, by decide, Or.inl (by decide)⟩
  rw [if_neg h1, if_neg h2, if_neg h3]
  by_cases h4 : d.kind = 4
  · rw [if_pos h4]
    refine ⟨by decide, by decide, Or.inr ?_⟩
    cases ch
    · rfl
    · exact absurd (Or.inr ⟨h4, rfl⟩) h
  rw [if_neg h4]
  by_cases h6 : d.kind = 6
  · rw [if_pos h6]; exact ⟨by decide, by decide, Or.inl (by decide)⟩
  · rw [if_neg h6]; exact ⟨by decide, by decide, Or.inl (by decide)⟩
set_option maxRecDepth 100000 in
set_option maxHeartbeats 8000000 in
theorem unused_ref (l : List Dc) (A : Option Addr) (c : Nat) (w : World) (S : Nat → Prop) (hl : bG (jE w S) w S 22 A l) (hS : ∀ g, S g → g < w.heap.size) (hsz : (l.map d9).sum ≤ 10000000) (hll : l.length ≤ 10000000) :
    Calls Tryz.prog 20 #[.slice A l.length c] w (Mj l w) := by
  have HL := Lib.hid hl
  have HU := Lib.hid (fun (W : World) (hW : Below w.heap.size w W) (x : ByteArray) => Ja l A c x W S (hl.keep (aF hW hS) (fun _ _ h => h.keep (aF hW hS))) (fun g hg => by have := hS g hg; have := hW.size; omega) hsz hll)
  clear hl
  go_enter Tryz.func20, Tryz.ntmps20
  go_wp2
  go_loopw [3, 4] (fun q x' wr => ∃ k : Nat, k ≤ l.length ∧ x' = .int .i64 k ∧ q = .bool (eB (l.take k)) ∧ w = wr) (fun _ x _ => l.length - (intOf x).toNat)
  case atStart => exact ⟨0, Nat.zero_le _, rfl, rfl, rfl⟩
  case round =>
    obtain ⟨k, hk, rfl, rfl, rfl⟩ := hrel
    by_cases hlt : k < l.length
    · obtain ⟨g, o, v2, rfl, hSg, hp, hc⟩ := iM (fun _ _ h => qB h) HL.out hlt
      obtain ⟨d, hd⟩ : ∃ d, d = l[k] := ⟨_, rfl⟩
      have htk := A8 l k hlt
      rw [← hd] at hp htk
      obtain ⟨cs, nA, nc, hcl, hone, rfl, c0, -⟩ := rC hp
      have e0 : w.cell? ⟨g, o + k * 22, none⟩ = some (.int .i64 d.kind) := hc 0 _ (by simpa [cellsOf, Value.cells] using c0)
      have hkI : (k : Int) < (l.length : Int) := by omega
      have hk0 : (0 : Int) ≤ (k : Int) := by omega
      have htc : eB (l.take (k + 1)) = (eB (l.take k) || decide (d.kind = 7)) := by rw [htk]; exact wX _ _
      obtain ⟨q, hq⟩ : ∃ q, q = eB (l.take k) := ⟨_, rfl⟩
      rw [← hq] at htc ⊢
      clear hq htk hd hp hc hcl hone c0
      cases q
      · obtain ⟨z, hz⟩ : ∃ z, z = decide (d.kind = 7) := ⟨_, rfl⟩
        have hzb : (d.kind == (7 : Int)) = z := by rw [hz]; rfl
        have HTC := Lib.hid (show eB (l.take (k + 1)) = z by rw [htc, hz]; rfl)
        clear htc hz
        go_wp2
        go_roundw
        case rel => exact ⟨k + 1, by omega, by go_num, by rw [HTC.out], by trivial⟩
        case measure => simp [intOf]; omega
      · have HTC := Lib.hid (show eB (l.take (k + 1)) = true by rw [htc]; rfl)
        clear htc
        go_wp2
        go_roundw
        case rel => exact ⟨k + 1, by omega, by go_num, by rw [HTC.out], by trivial⟩
        case measure => simp [intOf]; omega
    · obtain rfl : k = l.length := by omega
      have hkI : ¬ (l.length : Int) < (l.length : Int) := by omega
      rw [List.take_length]
      obtain ⟨ch, hch⟩ : ∃ ch, ch = eB l := ⟨_, rfl⟩
      have HCH := Lib.hid hch
      rw [← hch]
      clear hch hkI
      have hkI : ¬ (l.length : Int) < (l.length : Int) := by omega
      go_wp2_with fail
      go_loopw [5, 6, 7] (fun v x' _ wr => ∃ k : Nat, k ≤ l.length ∧ x' = .int .i64 k ∧ wr.ownsRow w.heap.size 9 1 v (mP l (l.take k)).length (aO (mP l (l.take k))) ∧ Below w.heap.size w wr) (fun _ x _ _ => l.length - (intOf x).toNat)
      case atStart => exact ⟨0, Nat.zero_le _, rfl, World.ownsRow_nil _ _ _ _, Below.refl _ _⟩
      case round =>
        clear hkI
        obtain ⟨k, hk, rfl, hown, hb⟩ := hrel
        have hsr := hb.size
        by_cases hlt : k < l.length
        · obtain ⟨g, o, v2, rfl, hSg, hp, hc⟩ := iM (fun _ _ h => qB h) HL.out hlt
          have hgs : g < w.heap.size := hS g hSg
          obtain ⟨d, hd⟩ : ∃ d, d = l[k] := ⟨_, rfl⟩
          have htk := A8 l k hlt
          rw [← hd] at hp htk
          have hp2 := hp
          obtain ⟨cs, nA, nc, hcl, hone, rfl, c0, -, c2, c3, -, hsn, hnc⟩ := rC hp2
          have hrange : w.rangeAt g (o + k * 22) cs := fun j u hu => hc j u (by simpa [cellsOf, Value.cells] using hu)
          have hrr : wr.rangeAt g (o + k * 22) cs := xR hrange hb hgs
          have BA : (Tryz.prog.info? 41).map (·.size) = some cs.length := by rw [hcl]; exact fP
          have HRG := Lib.hid (fun (W : World) (hW : Below w.heap.size w W) => xR hrange hW hgs)
          have HKD := Lib.hid (fun (W : World) (hW : Below w.heap.size w W) => kind_ref d _ W S (hp.keep (aF hW hS)))
          have C2 := Lib.hid c2
          have hkI : (k : Int) < (l.length : Int) := by omega
          have hk0 : (0 : Int) ≤ (k : Int) := by omega
          obtain ⟨cur, hcur⟩ : ∃ cur, cur = mP l (l.take k) := ⟨_, rfl⟩
          have htu := Ck l (l.take k) d
          rw [← htk, ← hcur, ← HCH.out] at htu
          have hcll : cur.length ≤ 10000000 := by rw [hcur]; have := Ec l (l.take k); rw [List.length_take] at this; omega
          rw [← hcur] at hown
          have HTU := Lib.hid htu
          obtain ⟨kd, hkd⟩ : ∃ kd, kd = jl d.kind := ⟨_, rfl⟩
          rw [← hkd] at HKD
          by_cases hm : ji ch d = true
          · have hmc := matters_cases hm
            rw [← hkd] at hmc
            rw [hm] at HTU
            clear hcur htk hd hc hcl c0 c2 c3 hone hsn htu hp hp2 hm hkd hrange
            rcases hmc with rfl | rfl | ⟨rfl, rfl⟩
            all_goals
              go_wp2_with (first | (with_reducible refine wpList_load_mid rfl 41 (.tmp 31) rfl g (o + k * 22) rfl cs _ hrr Tryz.underlying41 rfl BA ?_) | (go_at_call 51; refine (HKD.out wr hb).mono ?_; rintro e w3 ⟨rfl, hb3⟩; have hbw3 : Below w.heap.size w w3 := hb.trans (hb3.mono hsr); have e2 : w3.cell? ⟨g, o + k * 22 + 2, none⟩ = some (.string d.name) := HRG.out w3 hbw3 2 _ C2.out))
              have hown3 := own_below hown hb3 (Nat.le_refl _)
              have HUC := Lib.hid (HU.out w3 hbw3 d.name)
              unfold Ka at HUC
              obtain ⟨us, hus⟩ : ∃ us, us = tyUses l d.name := ⟨_, rfl⟩
              rw [← hus] at HUC HTU
              clear hus e2
              refine HUC.out.mono ?_
              rintro e W6 ⟨v6, rfl, hown6, hb6⟩
              obtain ⟨A6, c6, rfl, hc6⟩ := bV hown6
              have Ik := own_below hown3 hb6 (Nat.le_refl _)
              have hbw6 : Below w.heap.size w W6 := hbw3.trans (hb6.mono hbw3.size)
              have hs6 := hbw6.size
              have e2 : W6.cell? ⟨g, o + k * 22 + 2, none⟩ = some (.string d.name) := HRG.out W6 hbw6 2 _ C2.out
              by_cases hu0 : us.length = 0
              · have hn0 : ((us.length : Int) == 0) = true := by rw [hu0]; rfl
                have HT2 := Lib.hid (show mP l (l.take (k + 1)) = cur ++ [d.name] by rw [HTU.out, if_pos (by exact ⟨by trivial, List.eq_nil_of_length_eq_zero hu0⟩)])
                clear hu0 hown6 hown hown3 HRG hrr
                go_wp2_with (at_builtin; refine jc W6 rfl (.tmp 58) (.tmp 64) rfl w.heap.size _ _ _ Ik rfl d.name rfl (by omega) hs6 ?_; intro v' w' hown' hg' hv')
                go_roundw
                case rel =>
                  refine ⟨k + 1, by omega, by go_num, ?_, hbw6.trans (bH Ik hg' hs6)⟩
                  rw [HT2.out, List.length_append, nH]
                  exact hown'
                case measure => simp [intOf]; omega
              · have hn0 : ((us.length : Int) == 0) = false := by rw [beq_eq_false_iff_ne]; omega
                have HT2 := Lib.hid (show mP l (l.take (k + 1)) = cur by rw [HTU.out, if_neg (fun h => hu0 (by rw [h.2]; rfl)), List.append_nil])
                clear hu0 hown6 hown hown3 HRG hrr
                go_wp2
                go_roundw
                case rel =>
                  refine ⟨k + 1, by omega, by go_num, ?_, hbw6⟩
                  rw [HT2.out]
                  exact Ik
                case measure => simp [intOf]; omega
          · obtain ⟨h3, h4, h5⟩ := matters_not hm
            rw [← hkd] at h3 h4 h5
            have HT2 := Lib.hid (show mP l (l.take (k + 1)) = cur by rw [HTU.out, if_neg (fun h => hm h.1), List.append_nil])
            have q3 : (kd == (3 : Int)) = false := by rw [beq_eq_false_iff_ne]; exact h3
            have q4 : (kd == (4 : Int)) = false := by rw [beq_eq_false_iff_ne]; exact h4
            clear hcur htk hd hc hcl c0 c2 c3 hone hsn htu hp hp2 hm hkd hrange h3 h4
            by_cases h5' : kd = 5
            · have hcf : ch = false := h5.resolve_left (fun h => h h5')
              subst hcf
              have q5 : (kd == (5 : Int)) = true := by rw [h5']; rfl
              clear h5 h5'
              go_wp2_with (first | (with_reducible refine wpList_load_mid rfl 41 (.tmp 31) rfl g (o + k * 22) rfl cs _ hrr Tryz.underlying41 rfl BA ?_) | (go_at_call 51; refine (HKD.out wr hb).mono ?_; rintro e w3 ⟨rfl, hb3⟩))
              go_roundw
              case rel =>
                refine ⟨k + 1, by omega, by go_num, ?_, hb.trans (hb3.mono hsr)⟩
                rw [HT2.out]
                exact own_below hown hb3 (Nat.le_refl _)
              case measure => simp [intOf]; omega
            · have q5 : (kd == (5 : Int)) = false := by rw [beq_eq_false_iff_ne]; exact h5'
              clear h5 h5'
              go_wp2_with (first | (with_reducible refine wpList_load_mid rfl 41 (.tmp 31) rfl g (o + k * 22) rfl cs _ hrr Tryz.underlying41 rfl BA ?_) | (go_at_call 51; refine (HKD.out wr hb).mono ?_; rintro e w3 ⟨rfl, hb3⟩))
              go_roundw
              case rel =>
                refine ⟨k + 1, by omega, by go_num, ?_, hb.trans (hb3.mono hsr)⟩
                rw [HT2.out]
                exact own_below hown hb3 (Nat.le_refl _)
              case measure => simp [intOf]; omega
        · obtain rfl : k = l.length := by omega
          have hkI : ¬ (l.length : Int) < (l.length : Int) := by omega
          rw [List.take_length] at hown
          go_wp2
          go_ret
          exact ⟨_, rfl, hown, hb⟩
end Go.Proofs.YtbmglebipepdmaaGreatDoor
