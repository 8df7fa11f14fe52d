/- The contracts of the reference's comparisons of lists of numbers and of strings, at equal lists: they return true. Printed by gen_eq.py. The contract of the reference's comparison of terms, at equal terms: it returns true. The contract of the reference's comparison of lists of faults, at equal lists: it returns true. -/
import Derived.Test.YtipicaoinnblpaaGreatDoorPkFmta
import Derived.StillTailTactics
import Derived.Deep.MidRow
import Derived.Deep.RegionHeld3
namespace Go.Proofs.YtipicaoinnblpaaGreatDoor
open Go.RowKit

set_option maxRecDepth 100000 in
set_option maxHeartbeats 1000000 in
theorem numbers_true (l : List Int) (A1 A2 : Option Addr) (c1 c2 : Nat) (w : World) (S1 S2 : Nat → Prop) (h1 : SeesIn w S1 1 A1 l.length (l.map (Value.int .i64))) (h2 : SeesIn w S2 1 A2 l.length (l.map (Value.int .i64))) (hlim : l.length ≤ 1000000000000) :
    Calls Tryz.prog 43 #[.slice A1 l.length c1, .slice A2 l.length c2] w fun e w' => e = .returned (.bool true) ∧ Below w.heap.size w w' := by
  have H1 := Lib.hid h1
  have H2 := Lib.hid h2
  clear h1 h2
  go_enter Tryz.func43, Tryz.ntmps43
  go_wp2
  go_loopw [5] (fun x wr => ∃ k : Nat, k ≤ l.length ∧ x = .int .i64 k ∧ Below w.heap.size w wr) (fun x _ => l.length - (intOf x).toNat)
  case atStart => exact ⟨0, Nat.zero_le _, rfl, Below.refl _ _⟩
  case round =>
    obtain ⟨k, hk, rfl, hb⟩ := hrel
    by_cases hlt : k < l.length
    · obtain ⟨g1, o1, rfl, hS1, k1⟩ := one_cell (H1.out.keep (kept_all hb)) hlt
      obtain ⟨g2, o2, rfl, hS2, k2⟩ := one_cell (H2.out.keep (kept_all hb)) hlt
      have hg1 : g1 < wr.heap.size := World.block_lt_of_cell? wr _ k1
      have hg2 : g2 < wr.heap.size := World.block_lt_of_cell? wr _ k2
      generalize l[k] = u at k1 k2
      have hkI : (k : Int) < (l.length : Int) := by omega
      have hk0 : (0 : Int) ≤ (k : Int) := by omega
      go_upto_region 6 with fail
      go_quiet (fail)
      go_wp2
      go_roundw
      case rel => exact ⟨k + 1, by omega, by go_num, below_drewN hb _⟩
      case measure => simp [intOf]; omega
    · obtain rfl : k = l.length := by omega
      have hkI : ¬ (l.length : Int) < (l.length : Int) := by omega
      go_wp2
      go_ret
      exact ⟨rfl, hb⟩

set_option maxRecDepth 100000 in
set_option maxHeartbeats 1000000 in
theorem strings_true (l : List ByteArray) (A1 A2 : Option Addr) (c1 c2 : Nat) (w : World) (S1 S2 : Nat → Prop) (h1 : SeesIn w S1 1 A1 l.length (l.map Value.string)) (h2 : SeesIn w S2 1 A2 l.length (l.map Value.string)) (hlim : l.length ≤ 1000000000000) :
    Calls Tryz.prog 37 #[.slice A1 l.length c1, .slice A2 l.length c2] w fun e w' => e = .returned (.bool true) ∧ Below w.heap.size w w' := by
  have H1 := Lib.hid h1
  have H2 := Lib.hid h2
  clear h1 h2
  go_enter Tryz.func37, Tryz.ntmps37
  go_wp2
  go_loopw [5] (fun x wr => ∃ k : Nat, k ≤ l.length ∧ x = .int .i64 k ∧ Below w.heap.size w wr) (fun x _ => l.length - (intOf x).toNat)
  case atStart => exact ⟨0, Nat.zero_le _, rfl, Below.refl _ _⟩
  case round =>
    obtain ⟨k, hk, rfl, hb⟩ := hrel
    by_cases hlt : k < l.length
    · obtain ⟨g1, o1, rfl, hS1, k1⟩ := one_cell (H1.out.keep (kept_all hb)) hlt
      obtain ⟨g2, o2, rfl, hS2, k2⟩ := one_cell (H2.out.keep (kept_all hb)) hlt
      have hg1 : g1 < wr.heap.size := World.block_lt_of_cell? wr _ k1
      have hg2 : g2 < wr.heap.size := World.block_lt_of_cell? wr _ k2
      generalize l[k] = u at k1 k2
      have hkI : (k : Int) < (l.length : Int) := by omega
      have hk0 : (0 : Int) ≤ (k : Int) := by omega
      go_upto_region 6 with fail
      go_quiet (fail)
      go_wp2
      go_roundw
      case rel => exact ⟨k + 1, by omega, by go_num, below_drewN hb _⟩
      case measure => simp [intOf]; omega
    · obtain rfl : k = l.length := by omega
      have hkI : ¬ (l.length : Int) < (l.length : Int) := by omega
      go_wp2
      go_ret
      exact ⟨rfl, hb⟩

end Go.Proofs.YtipicaoinnblpaaGreatDoor
namespace Go.Proofs.YtipicaoinnblpaaGreatDoor
open Go.RowKit

theorem two_boxes (w : World) (X Y : Array Value) (t : TypeId) : ((w.alloc (.cells X t)).alloc (.cells Y t)).heap[w.heap.size]? = some (.cells X t (0, 0)) ∧ ((w.alloc (.cells X t)).alloc (.cells Y t)).heap[w.heap.size + 1]? = some (.cells Y t (0, 0)) := by
  have e : (w.alloc (.cells X t)).heap.size = w.heap.size + 1 := by simp
  refine ⟨?_, ?_⟩
  · exact (((Below.refl (w.heap.size + 1) (w.alloc (.cells X t))).alloc (by omega) (.cells Y t)).block _ (by omega)).trans (heap_alloc_new w _)
  · have h := heap_alloc_new (w.alloc (.cells X t)) (.cells Y t)
    rw [e] at h; exact h
def ETrue (t : Tm) : Prop := ∀ (v1 v2 : Value) (w : World) (S1 S2 : Nat → Prop), TmAt w S1 t v1 → TmAt w S2 t v2 → tmSize t ≤ 1000000000 →
  Calls Tryz.prog 17 #[v1, v2] w fun e w' => e = .returned (.bool true) ∧ Below w.heap.size w w'

set_option maxRecDepth 100000 in
set_option maxHeartbeats 4000000 in
theorem equalTerm_step (t : Tm) (ih : ∀ k ∈ t.kids, ETrue k) : ETrue t := by
  intro v1 v2 w S1 S2 h1 h2 hsz
  have hss := tmsSize_kids t
  cases h1 with
  | mk op nm need ws kids wA kA cw kc vs hw hwc hk hkc hl h =>
  cases h2 with
  | mk _ _ _ _ _ wA2 kA2 cw2 kc2 vs2 hw2 hwc2 hk2 hkc2 hl2 h2 =>
  have hss : tmSize (.mk op nm need ws kids) = 1 + nm.size + ws.length + tmsSize kids := hss
  have hkl := tms_length kids
  have IH := Lib.hid (show ∀ k ∈ kids, ETrue k from ih)
  have HA := Lib.hid (fun (W : World) (hb : Below w.heap.size w W) => (⟨vs, hl, hk.keep (kept_all hb), fun i x u hx hu => (h i x u hx hu).keep (kept_all hb)⟩ : ListAt (TmAt W S1) W S1 5 kA kids))
  have HB := Lib.hid (fun (W : World) (hb : Below w.heap.size w W) => (⟨vs2, hl2, hk2.keep (kept_all hb), fun i x u hx hu => (h2 i x u hx hu).keep (kept_all hb)⟩ : ListAt (TmAt W S2) W S2 5 kA2 kids))
  have HN := Lib.hid (fun (W : World) (hb : Below w.heap.size w W) => numbers_true ws wA wA2 cw cw2 W S1 S2 (hw.keep (kept_all hb)) (hw2.keep (kept_all hb)) (by omega))
  have hkb : kids.length ≤ 1000000000 := by omega
  have HSZ := Lib.hid (show tmsSize kids ≤ 1000000000 by omega)
  clear ih h h2 hw hw2 hk hk2 hl hl2 hss hsz
  have hbA : ∀ o o2, Below w.heap.size w ((w.alloc o).alloc o2) := fun o o2 => ((Below.refl _ _).alloc (Nat.le_refl _) o).alloc (by simp) o2
  go_enter Tryz.func17, Tryz.ntmps17
  go_wp2_with fail
  refine (HN.out _ (hbA _ _)).mono ?_
  rintro e W1 ⟨rfl, hb1⟩
  have hs1 := hb1.size
  rw [show ((w.alloc (.cells #[.int .i64 op, .string nm, .int .i64 need, .slice wA ws.length cw, .slice kA kids.length kc] 32)).alloc (.cells #[.int .i64 op, .string nm, .int .i64 need, .slice wA2 ws.length cw2, .slice kA2 kids.length kc2] 32)).heap.size = w.heap.size + 1 + 1 by simp] at hs1 hb1
  have hbw1 : Below w.heap.size w W1 := (hbA _ _).trans (hb1.mono (by omega))
  have r1 : W1.cell? ⟨w.heap.size, 4, none⟩ = some (.slice kA kids.length kc) := cell_row ((hb1.block _ (by omega)).trans (two_boxes w _ _ _).1) 4 _ rfl
  have r2 : W1.cell? ⟨w.heap.size + 1, 4, none⟩ = some (.slice kA2 kids.length kc2) := cell_row ((hb1.block _ (by omega)).trans (two_boxes w _ _ _).2) 4 _ rfl
  go_wp2
  have R1 := Lib.hid r1
  have R2 := Lib.hid r2
  clear r1 r2 hb1
  go_loopw [5] (fun x wr => ∃ k : Nat, k ≤ kids.length ∧ x = .int .i64 k ∧ Below W1.heap.size W1 wr) (fun x _ => kids.length - (intOf x).toNat)
  case atStart => exact ⟨0, Nat.zero_le _, rfl, Below.refl _ _⟩
  case round =>
    obtain ⟨k, hk, rfl, hb⟩ := hrel
    have hsr := hb.size
    have hbw : Below w.heap.size w wr := hbw1.trans (hb.mono hbw1.size)
    have r1 : wr.cell? ⟨w.heap.size, 4, none⟩ = some (.slice kA kids.length kc) := (hb.cell (p := ⟨w.heap.size, 4, none⟩) (by simp; omega)).trans R1.out
    have r2 : wr.cell? ⟨w.heap.size + 1, 4, none⟩ = some (.slice kA2 kids.length kc2) := (hb.cell (p := ⟨w.heap.size + 1, 4, none⟩) (by simp; omega)).trans R2.out
    by_cases hlt : k < kids.length
    · obtain ⟨g, o, op1, nm1, nd1, wA3, wn3, wc3, kA3, kn3, kc3, rfl, hSg, ht1, k0, k1, k2, k3, k4, -⟩ := term_cells (HA.out wr hbw) hlt
      obtain ⟨g2, o2, op2, nm2, nd2, wA4, wn4, wc4, kA4, kn4, kc4, rfl, hSg2, ht2, l0, l1, l2, l3, l4, -⟩ := term_cells (HB.out wr hbw) hlt
      have hgs : g < wr.heap.size := World.block_lt_of_cell? wr _ k0
      have hgs2 : g2 < wr.heap.size := World.block_lt_of_cell? wr _ l0
      have hkI : (k : Int) < (kids.length : Int) := by omega
      have hk0 : (0 : Int) ≤ (k : Int) := by omega
      have hmem : kids[k] ∈ kids := List.getElem_mem hlt
      have HC := Lib.hid (IH.out _ hmem _ _ wr.drew S1 S2 (ht1.keep (kept_all (Below.refl _ _).drew)) (ht2.keep (kept_all (Below.refl _ _).drew)) (by have := tm_size_mem hmem; have := HSZ.out; omega))
      clear ht1 ht2
      go_upto_region 6 with fail
      go_still_tail 10, (by kernel_rfl)
      go_wp2_with fail
      refine HC.out.mono ?_
      rintro e W2 ⟨rfl, hb2⟩
      go_wp2
      go_roundw
      case rel => exact ⟨k + 1, by omega, by go_num, hb.drew.trans (hb2.mono hsr)⟩
      case measure => simp [intOf]; omega
    · obtain rfl : k = kids.length := by omega
      have hkI : ¬ (kids.length : Int) < (kids.length : Int) := by omega
      go_wp2
      go_ret
      exact ⟨rfl, hbw⟩
theorem equalTerm_true (t : Tm) : ETrue t := by
  have : ∀ (n : Nat) (t : Tm), tmSize t ≤ n → ETrue t := by
    intro n
    induction n with
    | zero => intro t ht; have : 0 < tmSize t := by (cases t; rw [tmSize]; omega)
              omega
    | succ n ih => intro t ht; exact equalTerm_step t (fun k hk => ih k (by have := tm_kid_size hk; omega))
  exact this _ t (Nat.le_refl _)
end Go.Proofs.YtipicaoinnblpaaGreatDoor
namespace Go.Proofs.YtipicaoinnblpaaGreatDoor
open Go.RowKit

/-- A whole fault loaded and stored, which the walk does not take apart. -/
def loadF (p : Value) : Sem Value := Instr.loadAt 97 p
def storeF (p v : Value) : Sem Unit := Instr.storeAt 97 p v
theorem exec_loadF (ρ : Operand → Value) (dst : Option Tmp) (x : Operand) (ty : TypeId) (pos : String) (after : Array Edge) (guard : Option (Nat × Bool)) :
    execOp ρ { dst, op := .load 97 x, type := ty, pos, after, guard } = (do pure (.value (← loadF (ρ x)))) := rfl
theorem exec_storeF (ρ : Operand → Value) (dst : Option Tmp) (x y : Operand) (ty : TypeId) (pos : String) (after : Array Edge) (guard : Option (Nat × Bool)) :
    execOp ρ { dst, op := .store 97 x y, type := ty, pos, after, guard } = (do storeF (ρ x) (ρ y); pure .skip) := rfl
theorem size_fault : (Tryz.prog.info? 97).map (·.size) = some 6 := by kernel_rfl
theorem run_loadF (w : World) (g o : Nat) (cs : List Value) (h : w.rangeAt g o cs) (hc : cs.length = 6) : (loadF (.pointer (some ⟨g, o, none⟩))).run Tryz.prog w = .ok (.agg cs.toArray) w := by
  unfold loadF
  exact run_loadAt_mid (P := Tryz.prog) w g o 97 cs _ h Tryz.underlying97 rfl (by rw [hc]; exact size_fault)
theorem run_storeF (w : World) (b : Nat) (old cells : Array Value) (hg : w.heap[b]? = some (.cells old 97 (0, 0))) (ho : old.size = 6) (hc : cells.size = 6) (h1 : cells.all (·.oneCell') = true) : (storeF (.pointer (some ⟨b, 0, none⟩)) (.agg cells)).run Tryz.prog w = .ok () (w.setRow b cells) := by
  have h := run_storeVar_row (P := Tryz.prog) w b 97 97 old cells hg (by rw [hc]; exact size_fault) (by rw [ho, hc]) h1
  unfold storeF
  simp only [Instr.storeAt, Instr.sureAddr, Sem.run_bind, Sem.run_pure, Result.andThen]
  exact h

/-- Two values stored into two new blocks, in either order. -/
theorem pair01 (w : World) (Z X Y : Array Value) (t : TypeId) :
    (((((w.alloc (.cells Z t)).alloc (.cells Z t)).drew.setRow w.heap.size X).setRow (w.heap.size + 1) Y).heap[w.heap.size]? = some (.cells X t (0, 0)) ∧ ((((w.alloc (.cells Z t)).alloc (.cells Z t)).drew.setRow w.heap.size X).setRow (w.heap.size + 1) Y).heap[w.heap.size + 1]? = some (.cells Y t (0, 0))) ∧ Below w.heap.size w ((((w.alloc (.cells Z t)).alloc (.cells Z t)).drew.setRow w.heap.size X).setRow (w.heap.size + 1) Y) := by
  obtain ⟨h0, h1⟩ := two_boxes w Z Z t
  have hs : ((w.alloc (.cells Z t)).alloc (.cells Z t)).heap.size = w.heap.size + 1 + 1 := by simp
  have hb : Below w.heap.size w ((w.alloc (.cells Z t)).alloc (.cells Z t)).drew := (((Below.refl _ _).alloc (Nat.le_refl _) _).alloc (by simp) _).drew
  generalize hW : ((w.alloc (.cells Z t)).alloc (.cells Z t)).drew = W at hb
  have h0 : W.heap[w.heap.size]? = some (.cells Z t (0, 0)) := by rw [← hW]; exact h0
  have h1 : W.heap[w.heap.size + 1]? = some (.cells Z t (0, 0)) := by rw [← hW]; exact h1
  have a0 := setRow_heap W w.heap.size Z X t (0, 0) h0
  have a1 : (W.setRow w.heap.size X).heap[w.heap.size + 1]? = some (.cells Z t (0, 0)) := (setRow_other W w.heap.size (w.heap.size + 1) X (by omega)).trans h1
  refine ⟨⟨(setRow_other _ (w.heap.size + 1) w.heap.size Y (by omega)).trans a0, setRow_heap _ (w.heap.size + 1) Z Y t (0, 0) a1⟩, ?_⟩
  exact (hb.trans (below_grown (setRow_grown W w.heap.size X) (Nat.le_refl _) hb.size)).trans (below_grown (setRow_grown _ (w.heap.size + 1) Y) (by omega) (by rw [size_setRow]; exact hb.size))
theorem pair10 (w : World) (Z X Y : Array Value) (t : TypeId) :
    (((((w.alloc (.cells Z t)).alloc (.cells Z t)).drew.setRow (w.heap.size + 1) Y).setRow w.heap.size X).heap[w.heap.size]? = some (.cells X t (0, 0)) ∧ ((((w.alloc (.cells Z t)).alloc (.cells Z t)).drew.setRow (w.heap.size + 1) Y).setRow w.heap.size X).heap[w.heap.size + 1]? = some (.cells Y t (0, 0))) ∧ Below w.heap.size w ((((w.alloc (.cells Z t)).alloc (.cells Z t)).drew.setRow (w.heap.size + 1) Y).setRow w.heap.size X) := by
  obtain ⟨h0, h1⟩ := two_boxes w Z Z t
  have hs : ((w.alloc (.cells Z t)).alloc (.cells Z t)).heap.size = w.heap.size + 1 + 1 := by simp
  have hb : Below w.heap.size w ((w.alloc (.cells Z t)).alloc (.cells Z t)).drew := (((Below.refl _ _).alloc (Nat.le_refl _) _).alloc (by simp) _).drew
  generalize hW : ((w.alloc (.cells Z t)).alloc (.cells Z t)).drew = W at hb
  have h0 : W.heap[w.heap.size]? = some (.cells Z t (0, 0)) := by rw [← hW]; exact h0
  have h1 : W.heap[w.heap.size + 1]? = some (.cells Z t (0, 0)) := by rw [← hW]; exact h1
  have a1 := setRow_heap W (w.heap.size + 1) Z Y t (0, 0) h1
  have a0 : (W.setRow (w.heap.size + 1) Y).heap[w.heap.size]? = some (.cells Z t (0, 0)) := (setRow_other W (w.heap.size + 1) w.heap.size Y (by omega)).trans h0
  refine ⟨⟨setRow_heap _ w.heap.size Z X t (0, 0) a0, (setRow_other _ w.heap.size (w.heap.size + 1) X (by omega)).trans a1⟩, ?_⟩
  exact (hb.trans (below_grown (setRow_grown W (w.heap.size + 1) Y) (by omega) hb.size)).trans (below_grown (setRow_grown _ w.heap.size X) (Nat.le_refl _) (by rw [size_setRow]; exact hb.size))
theorem swap_pair {a b c : Prop} (h : (a ∧ b) ∧ c) : (b ∧ a) ∧ c := ⟨⟨h.1.2, h.1.1⟩, h.2⟩
theorem mid0 (w : World) (Z X : Array Value) (t : TypeId) : ((w.alloc (.cells Z t)).alloc (.cells Z t)).drew.heap[w.heap.size]? = some (.cells Z t (0, 0)) ∧ ((w.alloc (.cells Z t)).alloc (.cells Z t)).drew.heap[w.heap.size + 1]? = some (.cells Z t (0, 0)) ∧
    (((w.alloc (.cells Z t)).alloc (.cells Z t)).drew.setRow w.heap.size X).heap[w.heap.size + 1]? = some (.cells Z t (0, 0)) ∧ (((w.alloc (.cells Z t)).alloc (.cells Z t)).drew.setRow (w.heap.size + 1) X).heap[w.heap.size]? = some (.cells Z t (0, 0)) := by
  obtain ⟨h0, h1⟩ := two_boxes w Z Z t
  exact ⟨h0, h1, (setRow_other _ w.heap.size (w.heap.size + 1) X (by omega)).trans h1, (setRow_other _ (w.heap.size + 1) w.heap.size X (by omega)).trans h0⟩
theorem rg_drew {w : World} {g o : Nat} {cs : List Value} (h : w.rangeAt g o cs) : w.drew.rangeAt g o cs := h
theorem rg_setRow {w : World} {g o b : Nat} {cs : List Value} {X : Array Value} (h : w.rangeAt g o cs) (hne : g ≠ b) : (w.setRow b X).rangeAt g o cs := fun j v hv => (World.cell?_of_block (setRow_other w b g X hne)).trans (h j v hv)
def FNames (l : List Ft) : Prop := ∀ f ∈ l, f.byzNames.length ≤ 1000000000000 ∧ f.crashNames.length ≤ 1000000000000
attribute [local go_sem ↓] exec_loadF in
attribute [local go_sem ↓] exec_storeF in
set_option maxRecDepth 100000 in
set_option maxHeartbeats 4000000 in
theorem equalFaults_true (l : List Ft) (A1 A2 : Option Addr) (c1 c2 : Nat) (w : World) (S1 S2 : Nat → Prop) (h1 : ListAt (FtAt w S1) w S1 6 A1 l) (h2 : ListAt (FtAt w S2) w S2 6 A2 l) (hlim : l.length ≤ 1000000000000) (hn : FNames l) :
    Calls Tryz.prog 38 #[.slice A1 l.length c1, .slice A2 l.length c2] w fun e w' => e = .returned (.bool true) ∧ Below w.heap.size w w' := by
  have H1 := Lib.hid h1
  have H2 := Lib.hid h2
  have HN := Lib.hid hn
  clear h1 h2 hn
  go_enter Tryz.func38, Tryz.ntmps38
  go_wp2
  go_loopw [5] (fun x wr => ∃ k : Nat, k ≤ l.length ∧ x = .int .i64 k ∧ Below w.heap.size w wr) (fun x _ => l.length - (intOf x).toNat)
  case atStart => exact ⟨0, Nat.zero_le _, rfl, Below.refl _ _⟩
  case round =>
    obtain ⟨k, hk, rfl, hb⟩ := hrel
    have hsr := hb.size
    by_cases hlt : k < l.length
    · have q1 := H1.out.keep (P' := FtAt wr S1) (kept_all hb) (fun _ _ h => h.keep (kept_all hb))
      have q2 := H2.out.keep (P' := FtAt wr S2) (kept_all hb) (fun _ _ h => h.keep (kept_all hb))
      obtain ⟨g1, o1, v1, rfl, hS1, hp1, hc1⟩ := el_cells (fun x v h => by obtain ⟨bA, bc, cA, cc, rfl, -⟩ := h; rfl) q1 hlt
      obtain ⟨g2, o2, v2, rfl, hS2, hp2, hc2⟩ := el_cells (fun x v h => by obtain ⟨bA, bc, cA, cc, rfl, -⟩ := h; rfl) q2 hlt
      obtain ⟨bA, bc, cA, cc, rfl, hs1, hl1, hs2, hl2⟩ := hp1
      obtain ⟨bA2, bc2, cA2, cc2, rfl, hs3, hl3, hs4, hl4⟩ := hp2
      have hmem : l[k] ∈ l := List.getElem_mem hlt
      obtain ⟨n1, n2⟩ := HN.out _ hmem
      generalize l[k] = f at *
      obtain ⟨op, nm, x, y, bl, cl⟩ := f
      simp only at hs1 hl1 hs2 hl2 hs3 hl3 hs4 hl4 hc1 hc2 n1 n2
      have hr1 : wr.rangeAt g1 (o1 + k * 6) [.int .i64 op, .string nm, .int .i64 x, .int .i64 y, .slice bA bl.length bc, .slice cA cl.length cc] := fun j u hu => hc1 j u (by simpa [cellsOf, Value.cells] using hu)
      have hr2 : wr.rangeAt g2 (o2 + k * 6) [.int .i64 op, .string nm, .int .i64 x, .int .i64 y, .slice bA2 bl.length bc2, .slice cA2 cl.length cc2] := fun j u hu => hc2 j u (by simpa [cellsOf, Value.cells] using hu)
      have hg1 : g1 < wr.heap.size := World.block_lt_of_cell? wr _ (hr1 0 _ rfl)
      have hg2 : g2 < wr.heap.size := World.block_lt_of_cell? wr _ (hr2 0 _ rfl)
      have hkI : (k : Int) < (l.length : Int) := by omega
      have hk0 : (0 : Int) ≤ (k : Int) := by omega
      clear hc1 hc2 q1 q2
      obtain ⟨L1, hL1⟩ : ∃ L : List Value, L = [.int .i64 op, .string nm, .int .i64 x, .int .i64 y, .slice bA bl.length bc, .slice cA cl.length cc] := ⟨_, rfl⟩
      obtain ⟨L2, hL2⟩ : ∃ L : List Value, L = [.int .i64 op, .string nm, .int .i64 x, .int .i64 y, .slice bA2 bl.length bc2, .slice cA2 cl.length cc2] := ⟨_, rfl⟩
      have C1 : L1.toArray.size = 6 := by rw [hL1]; rfl
      have C2 : L2.toArray.size = 6 := by rw [hL2]; rfl
      have O1 : L1.toArray.all (·.oneCell') = true := by rw [hL1]; simp [Value.oneCell']
      have O2 : L2.toArray.all (·.oneCell') = true := by rw [hL2]; simp [Value.oneCell']
      rw [← hL1] at hr1
      rw [← hL2] at hr2
      have HL1 := Lib.hid hL1
      have HL2 := Lib.hid hL2
      clear hL1 hL2
      go_upto_region 6 with fail
      go_cut [6, 7] (fun p q wx => ∃ b1 b2, p = .pointer (some ⟨b1, 0, none⟩) ∧ q = .pointer (some ⟨b2, 0, none⟩) ∧ (wx.heap[b1]? = some (.cells L1.toArray 97 (0, 0)) ∧ wx.heap[b2]? = some (.cells L2.toArray 97 (0, 0))) ∧ Below wr.heap.size wr wx)
      case first =>
        have st1 := fun (Z : Array Value) (hZ : Z.size = 6) => run_storeF (((wr.alloc (.cells Z 97)).alloc (.cells Z 97)).drew) wr.heap.size Z L1.toArray (mid0 wr Z L1.toArray 97).1 hZ C1 O1
        have st2 := fun (Z : Array Value) (hZ : Z.size = 6) => run_storeF ((((wr.alloc (.cells Z 97)).alloc (.cells Z 97)).drew).setRow wr.heap.size L1.toArray) (wr.heap.size + 1) Z L2.toArray (mid0 wr Z L1.toArray 97).2.2.1 hZ C2 O2
        have st3 := fun (Z : Array Value) (hZ : Z.size = 6) => run_storeF (((wr.alloc (.cells Z 97)).alloc (.cells Z 97)).drew) (wr.heap.size + 1) Z L2.toArray (mid0 wr Z L1.toArray 97).2.1 hZ C2 O2
        have st4 := fun (Z : Array Value) (hZ : Z.size = 6) => run_storeF ((((wr.alloc (.cells Z 97)).alloc (.cells Z 97)).drew).setRow (wr.heap.size + 1) L2.toArray) wr.heap.size Z L1.toArray (mid0 wr Z L2.toArray 97).2.2.2 hZ C1 O1
        have st5 := fun (Z : Array Value) (hZ : Z.size = 6) => run_storeF (((wr.alloc (.cells Z 97)).alloc (.cells Z 97)).drew) wr.heap.size Z L2.toArray (mid0 wr Z L2.toArray 97).1 hZ C2 O2
        have st6 := fun (Z : Array Value) (hZ : Z.size = 6) => run_storeF ((((wr.alloc (.cells Z 97)).alloc (.cells Z 97)).drew).setRow wr.heap.size L2.toArray) (wr.heap.size + 1) Z L1.toArray (mid0 wr Z L2.toArray 97).2.2.1 hZ C1 O1
        have st7 := fun (Z : Array Value) (hZ : Z.size = 6) => run_storeF (((wr.alloc (.cells Z 97)).alloc (.cells Z 97)).drew) (wr.heap.size + 1) Z L1.toArray (mid0 wr Z L2.toArray 97).2.1 hZ C1 O1
        have st8 := fun (Z : Array Value) (hZ : Z.size = 6) => run_storeF ((((wr.alloc (.cells Z 97)).alloc (.cells Z 97)).drew).setRow (wr.heap.size + 1) L1.toArray) wr.heap.size Z L2.toArray (mid0 wr Z L1.toArray 97).2.2.2 hZ C2 O2
        have ra := fun (W : World) (h : W.rangeAt g1 (o1 + k * 6) L1) => run_loadF W g1 (o1 + k * 6) _ h (by simpa using C1)
        have rb := fun (W : World) (h : W.rangeAt g2 (o2 + k * 6) L2) => run_loadF W g2 (o2 + k * 6) _ h (by simpa using C2)
        have E1 := Lib.hid (pair01 wr #[.int .i64 0, .string ⟨#[]⟩, .int .i64 0, .int .i64 0, .slice none 0 0, .slice none 0 0] L1.toArray L2.toArray 97)
        have E2 := Lib.hid (pair10 wr #[.int .i64 0, .string ⟨#[]⟩, .int .i64 0, .int .i64 0, .slice none 0 0, .slice none 0 0] L1.toArray L2.toArray 97)
        have E3 := Lib.hid (swap_pair (pair01 wr #[.int .i64 0, .string ⟨#[]⟩, .int .i64 0, .int .i64 0, .slice none 0 0, .slice none 0 0] L2.toArray L1.toArray 97))
        have E4 := Lib.hid (swap_pair (pair10 wr #[.int .i64 0, .string ⟨#[]⟩, .int .i64 0, .int .i64 0, .slice none 0 0, .slice none 0 0] L2.toArray L1.toArray 97))
        clear H1 H2 HN hs1 hs2 hs3 hs4 C1 C2 O1 O2 HL1 HL2 hl1 hl2 hl3 hl4 n1 n2
        go_region_held3 (fun w' => w'.rangeAt g1 (o1 + k * 6) L1 ∧ w'.rangeAt g2 (o2 + k * 6) L2) (first | (refine ⟨?_, ?_⟩ <;> (repeat (first | exact hr1 | exact hr2 | refine rg_drew ?_ | refine World.rangeAt_alloc ?_ _ | refine rg_setRow ?_ (by omega))))) (fail)
        all_goals (
          go_wp2
          go_meet
          refine ⟨_, _, rfl, rfl, ?_⟩
          first | with_reducible exact E1.out | with_reducible exact E2.out | with_reducible exact E3.out | with_reducible exact E4.out)
      case rest =>
        obtain ⟨b1, b2, rfl, rfl, ⟨hw1, hw2⟩, hbx⟩ := hcut
        have hbw : Below w.heap.size w wc := hb.trans (hbx.mono hsr)
        rw [HL1.out] at hw1
        rw [HL2.out] at hw2
        have x0 := cell_row hw1 0 _ rfl
        have x1 := cell_row hw1 1 _ rfl
        have x2 := cell_row hw1 2 _ rfl
        have x3 := cell_row hw1 3 _ rfl
        have x4 := cell_row hw1 4 _ rfl
        have x5 := cell_row hw1 5 _ rfl
        have y0 := cell_row hw2 0 _ rfl
        have y1 := cell_row hw2 1 _ rfl
        have y2 := cell_row hw2 2 _ rfl
        have y3 := cell_row hw2 3 _ rfl
        have y4 := cell_row hw2 4 _ rfl
        have y5 := cell_row hw2 5 _ rfl
        have hlt1 := (Array.getElem?_eq_some_iff.1 hw1).1
        have hlt2 := (Array.getElem?_eq_some_iff.1 hw2).1
        have HS1 := Lib.hid (strings_true bl bA bA2 bc bc2 wc S1 S2 (hs1.keep (kept_all hbx)) (hs3.keep (kept_all hbx)) n1)
        have HS2 := Lib.hid (fun (W : World) (hb : Below wc.heap.size wc W) => strings_true cl cA cA2 cc cc2 W S1 S2 ((hs2.keep (kept_all hbx)).keep (kept_all hb)) ((hs4.keep (kept_all hbx)).keep (kept_all hb)) n2)
        have X5 := Lib.hid x5
        have Y5 := Lib.hid y5
        clear hs1 hs2 hs3 hs4 hr1 hr2 hw1 hw2 C1 C2 O1 O2
        go_wp2_with fail
        refine HS1.out.mono ?_
        rintro e W3 ⟨rfl, hb3⟩
        have z5 : W3.cell? ⟨b1, 5, none⟩ = _ := (hb3.cell (p := ⟨b1, 5, none⟩) hlt1).trans X5.out
        have z6 : W3.cell? ⟨b2, 5, none⟩ = _ := (hb3.cell (p := ⟨b2, 5, none⟩) hlt2).trans Y5.out
        clear x0 x1 x2 x3 x4 x5 y0 y1 y2 y3 y4 y5
        go_wp2_with fail
        refine (HS2.out W3 hb3).mono ?_
        rintro e W4 ⟨rfl, hb4⟩
        go_wp2
        go_roundw
        case rel => exact ⟨k + 1, by omega, by go_num, (hbw.trans (hb3.mono hbw.size)).trans (hb4.mono (Nat.le_trans hbw.size hb3.size))⟩
        case measure => simp [intOf]; omega
    · obtain rfl : k = l.length := by omega
      have hkI : ¬ (l.length : Int) < (l.length : Int) := by omega
      go_wp2
      go_ret
      exact ⟨rfl, hb⟩
end Go.Proofs.YtipicaoinnblpaaGreatDoor
