/- The contract of the reference's comparison of declarations, at declarations that are equal (apart from the lines, where these do not count): it returns true. Printed by gen_equal.py. -/
import Derived.Test.YtipicaoinnblpaaGreatDoorPkEqa
import Derived.Test.YtipicaoinnblpaaGreatDoorPkPlain
namespace Go.Proofs.YtipicaoinnblpaaGreatDoor
open Go.RowKit

def loadD (p : Value) : Sem Value := Instr.loadAt 54 p
theorem exec_loadD (ρ : Operand → Value) (dst : Option Tmp) (x : Operand) (ty : TypeId) (pos : String) (after : Array Edge) (guard : Option (Nat × Bool)) :
    execOp ρ { dst, op := .load 54 x, type := ty, pos, after, guard } = (do pure (.value (← loadD (ρ x)))) := rfl
theorem run_loadD (w : World) (g o : Nat) (cs : List Value) (h : w.rangeAt g o cs) (hc : cs.length = 22) : (loadD (.pointer (some ⟨g, o, none⟩))).run Tryz.prog w = .ok (.agg cs.toArray) w := by
  unfold loadD
  exact run_loadAt_mid (P := Tryz.prog) w g o 54 cs _ h Tryz.underlying54 rfl (by rw [hc]; exact size_decl)
theorem run_storeD2 (w : World) (b : Nat) (old cells : Array Value) (hg : w.heap[b]? = some (.cells old 54 (0, 0))) (ho : old.size = 22) (hc : cells.size = 22) (h1 : cells.all (·.oneCell') = true) : (storeD (.pointer (some ⟨b, 0, none⟩)) (.agg cells)).run Tryz.prog w = .ok () (w.setRow b cells) := by
  have h := run_storeVar_row (P := Tryz.prog) w b 54 54 old cells hg (by rw [hc]; exact size_decl) (by rw [ho, hc]) h1
  unfold storeD
  simp only [Instr.storeAt, Instr.sureAddr, Sem.run_bind, Sem.run_pure, Result.andThen]
  exact h

/-- Sizes that Equal takes. -/
def QLim (d : Dc) : Prop := d.names.length ≤ 1000000000000 ∧ d.faults.length ≤ 1000000000000 ∧ FNames d.faults ∧ tmSize d.term ≤ 1000000000 ∧ tmSize d.read ≤ 1000000000 ∧ tmSize d.write ≤ 1000000000
attribute [local go_sem ↓] exec_loadD in
attribute [local go_sem ↓] exec_storeD in
set_option maxRecDepth 100000 in
set_option maxHeartbeats 8000000 in
theorem equal_true (a b : List Dc) (lines : Bool) (A1 A2 : Option Addr) (c1 c2 : Nat) (w : World) (S1 S2 : Nat → Prop) (h1 : ListAt (DcAt w S1) w S1 22 A1 a) (h2 : ListAt (DcAt w S2) w S2 22 A2 b) (hab : a.map unline = b.map unline) (hli : lines = true → a = b) (hlim : a.length ≤ 1000000000000) (hq : ∀ d ∈ a, QLim d) :
    Calls Tryz.prog 14 #[.slice A1 a.length c1, .slice A2 b.length c2, .bool lines] w fun e w' => e = .returned (.bool true) ∧ Below w.heap.size w w' := by
  have hlen : b.length = a.length := by have := congrArg List.length hab; simpa using this.symm
  have HAB := Lib.hid (show ∀ k (h : k < a.length) (h' : k < b.length), unline (a[k]) = unline (b[k]) by
    intro k h h'
    have := congrArg (fun l => l[k]?) hab
    simp only [List.getElem?_map] at this
    rw [List.getElem?_eq_getElem h, List.getElem?_eq_getElem h'] at this
    simpa using this)
  have HLI := Lib.hid (show lines = true → ∀ k (h : k < a.length) (h' : k < b.length), (a[k]).line = (b[k]).line by
    intro hl k h h'
    have := hli hl
    subst this
    rfl)
  have H1 := Lib.hid h1
  have H2 := Lib.hid h2
  have HQ := Lib.hid hq
  have HLEN := Lib.hid hlen
  rw [hlen]
  clear h1 h2 hq hab hli hlen
  go_enter Tryz.func14, Tryz.ntmps14
  go_wp2
  go_loopw [7] (fun x wr => ∃ k : Nat, k ≤ a.length ∧ x = .int .i64 k ∧ Below w.heap.size w wr) (fun x _ => a.length - (intOf x).toNat)
  case atStart => exact ⟨0, Nat.zero_le _, rfl, Below.refl _ _⟩
  case round =>
    obtain ⟨k, hk, rfl, hb⟩ := hrel
    have hsr := hb.size
    by_cases hlt : k < a.length
    · have q1 := H1.out.keep (P' := DcAt wr S1) (kept_all hb) (fun _ _ h => h.keep (kept_all hb))
      have q2 := H2.out.keep (P' := DcAt wr S2) (kept_all hb) (fun _ _ h => h.keep (kept_all hb))
      have hltb : k < b.length := by rw [HLEN.out]; exact hlt
      obtain ⟨g1, o1, v1, rfl, hS1, hp1, hc1⟩ := el_cells (fun _ _ h => dc_len h) q1 hlt
      obtain ⟨g2, o2, v2, rfl, hS2, hp2, hc2⟩ := el_cells (fun _ _ h => dc_len h) q2 hltb
      have hmem : a[k] ∈ a := List.getElem_mem hlt
      obtain ⟨l1, l2, l3, l4, l5, l6⟩ := HQ.out _ hmem
      have hun := HAB.out k hlt hltb
      have hline := fun h => HLI.out h k hlt hltb
      generalize a[k] = dx at *
      generalize b[k] = dy at *
      obtain ⟨kind, line, name, names, faults, term, proto, read, write, use⟩ := dx
      obtain ⟨kind2, line2, name2, names2, faults2, term2, proto2, read2, write2, use2⟩ := dy
      have hun : (⟨kind, 0, name, names, faults, term, proto, read, write, use⟩ : Dc) = ⟨kind2, 0, name2, names2, faults2, term2, proto2, read2, write2, use2⟩ := hun
      injection hun with e1 _ e2 e3 e4 e5 e6 e7 e8 e9
      subst e1 e2 e3 e4 e5 e6 e7 e8 e9
      have hline : lines = true → line = line2 := hline
      obtain ⟨nAx, ncx, fAx, fcx, vtx, vrx, vwx, rfl, hx1, hx2, hx3, hx4, hx5, hx6, hx7⟩ := hp1
      obtain ⟨nAy, ncy, fAy, fcy, vty, vry, vwy, rfl, hy1, hy2, hy3, hy4, hy5, hy6, hy7⟩ := hp2
      obtain ⟨o1x, m1x, d1x, wA1x, wn1x, wc1x, kA1x, kn1x, kc1x, rfl⟩ := hx5.form
      obtain ⟨o2x, m2x, d2x, wA2x, wn2x, wc2x, kA2x, kn2x, kc2x, rfl⟩ := hx6.form
      obtain ⟨o3x, m3x, d3x, wA3x, wn3x, wc3x, kA3x, kn3x, kc3x, rfl⟩ := hx7.form
      obtain ⟨o1y, m1y, d1y, wA1y, wn1y, wc1y, kA1y, kn1y, kc1y, rfl⟩ := hy5.form
      obtain ⟨o2y, m2y, d2y, wA2y, wn2y, wc2y, kA2y, kn2y, kc2y, rfl⟩ := hy6.form
      obtain ⟨o3y, m3y, d3y, wA3y, wn3y, wc3y, kA3y, kn3y, kc3y, rfl⟩ := hy7.form
      simp only at hx1 hx2 hx3 hx4 hx5 hx6 hx7 hy1 hy2 hy3 hy4 hy5 hy6 hy7 l1 l2 l3 l4 l5 l6
      have hr1 : wr.rangeAt g1 (o1 + k * 22) [.int .i64 kind, .int .i64 line, .string name, .slice nAx names.length ncx, .slice fAx faults.length fcx, .int .i64 o1x, .string m1x, .int .i64 d1x, .slice wA1x wn1x wc1x, .slice kA1x kn1x kc1x, .string proto, .int .i64 o2x, .string m2x, .int .i64 d2x, .slice wA2x wn2x wc2x, .slice kA2x kn2x kc2x, .int .i64 o3x, .string m3x, .int .i64 d3x, .slice wA3x wn3x wc3x, .slice kA3x kn3x kc3x, .string use] := fun j u hu => hc1 j u (by simpa [cellsOf, Value.cells] using hu)
      have hr2 : wr.rangeAt g2 (o2 + k * 22) [.int .i64 kind, .int .i64 line2, .string name, .slice nAy names.length ncy, .slice fAy faults.length fcy, .int .i64 o1y, .string m1y, .int .i64 d1y, .slice wA1y wn1y wc1y, .slice kA1y kn1y kc1y, .string proto, .int .i64 o2y, .string m2y, .int .i64 d2y, .slice wA2y wn2y wc2y, .slice kA2y kn2y kc2y, .int .i64 o3y, .string m3y, .int .i64 d3y, .slice wA3y wn3y wc3y, .slice kA3y kn3y kc3y, .string use] := fun j u hu => hc2 j u (by simpa [cellsOf, Value.cells] using hu)
      have hg1 : g1 < wr.heap.size := World.block_lt_of_cell? wr _ (hr1 0 _ rfl)
      have hg2 : g2 < wr.heap.size := World.block_lt_of_cell? wr _ (hr2 0 _ rfl)
      have hkI : (k : Int) < (a.length : Int) := by omega
      have hk0 : (0 : Int) ≤ (k : Int) := by omega
      obtain ⟨L1, hL1⟩ : ∃ L : List Value, L = [.int .i64 kind, .int .i64 line, .string name, .slice nAx names.length ncx, .slice fAx faults.length fcx, .int .i64 o1x, .string m1x, .int .i64 d1x, .slice wA1x wn1x wc1x, .slice kA1x kn1x kc1x, .string proto, .int .i64 o2x, .string m2x, .int .i64 d2x, .slice wA2x wn2x wc2x, .slice kA2x kn2x kc2x, .int .i64 o3x, .string m3x, .int .i64 d3x, .slice wA3x wn3x wc3x, .slice kA3x kn3x kc3x, .string use] := ⟨_, rfl⟩
      obtain ⟨L2, hL2⟩ : ∃ L : List Value, L = [.int .i64 kind, .int .i64 line2, .string name, .slice nAy names.length ncy, .slice fAy faults.length fcy, .int .i64 o1y, .string m1y, .int .i64 d1y, .slice wA1y wn1y wc1y, .slice kA1y kn1y kc1y, .string proto, .int .i64 o2y, .string m2y, .int .i64 d2y, .slice wA2y wn2y wc2y, .slice kA2y kn2y kc2y, .int .i64 o3y, .string m3y, .int .i64 d3y, .slice wA3y wn3y wc3y, .slice kA3y kn3y kc3y, .string use] := ⟨_, rfl⟩
      have C1 : L1.toArray.size = 22 := by rw [hL1]; rfl
      have C2 : L2.toArray.size = 22 := by rw [hL2]; rfl
      have O1 : L1.toArray.all (·.oneCell') = true := by rw [hL1]; simp [Value.oneCell']
      have O2 : L2.toArray.all (·.oneCell') = true := by rw [hL2]; simp [Value.oneCell']
      rw [← hL1] at hr1
      rw [← hL2] at hr2
      have HL1 := Lib.hid hL1
      have HL2 := Lib.hid hL2
      have HX1 := Lib.hid hx1
      have HX3 := Lib.hid hx3
      have HX5 := Lib.hid hx5
      have HX6 := Lib.hid hx6
      have HX7 := Lib.hid hx7
      have HY1 := Lib.hid hy1
      have HY3 := Lib.hid hy3
      have HY5 := Lib.hid hy5
      have HY6 := Lib.hid hy6
      have HY7 := Lib.hid hy7
      have L3 := Lib.hid l3
      clear hL1 hL2 hc1 hc2 q1 q2 hx1 hx3 hx5 hx6 hx7 hy1 hy3 hy5 hy6 hy7 l3
      go_upto_region 6 with fail
      go_cut [8, 9] (fun p q wx => ∃ b1 b2, p = .pointer (some ⟨b1, 0, none⟩) ∧ q = .pointer (some ⟨b2, 0, none⟩) ∧ (wx.heap[b1]? = some (.cells L1.toArray 54 (0, 0)) ∧ wx.heap[b2]? = some (.cells L2.toArray 54 (0, 0))) ∧ Below wr.heap.size wr wx)
      case first =>
        have st1 := fun (Z : Array Value) (hZ : Z.size = 22) => run_storeD2 (((wr.alloc (.cells Z 54)).alloc (.cells Z 54)).drew) wr.heap.size Z L1.toArray (mid0 wr Z L1.toArray 54).1 hZ C1 O1
        have st2 := fun (Z : Array Value) (hZ : Z.size = 22) => run_storeD2 ((((wr.alloc (.cells Z 54)).alloc (.cells Z 54)).drew).setRow wr.heap.size L1.toArray) (wr.heap.size + 1) Z L2.toArray (mid0 wr Z L1.toArray 54).2.2.1 hZ C2 O2
        have st3 := fun (Z : Array Value) (hZ : Z.size = 22) => run_storeD2 (((wr.alloc (.cells Z 54)).alloc (.cells Z 54)).drew) (wr.heap.size + 1) Z L2.toArray (mid0 wr Z L1.toArray 54).2.1 hZ C2 O2
        have st4 := fun (Z : Array Value) (hZ : Z.size = 22) => run_storeD2 ((((wr.alloc (.cells Z 54)).alloc (.cells Z 54)).drew).setRow (wr.heap.size + 1) L2.toArray) wr.heap.size Z L1.toArray (mid0 wr Z L2.toArray 54).2.2.2 hZ C1 O1
        have st5 := fun (Z : Array Value) (hZ : Z.size = 22) => run_storeD2 (((wr.alloc (.cells Z 54)).alloc (.cells Z 54)).drew) wr.heap.size Z L2.toArray (mid0 wr Z L2.toArray 54).1 hZ C2 O2
        have st6 := fun (Z : Array Value) (hZ : Z.size = 22) => run_storeD2 ((((wr.alloc (.cells Z 54)).alloc (.cells Z 54)).drew).setRow wr.heap.size L2.toArray) (wr.heap.size + 1) Z L1.toArray (mid0 wr Z L2.toArray 54).2.2.1 hZ C1 O1
        have st7 := fun (Z : Array Value) (hZ : Z.size = 22) => run_storeD2 (((wr.alloc (.cells Z 54)).alloc (.cells Z 54)).drew) (wr.heap.size + 1) Z L1.toArray (mid0 wr Z L2.toArray 54).2.1 hZ C1 O1
        have st8 := fun (Z : Array Value) (hZ : Z.size = 22) => run_storeD2 ((((wr.alloc (.cells Z 54)).alloc (.cells Z 54)).drew).setRow (wr.heap.size + 1) L1.toArray) wr.heap.size Z L2.toArray (mid0 wr Z L1.toArray 54).2.2.2 hZ C2 O2
        have ra := fun (W : World) (h : W.rangeAt g1 (o1 + k * 22) L1) => run_loadD W g1 (o1 + k * 22) _ h (by simpa using C1)
        have rb := fun (W : World) (h : W.rangeAt g2 (o2 + k * 22) L2) => run_loadD W g2 (o2 + k * 22) _ h (by simpa using C2)
        have E1 := Lib.hid (pair01 wr #[.int .i64 0, .int .i64 0, .string ⟨#[]⟩, .slice none 0 0, .slice none 0 0, .int .i64 0, .string ⟨#[]⟩, .int .i64 0, .slice none 0 0, .slice none 0 0, .string ⟨#[]⟩, .int .i64 0, .string ⟨#[]⟩, .int .i64 0, .slice none 0 0, .slice none 0 0, .int .i64 0, .string ⟨#[]⟩, .int .i64 0, .slice none 0 0, .slice none 0 0, .string ⟨#[]⟩] L1.toArray L2.toArray 54)
        have E2 := Lib.hid (pair10 wr #[.int .i64 0, .int .i64 0, .string ⟨#[]⟩, .slice none 0 0, .slice none 0 0, .int .i64 0, .string ⟨#[]⟩, .int .i64 0, .slice none 0 0, .slice none 0 0, .string ⟨#[]⟩, .int .i64 0, .string ⟨#[]⟩, .int .i64 0, .slice none 0 0, .slice none 0 0, .int .i64 0, .string ⟨#[]⟩, .int .i64 0, .slice none 0 0, .slice none 0 0, .string ⟨#[]⟩] L1.toArray L2.toArray 54)
        have E3 := Lib.hid (swap_pair (pair01 wr #[.int .i64 0, .int .i64 0, .string ⟨#[]⟩, .slice none 0 0, .slice none 0 0, .int .i64 0, .string ⟨#[]⟩, .int .i64 0, .slice none 0 0, .slice none 0 0, .string ⟨#[]⟩, .int .i64 0, .string ⟨#[]⟩, .int .i64 0, .slice none 0 0, .slice none 0 0, .int .i64 0, .string ⟨#[]⟩, .int .i64 0, .slice none 0 0, .slice none 0 0, .string ⟨#[]⟩] L2.toArray L1.toArray 54))
        have E4 := Lib.hid (swap_pair (pair10 wr #[.int .i64 0, .int .i64 0, .string ⟨#[]⟩, .slice none 0 0, .slice none 0 0, .int .i64 0, .string ⟨#[]⟩, .int .i64 0, .slice none 0 0, .slice none 0 0, .string ⟨#[]⟩, .int .i64 0, .string ⟨#[]⟩, .int .i64 0, .slice none 0 0, .slice none 0 0, .int .i64 0, .string ⟨#[]⟩, .int .i64 0, .slice none 0 0, .slice none 0 0, .string ⟨#[]⟩] L2.toArray L1.toArray 54))
        clear H1 H2 HQ HAB HLI HX1 HX3 HX5 HX6 HX7 HY1 HY3 HY5 HY6 HY7 L3 C1 C2 O1 O2 HL1 HL2 l1 l2 l4 l5 l6 hline hx2 hx4 hy2 hy4
        go_region_held3 (fun w' => w'.rangeAt g1 (o1 + k * 22) L1 ∧ w'.rangeAt g2 (o2 + k * 22) L2) (first | (refine ⟨?_, ?_⟩ <;> (repeat (first | exact hr1 | exact hr2 | refine rg_drew ?_ | refine World.rangeAt_alloc ?_ _ | refine rg_setRow ?_ (by omega))))) (fail)
        all_goals (
          go_wp2
          go_meet
          refine ⟨_, _, rfl, rfl, ?_⟩
          first | with_reducible exact E1.out | with_reducible exact E2.out | with_reducible exact E3.out | with_reducible exact E4.out)
      case rest =>
        obtain ⟨b1, b2, rfl, rfl, ⟨hw1, hw2⟩, hbx⟩ := hcut
        have q1 := (Array.getElem?_eq_some_iff.1 hw1).1
        have q2 := (Array.getElem?_eq_some_iff.1 hw2).1
        rw [HL1.out] at hw1
        rw [HL2.out] at hw2
        have R1 := Lib.hid hw1
        have R2 := Lib.hid hw2
        clear hw1 hw2 hr1 hr2 C1 C2 O1 O2 HL1 HL2
        have hlz : (lines && (line != line2)) = false := by
          cases lines
          · rfl
          · have := hline rfl
            subst this
            simp
        cases lines
        · clear hline hlz
          have hbz : Below wr.heap.size wr wc := hbx
          have x0 := cell_row R1.out 0 _ rfl
          have y0 := cell_row R2.out 0 _ rfl
          have x1 := cell_row R1.out 1 _ rfl
          have y1 := cell_row R2.out 1 _ rfl
          have x2 := cell_row R1.out 2 _ rfl
          have y2 := cell_row R2.out 2 _ rfl
          have x3 := cell_row R1.out 3 _ rfl
          have y3 := cell_row R2.out 3 _ rfl
          have x10 := cell_row R1.out 10 _ rfl
          have y10 := cell_row R2.out 10 _ rfl
          have x21 := cell_row R1.out 21 _ rfl
          have y21 := cell_row R2.out 21 _ rfl
          have HC0 := Lib.hid (strings_true names nAx nAy ncx ncy wc S1 S2 (HX1.out.keep (kept_all hbz)) (HY1.out.keep (kept_all hbz)) l1)
          go_wp2_with fail
          refine HC0.out.mono ?_
          rintro e W3 ⟨rfl, hbW3⟩
          clear x0 y0 x1 y1 x2 y2 x3 y3 x10 y10 x21 y21
          have hlt0 := hbW3.size
          have rr1 := (hbW3.block _ q1).trans R1.out
          have rr2 := (hbW3.block _ q2).trans R2.out
          have RR1 := Lib.hid rr1
          have RR2 := Lib.hid rr2
          have hbz := hbz.trans (hbW3.mono hbz.size)
          have x4 := cell_row rr1 4 _ rfl
          have y4 := cell_row rr2 4 _ rfl
          have HC1 := Lib.hid (equalFaults_true faults fAx fAy fcx fcy W3 S1 S2 (HX3.out.keep (kept_all hbz) (fun _ _ h => h.keep (kept_all hbz))) (HY3.out.keep (kept_all hbz) (fun _ _ h => h.keep (kept_all hbz))) l2 L3.out)
          clear rr1 rr2
          go_wp2_with fail
          refine HC1.out.mono ?_
          rintro e W4 ⟨rfl, hbW4⟩
          clear x4 y4
          have hlt1 := hbW4.size
          have rr1 := (hbW4.block _ (by omega)).trans RR1.out
          have rr2 := (hbW4.block _ (by omega)).trans RR2.out
          clear RR1 RR2
          have RR1 := Lib.hid rr1
          have RR2 := Lib.hid rr2
          have hbz := hbz.trans (hbW4.mono hbz.size)
          have x5 := cell_row rr1 5 _ rfl
          have y5 := cell_row rr2 5 _ rfl
          have x6 := cell_row rr1 6 _ rfl
          have y6 := cell_row rr2 6 _ rfl
          have x7 := cell_row rr1 7 _ rfl
          have y7 := cell_row rr2 7 _ rfl
          have x8 := cell_row rr1 8 _ rfl
          have y8 := cell_row rr2 8 _ rfl
          have x9 := cell_row rr1 9 _ rfl
          have y9 := cell_row rr2 9 _ rfl
          have HC2 := Lib.hid (equalTerm_true term _ _ W4 S1 S2 (HX5.out.keep (kept_all hbz)) (HY5.out.keep (kept_all hbz)) l4)
          clear rr1 rr2
          go_wp2_with fail
          refine HC2.out.mono ?_
          rintro e W5 ⟨rfl, hbW5⟩
          clear x5 y5 x6 y6 x7 y7 x8 y8 x9 y9
          have hlt2 := hbW5.size
          have rr1 := (hbW5.block _ (by omega)).trans RR1.out
          have rr2 := (hbW5.block _ (by omega)).trans RR2.out
          clear RR1 RR2
          have RR1 := Lib.hid rr1
          have RR2 := Lib.hid rr2
          have hbz := hbz.trans (hbW5.mono hbz.size)
          have x11 := cell_row rr1 11 _ rfl
          have y11 := cell_row rr2 11 _ rfl
          have x12 := cell_row rr1 12 _ rfl
          have y12 := cell_row rr2 12 _ rfl
          have x13 := cell_row rr1 13 _ rfl
          have y13 := cell_row rr2 13 _ rfl
          have x14 := cell_row rr1 14 _ rfl
          have y14 := cell_row rr2 14 _ rfl
          have x15 := cell_row rr1 15 _ rfl
          have y15 := cell_row rr2 15 _ rfl
          have HC3 := Lib.hid (equalTerm_true read _ _ W5 S1 S2 (HX6.out.keep (kept_all hbz)) (HY6.out.keep (kept_all hbz)) l5)
          clear rr1 rr2
          go_wp2_with fail
          refine HC3.out.mono ?_
          rintro e W6 ⟨rfl, hbW6⟩
          clear x11 y11 x12 y12 x13 y13 x14 y14 x15 y15
          have hlt3 := hbW6.size
          have rr1 := (hbW6.block _ (by omega)).trans RR1.out
          have rr2 := (hbW6.block _ (by omega)).trans RR2.out
          clear RR1 RR2
          have RR1 := Lib.hid rr1
          have RR2 := Lib.hid rr2
          have hbz := hbz.trans (hbW6.mono hbz.size)
          have x16 := cell_row rr1 16 _ rfl
          have y16 := cell_row rr2 16 _ rfl
          have x17 := cell_row rr1 17 _ rfl
          have y17 := cell_row rr2 17 _ rfl
          have x18 := cell_row rr1 18 _ rfl
          have y18 := cell_row rr2 18 _ rfl
          have x19 := cell_row rr1 19 _ rfl
          have y19 := cell_row rr2 19 _ rfl
          have x20 := cell_row rr1 20 _ rfl
          have y20 := cell_row rr2 20 _ rfl
          have HC4 := Lib.hid (equalTerm_true write _ _ W6 S1 S2 (HX7.out.keep (kept_all hbz)) (HY7.out.keep (kept_all hbz)) l6)
          clear rr1 rr2
          go_wp2_with fail
          refine HC4.out.mono ?_
          rintro e W7 ⟨rfl, hbW7⟩
          clear x16 y16 x17 y17 x18 y18 x19 y19 x20 y20
          have hbz := hbz.trans (hbW7.mono hbz.size)
          go_wp2
          go_roundw
          case rel => exact ⟨k + 1, by omega, by go_num, hb.trans (hbz.mono hsr)⟩
          case measure => simp [intOf]; omega
        · have hle := hline rfl
          subst hle
          clear hline hlz
          have hbz : Below wr.heap.size wr wc := hbx
          have x0 := cell_row R1.out 0 _ rfl
          have y0 := cell_row R2.out 0 _ rfl
          have x1 := cell_row R1.out 1 _ rfl
          have y1 := cell_row R2.out 1 _ rfl
          have x2 := cell_row R1.out 2 _ rfl
          have y2 := cell_row R2.out 2 _ rfl
          have x3 := cell_row R1.out 3 _ rfl
          have y3 := cell_row R2.out 3 _ rfl
          have x10 := cell_row R1.out 10 _ rfl
          have y10 := cell_row R2.out 10 _ rfl
          have x21 := cell_row R1.out 21 _ rfl
          have y21 := cell_row R2.out 21 _ rfl
          have HC0 := Lib.hid (strings_true names nAx nAy ncx ncy wc S1 S2 (HX1.out.keep (kept_all hbz)) (HY1.out.keep (kept_all hbz)) l1)
          go_wp2_with fail
          refine HC0.out.mono ?_
          rintro e W3 ⟨rfl, hbW3⟩
          clear x0 y0 x1 y1 x2 y2 x3 y3 x10 y10 x21 y21
          have hlt0 := hbW3.size
          have rr1 := (hbW3.block _ q1).trans R1.out
          have rr2 := (hbW3.block _ q2).trans R2.out
          have RR1 := Lib.hid rr1
          have RR2 := Lib.hid rr2
          have hbz := hbz.trans (hbW3.mono hbz.size)
          have x4 := cell_row rr1 4 _ rfl
          have y4 := cell_row rr2 4 _ rfl
          have HC1 := Lib.hid (equalFaults_true faults fAx fAy fcx fcy W3 S1 S2 (HX3.out.keep (kept_all hbz) (fun _ _ h => h.keep (kept_all hbz))) (HY3.out.keep (kept_all hbz) (fun _ _ h => h.keep (kept_all hbz))) l2 L3.out)
          clear rr1 rr2
          go_wp2_with fail
          refine HC1.out.mono ?_
          rintro e W4 ⟨rfl, hbW4⟩
          clear x4 y4
          have hlt1 := hbW4.size
          have rr1 := (hbW4.block _ (by omega)).trans RR1.out
          have rr2 := (hbW4.block _ (by omega)).trans RR2.out
          clear RR1 RR2
          have RR1 := Lib.hid rr1
          have RR2 := Lib.hid rr2
          have hbz := hbz.trans (hbW4.mono hbz.size)
          have x5 := cell_row rr1 5 _ rfl
          have y5 := cell_row rr2 5 _ rfl
          have x6 := cell_row rr1 6 _ rfl
          have y6 := cell_row rr2 6 _ rfl
          have x7 := cell_row rr1 7 _ rfl
          have y7 := cell_row rr2 7 _ rfl
          have x8 := cell_row rr1 8 _ rfl
          have y8 := cell_row rr2 8 _ rfl
          have x9 := cell_row rr1 9 _ rfl
          have y9 := cell_row rr2 9 _ rfl
          have HC2 := Lib.hid (equalTerm_true term _ _ W4 S1 S2 (HX5.out.keep (kept_all hbz)) (HY5.out.keep (kept_all hbz)) l4)
          clear rr1 rr2
          go_wp2_with fail
          refine HC2.out.mono ?_
          rintro e W5 ⟨rfl, hbW5⟩
          clear x5 y5 x6 y6 x7 y7 x8 y8 x9 y9
          have hlt2 := hbW5.size
          have rr1 := (hbW5.block _ (by omega)).trans RR1.out
          have rr2 := (hbW5.block _ (by omega)).trans RR2.out
          clear RR1 RR2
          have RR1 := Lib.hid rr1
          have RR2 := Lib.hid rr2
          have hbz := hbz.trans (hbW5.mono hbz.size)
          have x11 := cell_row rr1 11 _ rfl
          have y11 := cell_row rr2 11 _ rfl
          have x12 := cell_row rr1 12 _ rfl
          have y12 := cell_row rr2 12 _ rfl
          have x13 := cell_row rr1 13 _ rfl
          have y13 := cell_row rr2 13 _ rfl
          have x14 := cell_row rr1 14 _ rfl
          have y14 := cell_row rr2 14 _ rfl
          have x15 := cell_row rr1 15 _ rfl
          have y15 := cell_row rr2 15 _ rfl
          have HC3 := Lib.hid (equalTerm_true read _ _ W5 S1 S2 (HX6.out.keep (kept_all hbz)) (HY6.out.keep (kept_all hbz)) l5)
          clear rr1 rr2
          go_wp2_with fail
          refine HC3.out.mono ?_
          rintro e W6 ⟨rfl, hbW6⟩
          clear x11 y11 x12 y12 x13 y13 x14 y14 x15 y15
          have hlt3 := hbW6.size
          have rr1 := (hbW6.block _ (by omega)).trans RR1.out
          have rr2 := (hbW6.block _ (by omega)).trans RR2.out
          clear RR1 RR2
          have RR1 := Lib.hid rr1
          have RR2 := Lib.hid rr2
          have hbz := hbz.trans (hbW6.mono hbz.size)
          have x16 := cell_row rr1 16 _ rfl
          have y16 := cell_row rr2 16 _ rfl
          have x17 := cell_row rr1 17 _ rfl
          have y17 := cell_row rr2 17 _ rfl
          have x18 := cell_row rr1 18 _ rfl
          have y18 := cell_row rr2 18 _ rfl
          have x19 := cell_row rr1 19 _ rfl
          have y19 := cell_row rr2 19 _ rfl
          have x20 := cell_row rr1 20 _ rfl
          have y20 := cell_row rr2 20 _ rfl
          have HC4 := Lib.hid (equalTerm_true write _ _ W6 S1 S2 (HX7.out.keep (kept_all hbz)) (HY7.out.keep (kept_all hbz)) l6)
          clear rr1 rr2
          go_wp2_with fail
          refine HC4.out.mono ?_
          rintro e W7 ⟨rfl, hbW7⟩
          clear x16 y16 x17 y17 x18 y18 x19 y19 x20 y20
          have hbz := hbz.trans (hbW7.mono hbz.size)
          go_wp2
          go_roundw
          case rel => exact ⟨k + 1, by omega, by go_num, hb.trans (hbz.mono hsr)⟩
          case measure => simp [intOf]; omega
    · obtain rfl : k = a.length := by omega
      have hkI : ¬ (a.length : Int) < (a.length : Int) := by omega
      go_wp2
      go_ret
      exact ⟨rfl, hb⟩
end Go.Proofs.YtipicaoinnblpaaGreatDoor
