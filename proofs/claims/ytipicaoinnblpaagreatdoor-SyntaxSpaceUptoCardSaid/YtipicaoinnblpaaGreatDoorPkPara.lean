/- The contracts of the parser's smallest methods: more, fail, is, take, need. The contracts of the parser's methods is, take, need. The contracts of reserved and function. The contracts of the parser's methods name, isInt, number. The contracts of the parser's methods names and braces. The contract of the parser's method joined, for any part. The contract of the parser's method threshold. The contract of the parser's method factor. The contract of the parser's method factor at a function's word. The contract of the parser's method term. -/
import Derived.Test.YtipicaoinnblpaaGreatDoorPkMem
import Derived.Test.YtipicaoinnblpaaGreatDoorProg
import Derived.Deep.QuietTactic
import Derived.BigQuiet
import Derived.Deep.RegionLaw
import Derived.StillTailTactics
import Derived.Deep.RegionHeld3
import Derived.Deep.AppendLies
import Derived.RegionTactic
import Derived.BigRegion
import Derived.Outline
import Derived.IntWalk
import Derived.Deep.LoopGhost
import Derived.Shelf.Abstract
namespace Go.Proofs.YtipicaoinnblpaaGreatDoor
open Go.RowKit

theorem row4 {w : World} {b : Nat} {v0 v1 v2 v3 : Value} {t : TypeId} (h : w.heap[b]? = some (.cells #[v0, v1, v2, v3] t (0, 0))) :
    w.cell? ⟨b, 0, none⟩ = some v0 ∧ w.cell? ⟨b, 1, none⟩ = some v1 ∧ w.cell? ⟨b, 2, none⟩ = some v2 ∧ w.cell? ⟨b, 3, none⟩ = some v3 ∧ ∀ i, w.frozen? ⟨b, i, none⟩ = false :=
  ⟨(cell_of_row _ _ _ _ _ _ h).trans rfl, (cell_of_row _ _ _ _ _ _ h).trans rfl, (cell_of_row _ _ _ _ _ _ h).trans rfl, (cell_of_row _ _ _ _ _ _ h).trans rfl, fun i => frozen_of_row _ _ i _ _ h⟩

def moreB (L : Toks) (s : St) : Bool := decide (s.err = 0) && decide (s.pos < L.length)
theorem natI {a b : Nat} (h : a = b) : ((a : Int) == (b : Int)) = true := by subst h; simp
theorem natNe {a b : Nat} (h : a ≠ b) : ((a : Int) == (b : Int)) = false := by rw [beq_eq_false_iff_ne]; omega
theorem natNeq {a b : Nat} (h : a ≠ b) : ((a : Int) != (b : Int)) = true := by rw [bne_iff_ne]; omega

set_option maxHeartbeats 1000000 in
theorem more_any {b : Nat} {A : Option Addr} {n c : Nat} {L : Toks} {ln : Nat → Nat} {s : St} (w : World) (h : PSt b A n c L ln s w) :
    Calls Tryz.prog 32 #[.pointer (some ⟨b, 0, none⟩)] w fun e w' => e = .returned (.bool (moreB L s)) ∧ ∃ q, w' = w.drewN q := by
  obtain ⟨l, hl, h2⟩ := h.blk
  obtain ⟨c0, c1, c2, c3, -⟩ := row4 hl
  have hn := h.len
  clear h2 hl h
  by_cases he : s.err = 0
  · have hd : (((s.err : Nat) : Int) == 0) = true := natI he
    have e : moreB L s = decide (s.pos < n) := by unfold moreB; rw [he, hn]; simp
    rw [e]
    clear e he hn
    go_enter Tryz.func32, Tryz.ntmps32
    go_wp2
    go_quiet (fail)
    go_wp2
    go_ret
    exact ⟨rfl, _, rfl⟩
  · have hd : (((s.err : Nat) : Int) == 0) = false := natNe he
    have e : moreB L s = false := by unfold moreB; simp [he]
    rw [e]
    clear e he hn
    go_enter Tryz.func32, Tryz.ntmps32
    go_wp2
    go_quiet (fail)
    go_wp2
    go_ret
    exact ⟨rfl, _, rfl⟩

theorem errLine_at {L : Toks} {i : Nat} (h : 0 < L.length) : errLine L i = (L[min i (L.length - 1)]'(by omega)).2 := by
  unfold errLine lineOf
  rw [if_neg (by omega), List.getElem?_eq_getElem (by omega)]; rfl
theorem errLine_none {L : Toks} {i : Nat} (h : L.length = 0) : errLine L i = 1 := by unfold errLine; rw [if_pos h]
/-- The state behind an error. -/
theorem fail_end {b : Nat} {A : Option Addr} {n c : Nat} {L : Toks} {ln : Nat → Nat} {s : St} {w w' : World} (e line : Nat) (h : PSt b A n c L ln s w) (h0 : s.err = 0)
    (hb : w'.heap[b]? = some (.cells #[.slice A n c, .int .i64 s.pos, .int .i64 e, .int .i64 line] 61 (0, 0))) (hl : line = errLine L s.pos) (he : e ≠ 0) (hg : w.grownBy w' (some b)) :
    PSt b A n c L ln (fails e s) w' := by
  have e1 : fails e s = ⟨s.pos, e⟩ := by unfold fails; rw [if_pos h0]
  rw [e1]
  exact ⟨⟨line, hb, fun _ => by rw [hl, h.err h0]⟩, h.len, h.pos, fun k => absurd k he, h.toks.keep (kept_grown_lt hg), h.few⟩

set_option maxRecDepth 100000 in
set_option maxHeartbeats 1000000 in
theorem fail_any {b : Nat} {A : Option Addr} {n c : Nat} {L : Toks} {ln : Nat → Nat} {s : St} (e : Nat) (he : e ≠ 0) (w : World) (h : PSt b A n c L ln s w) :
    Calls Tryz.prog 40 #[.pointer (some ⟨b, 0, none⟩), .int .i64 e] w fun r w' => r = .returned (.tuple #[]) ∧ PSt b A n c L ln (fails e s) w' ∧ w.grownBy w' (some b) := by
  obtain ⟨l, hl, h2⟩ := h.blk
  obtain ⟨c0, c1, c2, c3, cf⟩ := row4 hl
  have f2 := cf 2
  have f3 := cf 3
  have hn := h.len
  have hpos := h.pos
  have hfew := h.few
  have HL := Lib.hid hl
  have HH := Lib.hid h
  have HN := Lib.hid hn
  rw [← hn] at hfew hpos
  clear h2 hl hn cf
  by_cases hz : s.err = 0
  · have hd : (((s.err : Nat) : Int) != 0) = false := by rw [hz]; rfl
    have HZ := Lib.hid hz
    clear hz
    by_cases h0 : 0 < n
    · by_cases hlt : s.pos < n
      · obtain ⟨g, o, rfl, hS, -, -, -, -, k4⟩ := tok_cells (i := s.pos) HH.out.toks HN.out (by omega)
        clear h
        go_enter Tryz.func40, Tryz.ntmps40
        go_wp2
        obtain ⟨W, hW⟩ : ∃ W : World, W = (w.setCell ⟨b, 2, none⟩ (.int .i64 e)).setCell ⟨b, 3, none⟩ (.int .i64 1) := ⟨_, rfl⟩
        have hg : w.grownBy W (some b) := by rw [hW]; exact grown_set (grown_set (grown_refl _ _) _ _) _ _
        have hbk : W.heap[b]? = some (.cells #[.slice (some ⟨g, o, none⟩) n c, .int .i64 s.pos, .int .i64 e, .int .i64 1] 61 (0, 0)) := by rw [hW]; exact row_set (row_set HL.out _) _
        have k4' := hg.cell k4 (fun e => Nat.ne_of_lt hS (by injection e))
        obtain ⟨q, hq⟩ : ∃ q : Nat, q = (L[s.pos]'(by rw [← HN.out]; omega)).2 := ⟨_, rfl⟩
        rw [← hq] at k4'
        have HQ := Lib.hid hq
        clear hq
        rw [← hW]
        clear hW c0 c1 c2 c3 f2 f3 k4
        obtain ⟨c0, c1, c2, c3, cf⟩ := row4 hbk
        have f3 := cf 3
        have HB := Lib.hid hbk
        clear hbk cf
        have hw1 : IntKind.i64.wrap ((n : Int) - 1) = (n : Int) - 1 := IntWalk.i64_in _ (by omega)
        have hm1 : ¬ (n : Int) - 1 < (s.pos : Int) := by omega
        have hm2 : (s.pos : Int) ≤ (n : Int) - 1 := by omega
        have hm3 : (s.pos : Int) < (n : Int) := by omega
        have hm4 : (0 : Int) ≤ (s.pos : Int) := by omega
        go_still_tail 21, (by kernel_rfl)
        go_wp2
        go_end0
        refine ⟨rfl, fail_end e q HH.out HZ.out ?_ ?_ he ?_, ?_⟩
        · exact row_set HB.out _
        · rw [errLine_at (by rw [← HN.out]; exact h0)]
          rw [HQ.out]
          congr 2
          rw [← HN.out]; omega
        · exact grown_drewN (grown_set hg _ _) 1
        · exact grown_drewN (grown_set hg _ _) 1
      · obtain ⟨g, o, rfl, hS, -, -, -, -, k4⟩ := tok_cells (i := n - 1) HH.out.toks HN.out (by omega)
        clear h
        go_enter Tryz.func40, Tryz.ntmps40
        go_wp2
        obtain ⟨W, hW⟩ : ∃ W : World, W = (w.setCell ⟨b, 2, none⟩ (.int .i64 e)).setCell ⟨b, 3, none⟩ (.int .i64 1) := ⟨_, rfl⟩
        have hg : w.grownBy W (some b) := by rw [hW]; exact grown_set (grown_set (grown_refl _ _) _ _) _ _
        have hbk : W.heap[b]? = some (.cells #[.slice (some ⟨g, o, none⟩) n c, .int .i64 s.pos, .int .i64 e, .int .i64 1] 61 (0, 0)) := by rw [hW]; exact row_set (row_set HL.out _) _
        have k4' := hg.cell k4 (fun e => Nat.ne_of_lt hS (by injection e))
        obtain ⟨q, hq⟩ : ∃ q : Nat, q = (L[n - 1]'(by rw [← HN.out]; omega)).2 := ⟨_, rfl⟩
        rw [← hq] at k4'
        have HQ := Lib.hid hq
        clear hq
        rw [← hW]
        clear hW c0 c1 c2 c3 f2 f3 k4
        obtain ⟨c0, c1, c2, c3, cf⟩ := row4 hbk
        have f3 := cf 3
        have HB := Lib.hid hbk
        clear hbk cf
        have hw1 : IntKind.i64.wrap ((n : Int) - 1) = (n : Int) - 1 := IntWalk.i64_in _ (by omega)
        have hm1 : (n : Int) - 1 < (s.pos : Int) := by omega
        have hm2 : ¬ (s.pos : Int) ≤ (n : Int) - 1 := by omega
        have hm3 : (n : Int) - 1 < (n : Int) := by omega
        have hm4 : (0 : Int) ≤ (n : Int) - 1 := by omega
        have hm5 : ((n : Int) - 1).toNat = n - 1 := by omega
        have hm6 : (1 : Int) ≤ (n : Int) := by omega
        have hm7 : 1 ≤ n := by omega
        go_still_tail 21, (by kernel_rfl)
        go_wp2
        go_end0
        refine ⟨rfl, fail_end e q HH.out HZ.out ?_ ?_ he ?_, ?_⟩
        · exact row_set HB.out _
        · rw [errLine_at (by rw [← HN.out]; exact h0)]
          rw [HQ.out]
          congr 2
          rw [← HN.out]; omega
        · exact grown_drewN (grown_set hg _ _) 1
        · exact grown_drewN (grown_set hg _ _) 1
    · obtain rfl : n = 0 := by omega
      clear h
      go_enter Tryz.func40, Tryz.ntmps40
      go_wp2
      go_end0
      have hg : w.grownBy ((w.setCell ⟨b, 2, none⟩ (.int .i64 e)).setCell ⟨b, 3, none⟩ (.int .i64 1)) (some b) := grown_set (grown_set (grown_refl _ _) _ _) _ _
      refine ⟨rfl, fail_end e 1 HH.out HZ.out (row_set (row_set HL.out _) _) ?_ he hg, hg⟩
      rw [errLine_none HN.out.symm]
  · have hd : (((s.err : Nat) : Int) != 0) = true := by simpa using hz
    clear h
    go_enter Tryz.func40, Tryz.ntmps40
    go_wp2
    (try simp only [Exit.inBlock, Exit.then])
    refine bodyPost_ret (results_none rfl _ _ _) rfl ?_
    refine ⟨rfl, ?_, grown_refl _ _⟩
    unfold fails; rw [if_neg hz]; exact HH.out
end Go.Proofs.YtipicaoinnblpaaGreatDoor
namespace Go.Proofs.YtipicaoinnblpaaGreatDoor
open Go.RowKit

theorem isW_more {L : Toks} {s : St} {x : ByteArray} (h : moreB L s = false) : isW L x s = false := by
  unfold isW tk
  unfold moreB at h
  by_cases e : s.err = 0
  · have : L.length ≤ s.pos := by simpa [e] using h
    rw [if_pos e, List.getElem?_eq_none this]; rfl
  · rw [if_neg e]
theorem more_ok {L : Toks} {s : St} (h : moreB L s = true) : s.err = 0 ∧ s.pos < L.length := by
  unfold moreB at h
  simpa using h
theorem isW_at {L : Toks} {s : St} {x : ByteArray} (h0 : s.err = 0) (hp : s.pos < L.length) : isW L x s = isWord x (L[s.pos]'hp).1 := by
  unfold isW
  rw [tk_at h0 hp]

theorem str_data (a b : ByteArray) : (a == b) = (a.data == b.data) := by cases a; cases b; rfl
theorem str_beq (a b : ByteArray) : (a.toList == b.toList) = (a == b) := by
  rw [str_data, Bool.eq_iff_iff, beq_iff_eq, beq_iff_eq, ByteArray.toList_eq, ByteArray.toList_eq]
  exact ⟨fun h => Array.toList_inj.1 h, fun h => by rw [h]⟩
theorem str_iff (a b : ByteArray) : (a == b) = true ↔ a = b := by
  rw [str_data, beq_iff_eq]
  exact ⟨fun h => by cases a; cases b; simp_all, fun h => by rw [h]⟩

set_option maxRecDepth 100000 in
set_option maxHeartbeats 1000000 in
theorem is_any {b : Nat} {A : Option Addr} {n c : Nat} {L : Toks} {ln : Nat → Nat} {s : St} (x : ByteArray) (w : World) (h : PSt b A n c L ln s w) :
    Calls Tryz.prog 122 #[.pointer (some ⟨b, 0, none⟩), .string x] w fun e w' => e = .returned (.bool (isW L x s)) ∧ Below w.heap.size w w' := by
  have hm := more_any w h
  cases hmo : moreB L s
  · rw [hmo] at hm
    rw [isW_more hmo]
    have HM := Lib.hid hm
    clear hm h hmo
    go_enter Tryz.func122, Tryz.ntmps122
    go_wp2_with (go_at_call 32; refine HM.out.mono ?_; rintro e w' ⟨rfl, q, rfl⟩)
    go_ret
    exact ⟨rfl, below_drewN (Below.refl _ _) _⟩
  · rw [hmo] at hm
    obtain ⟨h0, hp⟩ := more_ok hmo
    rw [isW_at h0 hp]
    obtain ⟨l, hl, h2⟩ := h.blk
    obtain ⟨c0, c1, c2, c3, -⟩ := row4 hl
    have hn := h.len
    obtain ⟨g, o, rfl, hS, k0, k1, k2, k3, k4⟩ := tok_cells (i := s.pos) h.toks hn (by omega)
    obtain ⟨t, ht⟩ : ∃ t, t = L[s.pos]'hp := ⟨_, rfl⟩
    rw [← ht] at k0 k1 k2 k3 k4 ⊢
    have HM := Lib.hid hm
    have hpI : (s.pos : Int) < (n : Int) := by omega
    have hp0 : (0 : Int) ≤ (s.pos : Int) := by omega
    have hfew := h.few
    rw [← hn] at hfew
    have hbs := h.lt
    have hgs : g < w.heap.size := World.block_lt_of_cell? w _ k0
    clear hm h hmo h0 hl h2 hn ht hp
    go_enter Tryz.func122, Tryz.ntmps122
    go_wp2_with fail
    refine HM.out.mono ?_
    rintro e W ⟨rfl, q, hq⟩
    have hb : Below w.heap.size w W := by rw [hq]; exact below_drewN (Below.refl _ _) _
    clear hq
    have d0 := (hb.cell (p := ⟨b, 0, none⟩) hbs).trans c0
    have d1 := (hb.cell (p := ⟨b, 1, none⟩) hbs).trans c1
    have e0 := (hb.cell (p := ⟨g, o + s.pos * 5, none⟩) hgs).trans k0
    have e1 := (hb.cell (p := ⟨g, o + s.pos * 5 + 1, none⟩) hgs).trans k1
    have e2 := (hb.cell (p := ⟨g, o + s.pos * 5 + 2, none⟩) hgs).trans k2
    have e3 := (hb.cell (p := ⟨g, o + s.pos * 5 + 3, none⟩) hgs).trans k3
    have e4 := (hb.cell (p := ⟨g, o + s.pos * 5 + 4, none⟩) hgs).trans k4
    have hbs' : b < W.heap.size := Nat.lt_of_lt_of_le hbs hb.size
    have hgs' : g < W.heap.size := Nat.lt_of_lt_of_le hgs hb.size
    clear c0 c1 c2 c3 k0 k1 k2 k3 k4
    by_cases h1 : t.1.kind = 1
    · have q1 : ((t.1.kind : Int) == 1) = true := natI h1
      have q3 : isWord x t.1 = (t.1.text == x) := by unfold isWord; rw [h1]; rfl
      have Q3 := Lib.hid q3
      clear q3 h1
      go_wp2
      go_region
      go_wp2
      go_ret
      refine ⟨?_, ?_⟩
      · rw [Q3.out]; first | rfl | (rw [← str_beq]; rfl)
      · exact (hb.drew).alloc hb.size _
    · have q1 : ((t.1.kind : Int) == 1) = false := natNe h1
      by_cases h4 : t.1.kind = 4
      · have q4 : ((t.1.kind : Int) == 4) = true := natI h4
        have q3 : isWord x t.1 = (t.1.text == x) := by unfold isWord; rw [h4]; rfl
        have Q3 := Lib.hid q3
        clear q3 h1 h4
        go_wp2
        go_region
        go_wp2
        go_ret
        refine ⟨?_, ?_⟩
        · rw [Q3.out]; first | rfl | (rw [← str_beq]; rfl)
        · exact (hb.drew).alloc hb.size _
      · have q4 : ((t.1.kind : Int) == 4) = false := natNe h4
        have q3 : isWord x t.1 = false := by unfold isWord; simp [h1, h4]
        have Q3 := Lib.hid q3
        clear q3 h1 h4
        go_wp2
        go_region
        go_wp2
        go_ret
        refine ⟨?_, ?_⟩
        · rw [Q3.out]; first | rfl | (rw [← str_beq]; rfl)
        · exact (hb.drew).alloc hb.size _

/-- One token further. -/
theorem PSt.adv {b : Nat} {A : Option Addr} {n c : Nat} {L : Toks} {ln : Nat → Nat} {s : St} {w w' : World} (h : PSt b A n c L ln s w) (h0 : s.err = 0) (hp : s.pos < L.length) {l : Nat}
    (hb : w'.heap[b]? = some (.cells #[.slice A n c, .int .i64 ((s.pos : Int) + 1), .int .i64 s.err, .int .i64 l] 61 (0, 0))) (hg : w.grownBy w' (some b)) : PSt b A n c L ln (adv s) w' :=
  ⟨⟨l, by rw [hb]; rfl, fun k => absurd h0 k⟩, h.len, hp, h.err, h.toks.keep (kept_grown_lt hg), h.few⟩

set_option maxRecDepth 100000 in
set_option maxHeartbeats 1000000 in
theorem take_any {b : Nat} {A : Option Addr} {n c : Nat} {L : Toks} {ln : Nat → Nat} {s : St} (x : ByteArray) (w : World) (h : PSt b A n c L ln s w) :
    Calls Tryz.prog 64 #[.pointer (some ⟨b, 0, none⟩), .string x] w fun e w' => e = .returned (.bool (isW L x s)) ∧ PSt b A n c L ln (taken L x s) w' ∧ w.grownBy w' (some b) := by
  have hi := is_any x w h
  cases his : isW L x s
  · rw [his] at hi
    have e : taken L x s = s := by unfold taken; rw [his]; rfl
    rw [e]
    have HI := Lib.hid hi
    have HH := Lib.hid h
    clear hi h his e
    go_enter Tryz.func64, Tryz.ntmps64
    go_wp2_with fail
    refine HI.out.mono ?_
    rintro e W ⟨rfl, hb⟩
    go_wp2
    go_ret
    exact ⟨rfl, HH.out.below hb, grown_below hb⟩
  · rw [his] at hi
    have e : taken L x s = adv s := by unfold taken; rw [his]; rfl
    rw [e]
    obtain ⟨h0, hp⟩ := isW_ok his
    have HI := Lib.hid hi
    have HH := Lib.hid h
    have H0 := Lib.hid h0
    have hfew := h.few
    clear hi h his e h0
    go_enter Tryz.func64, Tryz.ntmps64
    go_wp2_with fail
    refine HI.out.mono ?_
    rintro e W ⟨rfl, hb⟩
    have h1 := HH.out.below hb
    obtain ⟨l, hl, h2⟩ := h1.blk
    obtain ⟨c0, c1, c2, c3, cf⟩ := row4 hl
    have f1 := cf 1
    have HL := Lib.hid hl
    clear hl h2 cf
    go_wp2
    go_ret
    have hg : W.grownBy (W.setCell ⟨b, 1, none⟩ (.int .i64 ((s.pos : Int) + 1))) (some b) := grown_set (grown_refl _ _) _ _
    exact ⟨rfl, h1.adv H0.out hp (row_set HL.out _) hg, grown_trans (grown_below hb) hg⟩

/-- The parser behind a word that is needed. -/
theorem need_eq (L : Toks) (x : ByteArray) (s : St) : need L x s = if isW L x s then taken L x s else fails 2 (taken L x s) := by
  unfold need taken
  cases isW L x s <;> rfl

set_option maxRecDepth 100000 in
set_option maxHeartbeats 1000000 in
/-- need with one word, which lies in a block g of its own. -/
theorem need_any {b g : Nat} {A : Option Addr} {n c : Nat} {L : Toks} {ln : Nat → Nat} {s : St} (x : ByteArray) (w : World) (h : PSt b A n c L ln s w) (hg : w.heap[g]? = some (.cells #[.string x] 9 (0, 0))) (_ : g ≠ b) :
    Calls Tryz.prog 67 #[.pointer (some ⟨b, 0, none⟩), .slice (some ⟨g, 0, none⟩) 1 1] w fun e w' => e = .returned (.tuple #[]) ∧ PSt b A n c L ln (need L x s) w' ∧ w.grownBy w' (some b) := by
  have hc := cell_of_one hg
  have ht := take_any x w h
  rw [need_eq]
  have HT := Lib.hid ht
  have HH := Lib.hid h
  clear ht h hg
  cases his : isW L x s
  · rw [his] at HT
    clear his
    go_enter Tryz.func67, Tryz.ntmps67
    go_wp2
    refine wp_loop_rounds 3 ?_
    rw [rounds_succ]
    go_wp2_with fail
    refine HT.out.mono ?_
    rintro e W ⟨rfl, h1, hb⟩
    go_wp2_with fail
    refine (fail_any 2 (by decide) W h1).mono ?_
    rintro e W2 ⟨rfl, h2, hb2⟩
    go_wp2
    (try simp only [Exit.inBlock, Exit.then])
    refine bodyPost_ret (results_none rfl _ _ _) rfl ?_
    exact ⟨rfl, h2, grown_trans hb hb2⟩
  · rw [his] at HT
    clear his
    go_enter Tryz.func67, Tryz.ntmps67
    go_wp2
    refine wp_loop_rounds 3 ?_
    rw [rounds_succ]
    go_wp2_with fail
    refine HT.out.mono ?_
    rintro e W ⟨rfl, h1, hb⟩
    go_wp2
    rw [rounds_succ]
    go_wp2
    go_end0
    exact ⟨rfl, h1, hb⟩
end Go.Proofs.YtipicaoinnblpaaGreatDoor
namespace Go.Proofs.YtipicaoinnblpaaGreatDoor
open Go.RowKit

theorem word_eq (x : ByteArray) (l : List UInt8) : (x == bs l) = (x.toList == l) := by
  rw [← str_beq, ByteArray.toList_eq, ByteArray.toList_eq, bs_data]
theorem funOp_list (x : ByteArray) : funOp x = if x.toList == [100, 117, 97, 108] then 5 else if x.toList == [109, 97, 106, 111, 114, 105, 116, 121] then 6 else if x.toList == [97, 108, 108] then 7 else if x.toList == [97, 110, 121] then 8 else 0 := by
  unfold funOp
  rw [← word_eq, ← word_eq, ← word_eq, ← word_eq]
  rfl
theorem reserved_list (x : ByteArray) : reserved x = (x.toList == [115, 105, 116, 101] || x.toList == [102, 97, 117, 108, 116, 115] || x.toList == [113, 117, 111, 114, 117, 109] || x.toList == [99, 111, 110, 102, 105, 103] || x.toList == [119, 105, 116, 110, 101, 115, 115] || x.toList == [99, 108, 105, 101, 110, 116] || x.toList == [99, 104, 97, 105, 110] || x.toList == [114, 101, 97, 100] || x.toList == [119, 114, 105, 116, 101] || x.toList == [99, 114, 97, 115, 104] || x.toList == [98, 121, 122, 97, 110, 116, 105, 110, 101] || x.toList == [110, 111, 110, 101] || x.toList == [116, 104, 114, 101, 115, 104, 111, 108, 100] || x.toList == [98, 121, 122] || x.toList == [100, 117, 97, 108] || x.toList == [109, 97, 106, 111, 114, 105, 116, 121] || x.toList == [97, 108, 108] || x.toList == [97, 110, 121] || x.toList == [115, 101, 114, 118, 101, 114, 115]) := by
  unfold reserved words
  simp only [List.any_cons, List.any_nil, Bool.or_false]
  simp only [← word_eq, Bool.or_assoc]
  rfl

set_option maxRecDepth 100000 in
set_option maxHeartbeats 1000000 in
theorem function_any (x : ByteArray) (w : World) : Calls Tryz.prog 159 #[.string x] w fun e w' => e = .returned (.int .i64 (funOp x)) ∧ w = w' := by
  go_enter Tryz.func159, Tryz.ntmps159
  go_wp2
  all_goals go_ret
  all_goals refine ⟨?_, rfl⟩
  all_goals rw [funOp_list]
  all_goals simp [*]

set_option maxRecDepth 100000 in
set_option maxHeartbeats 2000000 in
theorem reserved_any (x : ByteArray) (w : World) : Calls Tryz.prog 123 #[.string x] w fun e w' => e = .returned (.bool (reserved x)) ∧ w = w' := by
  go_enter Tryz.func123, Tryz.ntmps123
  go_wp2
  all_goals go_ret
  all_goals refine ⟨?_, rfl⟩
  all_goals rw [reserved_list]
  all_goals first | (simp [*]; done) | simp_all
end Go.Proofs.YtipicaoinnblpaaGreatDoor
namespace Go.Proofs.YtipicaoinnblpaaGreatDoor
open Go.RowKit

theorem PSt.drewN {b : Nat} {A : Option Addr} {n c : Nat} {L : Toks} {ln : Nat → Nat} {s : St} {w : World} (h : PSt b A n c L ln s w) (k : Nat) : PSt b A n c L ln s (w.drewN k) := h.below (below_drewN (Below.refl _ _) k)
theorem more_quiet {b : Nat} {A : Option Addr} {n c : Nat} {L : Toks} {ln : Nat → Nat} {s : St} {w : World} (h : PSt b A n c L ln s w) {r : Bool} (hr : moreB L s = r) (k : Nat) :
    Calls Tryz.prog 32 #[.pointer (some ⟨b, 0, none⟩)] (w.drewN k) fun e w'' => e = .returned (.bool r) ∧ ∃ m, w'' = w.drewN m := by
  subst hr
  exact Calls.quiet_of (more_any _ (h.drewN k))
theorem reserved_quiet {x : ByteArray} {r : Bool} (hr : reserved x = r) (w : World) (k : Nat) :
    Calls Tryz.prog 123 #[.string x] (w.drewN k) fun e w'' => e = .returned (.bool r) ∧ ∃ m, w'' = w.drewN m := by
  subst hr
  exact (reserved_any x _).mono fun _ _ h => ⟨h.1, k, h.2.symm⟩
theorem more_mk {L : Toks} {s : St} (h0 : s.err = 0) (hp : s.pos < L.length) : moreB L s = true := by unfold moreB; simp [h0, hp]

theorem name_no {L : Toks} {s : St} (h : isName L s = false) : pName L s = (bs [], fails 2 s) := by unfold pName; rw [h]; rfl
theorem name_yes {L : Toks} {s : St} (h : isName L s = true) : pName L s = (txt L s, adv s) := by unfold pName; rw [h]; rfl
theorem isName_at {L : Toks} {s : St} (h0 : s.err = 0) (hp : s.pos < L.length) : isName L s = isNameTok (L[s.pos]'hp).1 := by unfold isName; rw [tk_at h0 hp]
theorem txt_at {L : Toks} {s : St} (h0 : s.err = 0) (hp : s.pos < L.length) : txt L s = (L[s.pos]'hp).1.text := by unfold txt; rw [tk_at h0 hp]
theorem isName_more {L : Toks} {s : St} (h : moreB L s = false) : isName L s = false := by
  cases e : isName L s
  · rfl
  · obtain ⟨h0, hp⟩ := isName_ok e
    rw [more_mk h0 hp] at h; simp at h
theorem isInt_more {L : Toks} {s : St} (h : moreB L s = false) : isInt L s = false := by
  cases e : isInt L s
  · rfl
  · obtain ⟨h0, hp⟩ := isInt_ok e
    rw [more_mk h0 hp] at h; simp at h

/-- What a method leaves. -/
def PPost (b : Nat) (A : Option Addr) (n c : Nat) (L : Toks) (ln : Nat → Nat) (w : World) (v : Value) (s : St) (e : Ending) (w' : World) : Prop := e = .returned v ∧ PSt b A n c L ln s w' ∧ w.grownBy w' (some b)

/-- The facts on the present token that a walk needs. -/
theorem tok_facts {b : Nat} {A : Option Addr} {n c : Nat} {L : Toks} {ln : Nat → Nat} {s : St} {w : World} (h : PSt b A n c L ln s w) (hp : s.pos < L.length) :
    ∃ g o l : Nat, A = some ⟨g, o, none⟩ ∧ g < b ∧ g < w.heap.size ∧ b < w.heap.size ∧ w.heap[b]? = some (.cells #[.slice A n c, .int .i64 s.pos, .int .i64 s.err, .int .i64 l] 61 (0, 0)) ∧
      w.cell? ⟨g, o + s.pos * 5, none⟩ = some (.int .i64 (L[s.pos]'hp).1.kind) ∧ w.cell? ⟨g, o + s.pos * 5 + 1, none⟩ = some (.string (L[s.pos]'hp).1.text) ∧
      w.cell? ⟨g, o + s.pos * 5 + 2, none⟩ = some (.int .i64 (L[s.pos]'hp).1.int) ∧ w.cell? ⟨g, o + s.pos * 5 + 3, none⟩ = some (.string (L[s.pos]'hp).1.str) ∧ w.cell? ⟨g, o + s.pos * 5 + 4, none⟩ = some (.int .i64 (L[s.pos]'hp).2) ∧
      (0 : Int) ≤ (s.pos : Int) ∧ (s.pos : Int) < (n : Int) ∧ n ≤ 100000 := by
  obtain ⟨l, hl, h2⟩ := h.blk
  have hn := h.len
  have hfew := h.few
  obtain ⟨g, o, rfl, hS, k0, k1, k2, k3, k4⟩ := tok_cells (i := s.pos) h.toks hn (by omega)
  exact ⟨g, o, l, rfl, hS, World.block_lt_of_cell? w _ k0, h.lt, hl, k0, k1, k2, k3, k4, by omega, by omega, by omega⟩

set_option maxRecDepth 100000 in
set_option maxHeartbeats 2000000 in
theorem isInt_any {b : Nat} {A : Option Addr} {n c : Nat} {L : Toks} {ln : Nat → Nat} {s : St} (w : World) (h : PSt b A n c L ln s w) :
    Calls Tryz.prog 153 #[.pointer (some ⟨b, 0, none⟩)] w fun e w' => e = .returned (.bool (isInt L s)) ∧ ∃ q, w' = w.drewN q := by
  cases hmo : moreB L s
  · rw [isInt_more hmo]
    have HM := Lib.hid (more_quiet h hmo)
    clear h hmo
    go_enter Tryz.func153, Tryz.ntmps153
    go_wp2
    go_quiet ((go_at_call 32; exact HM.out _))
    go_wp2
    go_ret
    exact ⟨rfl, _, rfl⟩
  · obtain ⟨h0, hp⟩ := more_ok hmo
    obtain ⟨g, o, l, rfl, hS, hgs, hbs, hl, k0, k1, k2, k3, k4, i1, i2, i3⟩ := tok_facts h hp
    have e : isInt L s = ((L[s.pos]'hp).1.kind == 2) := by unfold isInt; rw [tk_at h0 hp]
    rw [e]
    obtain ⟨t, ht⟩ : ∃ t, t = L[s.pos]'hp := ⟨_, rfl⟩
    rw [← ht] at k0 k1 k2 k3 k4 ⊢
    obtain ⟨c0, c1, c2, c3, -⟩ := row4 hl
    have HM := Lib.hid (more_quiet h hmo)
    clear h hmo e h0 hl ht
    have e2 : (t.1.kind == 2) = ((t.1.kind : Int) == 2) := by rw [Bool.eq_iff_iff, beq_iff_eq, beq_iff_eq]; omega
    rw [e2]
    clear e2
    go_enter Tryz.func153, Tryz.ntmps153
    go_wp2
    go_quiet ((go_at_call 32; exact HM.out _))
    go_wp2
    go_ret
    exact ⟨rfl, _, rfl⟩

set_option maxRecDepth 100000 in
set_option maxHeartbeats 2000000 in
theorem name_any {b : Nat} {A : Option Addr} {n c : Nat} {L : Toks} {ln : Nat → Nat} {s : St} (w : World) (h : PSt b A n c L ln s w) :
    Calls Tryz.prog 65 #[.pointer (some ⟨b, 0, none⟩)] w (PPost b A n c L ln w (.string (pName L s).1) (pName L s).2) := by
  cases hmo : moreB L s
  · rw [name_no (isName_more hmo)]
    have HM := Lib.hid (more_quiet h hmo)
    have HH := Lib.hid h
    clear h hmo
    go_enter Tryz.func65, Tryz.ntmps65
    go_wp2
    go_quiet ((go_at_call 32; exact HM.out _))
    go_wp2_with fail
    refine (fail_any 2 (by decide) _ (HH.out.drewN _)).mono ?_
    rintro e W ⟨rfl, h1, hg⟩
    go_wp2
    go_ret
    exact ⟨rfl, h1, grown_trans (grown_drewN (grown_refl _ _) _) hg⟩
  · obtain ⟨h0, hp⟩ := more_ok hmo
    obtain ⟨g, o, l, rfl, hS, hgs, hbs, hl, k0, k1, k2, k3, k4, i1, i2, i3⟩ := tok_facts h hp
    have hat := isName_at h0 hp
    have htx := txt_at h0 hp
    obtain ⟨t, ht⟩ : ∃ t, t = L[s.pos]'hp := ⟨_, rfl⟩
    rw [← ht] at k0 k1 k2 k3 k4 hat htx
    obtain ⟨c0, c1, c2, c3, cf⟩ := row4 hl
    have HM := Lib.hid (more_quiet h hmo)
    have HH := Lib.hid h
    have HL := Lib.hid hl
    have H0 := Lib.hid h0
    have f1 := cf 1
    clear h hmo h0 hl ht cf
    by_cases h1 : t.1.kind = 1
    · have q1 : ((t.1.kind : Int) == 1) = true := natI h1
      have q2 : ((t.1.kind : Int) != 1) = false := by rw [h1]; rfl
      cases hr : reserved t.1.text
      · have e : isName L s = true := by rw [hat]; unfold isNameTok; rw [h1, hr]; rfl
        rw [name_yes e, htx]
        have HR := Lib.hid (reserved_quiet hr)
        clear h1 hr e hat htx
        go_enter Tryz.func65, Tryz.ntmps65
        go_wp2
        go_quiet ((first | (go_at_call 32; exact HM.out _) | (go_at_call 123; exact HR.out _ _)))
        go_wp2
        obtain ⟨W, hW⟩ : ∃ W : World, W = (w.drewN nq).setCell ⟨b, 1, none⟩ (.int .i64 ((s.pos : Int) + 1)) := ⟨_, rfl⟩
        have hg : w.grownBy W (some b) := by rw [hW]; exact grown_set (grown_drewN (grown_refl _ _) _) _ _
        have hb1 : W.heap[b]? = some (.cells #[.slice (some ⟨g, o, none⟩) n c, .int .i64 ((s.pos : Int) + 1), .int .i64 s.err, .int .i64 l] 61 (0, 0)) := by rw [hW]; exact row_set (w := w.drewN nq) HL.out _
        have k1' := hg.cell k1 (fun e => Nat.ne_of_lt hS (by injection e))
        rw [← hW]
        have HB := Lib.hid hb1
        clear hW c0 c1 c2 c3 f1 k0 k1 k2 k3 k4
        obtain ⟨c0, c1, c2, c3, -⟩ := row4 hb1
        have hw1 : IntKind.i64.wrap ((s.pos : Int) + 1 - 1) = (s.pos : Int) := by rw [Int.add_sub_cancel]; exact IntWalk.i64_in _ (by omega)
        clear hb1
        go_quiet (fail)
        go_wp2
        go_ret
        exact ⟨rfl, (HH.out.adv H0.out hp HB.out hg).drewN _, grown_drewN hg _⟩
      · have e : isName L s = false := by rw [hat]; unfold isNameTok; rw [h1, hr]; rfl
        rw [name_no e]
        have HR := Lib.hid (reserved_quiet hr)
        clear h1 hr e hat htx f1
        go_enter Tryz.func65, Tryz.ntmps65
        go_wp2
        go_quiet ((first | (go_at_call 32; exact HM.out _) | (go_at_call 123; exact HR.out _ _)))
        go_wp2_with fail
        refine (fail_any 2 (by decide) _ (HH.out.drewN _)).mono ?_
        rintro e W ⟨rfl, h1, hg⟩
        go_wp2
        go_ret
        exact ⟨rfl, h1, grown_trans (grown_drewN (grown_refl _ _) _) hg⟩
    · have q1 : ((t.1.kind : Int) == 1) = false := natNe h1
      have q2 : ((t.1.kind : Int) != 1) = true := natNeq h1
      have e : isName L s = false := by rw [hat]; unfold isNameTok; simp [h1]
      rw [name_no e]
      clear h1 e hat htx f1
      go_enter Tryz.func65, Tryz.ntmps65
      go_wp2
      go_quiet ((go_at_call 32; exact HM.out _))
      go_wp2_with fail
      refine (fail_any 2 (by decide) _ (HH.out.drewN _)).mono ?_
      rintro e W ⟨rfl, h1, hg⟩
      go_wp2
      go_ret
      exact ⟨rfl, h1, grown_trans (grown_drewN (grown_refl _ _) _) hg⟩

theorem num_no {L : Toks} {s : St} (h : isInt L s = false) : pNum L s = (0, fails 2 s) := by unfold pNum; rw [h]; rfl
theorem intAt_at {L : Toks} {s : St} (h0 : s.err = 0) (hp : s.pos < L.length) : intAt L s = (L[s.pos]'hp).1.int := by unfold intAt; rw [tk_at h0 hp]
theorem num_big {L : Toks} {s : St} (h : isInt L s = true) (h2 : 100000 < intAt L s) : pNum L s = (0, fails 7 s) := by unfold pNum; rw [h, if_pos h2]; rfl
theorem num_yes {L : Toks} {s : St} (h : isInt L s = true) (h2 : ¬ 100000 < intAt L s) : pNum L s = ((intAt L s : Int), adv s) := by unfold pNum; rw [h, if_neg h2]; rfl
set_option maxRecDepth 100000 in
set_option maxHeartbeats 2000000 in
theorem number_any {b : Nat} {A : Option Addr} {n c : Nat} {L : Toks} {ln : Nat → Nat} {s : St} (w : World) (h : PSt b A n c L ln s w) :
    Calls Tryz.prog 124 #[.pointer (some ⟨b, 0, none⟩)] w (PPost b A n c L ln w (.int .i64 (pNum L s).1) (pNum L s).2) := by
  have hI := isInt_any w h
  cases hin : isInt L s
  · rw [num_no hin]
    rw [hin] at hI
    have HI := Lib.hid hI
    have HH := Lib.hid h
    clear h hI hin
    go_enter Tryz.func124, Tryz.ntmps124
    go_wp2_with fail
    refine HI.out.mono ?_
    rintro e W1 ⟨rfl, q, rfl⟩
    go_wp2_with fail
    refine (fail_any 2 (by decide) _ (HH.out.drewN _)).mono ?_
    rintro e W ⟨rfl, h1, hg⟩
    go_wp2
    go_ret
    exact ⟨rfl, h1, grown_trans (grown_drewN (grown_refl _ _) _) hg⟩
  · rw [hin] at hI
    obtain ⟨h0, hp⟩ := isInt_ok hin
    obtain ⟨g, o, l, rfl, hS, hgs, hbs, hl, k0, k1, k2, k3, k4, i1, i2, i3⟩ := tok_facts h hp
    have hat := intAt_at h0 hp
    obtain ⟨t, ht⟩ : ∃ t, t = L[s.pos]'hp := ⟨_, rfl⟩
    rw [← ht] at k0 k1 k2 k3 k4 hat
    obtain ⟨c0, c1, c2, c3, cf⟩ := row4 hl
    have HI := Lib.hid hI
    have HH := Lib.hid h
    have HL := Lib.hid hl
    have H0 := Lib.hid h0
    have f1 := cf 1
    clear h h0 hl ht cf hI
    by_cases hb : 100000 < t.1.int
    · rw [num_big hin (by rw [hat]; exact hb)]
      have hbI : (100000 : Int) < (t.1.int : Int) := by omega
      clear hin hat hb
      go_enter Tryz.func124, Tryz.ntmps124
      go_wp2_with fail
      refine HI.out.mono ?_
      rintro e W1 ⟨rfl, q, rfl⟩
      go_wp2
      go_quiet (fail)
      go_wp2_with fail
      refine (fail_any 7 (by decide) _ (HH.out.drewN _)).mono ?_
      rintro e W ⟨rfl, h1, hg⟩
      go_wp2
      go_ret
      exact ⟨rfl, h1, grown_trans (grown_drewN (grown_refl _ _) _) hg⟩
    · rw [num_yes hin (by rw [hat]; exact hb), hat]
      have hbI : ¬ (100000 : Int) < (t.1.int : Int) := by omega
      clear hin hat hb
      go_enter Tryz.func124, Tryz.ntmps124
      go_wp2_with fail
      refine HI.out.mono ?_
      rintro e W1 ⟨rfl, q, rfl⟩
      go_wp2
      go_quiet (fail)
      go_wp2
      go_ret
      refine ⟨rfl, HH.out.adv (l := l) H0.out hp ?_ (grown_set (grown_drewN (grown_refl _ _) _) _ _), grown_set (grown_drewN (grown_refl _ _) _) _ _⟩
      exact row_set (w := w.drewN _) HL.out _
end Go.Proofs.YtipicaoinnblpaaGreatDoor
namespace Go.Proofs.YtipicaoinnblpaaGreatDoor
open Go.RowKit

/-- What a method that reads names leaves: they lie in new blocks. -/
def NPost (b : Nat) (A : Option Addr) (n c : Nat) (L : Toks) (ln : Nat → Nat) (w : World) (l : List ByteArray) (s : St) (e : Ending) (w' : World) : Prop :=
  ∃ v, e = .returned v ∧ w'.ownsRow w.heap.size 9 1 v l.length (strVals l) ∧ PSt b A n c L ln s w' ∧ w.grownBy w' (some b)
theorem below_own {w w' : World} {base e size n : Nat} {v : Value} {xs : List Value} (h : w.ownsRow base e size v n xs) (hg : w.grownBy w' v.ownBlock) (hb : base ≤ w.heap.size) : Below base w w' :=
  ⟨hg.os, hg.tape, hg.output, hg.size, fun k hk => hg.block k (by omega) (fun e => by have := (h.lt k e.symm).1; omega)⟩
/-- What is written from a base on. -/
theorem grown_from {a w w' : World} {b base : Nat} (h : a.grownBy w (some b)) (hb : Below base w w') (hs : a.heap.size ≤ base) : a.grownBy w' (some b) :=
  ⟨hb.os.trans h.os, hb.tape.trans h.tape, hb.output.trans h.output, Nat.le_trans h.size hb.size, fun k hk hne => (hb.block k (by omega)).trans (h.block k hk hne)⟩
theorem namesGo_step {L : Toks} {f : Nat} {acc : List ByteArray} {s : St} (h : isW L (⟨#[44]⟩ : ByteArray) s = true) : namesGo L (f + 1) acc s = namesGo L f (acc ++ [(pName L (taken L (⟨#[44]⟩ : ByteArray) s)).1]) (pName L (taken L (⟨#[44]⟩ : ByteArray) s)).2 := by
  rw [namesGo, h]; unfold taken; rw [h]; rfl
theorem namesGo_stop {L : Toks} {f : Nat} {acc : List ByteArray} {s : St} (h : isW L (⟨#[44]⟩ : ByteArray) s = false) : namesGo L f acc s = (acc, s) := by
  cases f with
  | zero => rfl
  | succ f => rw [namesGo, h]; rfl
theorem taken_ok {L : Toks} {x : ByteArray} {s : St} (h : isW L x s = true) : (taken L x s).pos = s.pos + 1 := by unfold taken; rw [h]; rfl
theorem taken_not {L : Toks} {x : ByteArray} {s : St} (h : isW L x s = false) : taken L x s = s := by unfold taken; rw [h]; rfl

set_option maxRecDepth 100000 in
set_option maxHeartbeats 2000000 in
theorem names_any {b : Nat} {A : Option Addr} {n c : Nat} {L : Toks} {ln : Nat → Nat} {s : St} (w : World) (h : PSt b A n c L ln s w) :
    Calls Tryz.prog 70 #[.pointer (some ⟨b, 0, none⟩)] w (NPost b A n c L ln w (pNames L s).1 (pNames L s).2) := by
  have hbs := h.lt
  have hfew := h.few
  have HH := Lib.hid h
  clear h
  go_enter Tryz.func70, Tryz.ntmps70
  go_wp2_with fail
  refine (name_any w HH.out).mono ?_
  rintro e W ⟨rfl, h1, hg⟩
  have hsW := hg.size
  go_wp2
  go_loopg [3] L.length (fun f v wr => ∃ acc s', Hid (namesGo L f acc s' = pNames L s) ∧ L.length ≤ f + s'.pos ∧ acc.length + f ≤ L.length + 1 ∧ PSt b A n c L ln s' wr ∧ w.grownBy wr (some b) ∧ wr.ownsRow w.heap.size 9 1 v acc.length (strVals acc))
  case atStart =>
    refine ⟨[(pName L s).1], (pName L s).2, rfl, by omega, by simp; omega, h1.below ((Below.refl _ _).alloc (Nat.le_refl _) _), grown_alloc hg _, ?_⟩
    exact World.ownsRow_lit (base := w.heap.size) (e := 9) (size := 1) W #[.string (pName L s).1] 1 hsW (by decide) rfl
  case round =>
    obtain ⟨acc, s', hgo, hfu, hal, hP, hgr, hown⟩ := hrel
    have hsr := hgr.size
    cases his : isW L (⟨#[44]⟩ : ByteArray) s'
    · have ht := take_any (⟨#[44]⟩ : ByteArray) wr hP
      rw [his, taken_not his] at ht
      have HT := Lib.hid ht
      have HI := Lib.hid his
      clear ht his hP
      go_wp2_with fail
      refine HT.out.mono ?_
      rintro e W2 ⟨rfl, h2, hg2⟩
      go_wp2
      go_ret
      rw [namesGo_stop HI.out] at hgo
      refine ⟨_, rfl, ?_, ?_, grown_trans hgr hg2⟩
      · rw [← hgo.out]; exact own_grown hown hg2 hbs
      · rw [← hgo.out]; exact h2
    · have ht := take_any (⟨#[44]⟩ : ByteArray) wr hP
      have hpos := taken_ok his
      have hlt := (isW_ok his).2
      rw [his] at ht
      have HT := Lib.hid ht
      have HI := Lib.hid his
      have HP := Lib.hid hpos
      clear ht his hP hpos
      obtain ⟨f, rfl⟩ : ∃ f, gk = f + 1 := ⟨gk - 1, by omega⟩
      go_wp2_with fail
      refine HT.out.mono ?_
      rintro e W2 ⟨rfl, h2, hg2⟩
      go_wp2_with fail
      refine (name_any W2 h2).mono ?_
      rintro e W3 ⟨rfl, h3, hg3⟩
      have hown3 := own_grown (own_grown hown hg2 hbs) hg3 hbs
      have hgr3 := grown_trans (grown_trans hgr hg2) hg3
      have hs3 := hgr3.size
      go_wp2_with (at_builtin; refine push_str W3 rfl (.tmp 9) (.tmp 12) rfl w.heap.size _ _ _ hown3 rfl (pName L (taken L (⟨#[44]⟩ : ByteArray) s')).1 rfl (by omega) hs3 ?_; intro v' W4 hown4 hg4 _)
      have hb4 := below_own hown3 hg4 hs3
      go_roundg f
      case measure => omega
      case rel =>
        have ha := (ahead_name (L := L) h2.pos).le
        rw [HP.out] at ha
        refine ⟨acc ++ [(pName L (taken L (⟨#[44]⟩ : ByteArray) s')).1], _, ?_, ?_, ?_, h3.other hb4 hbs, grown_from hgr3 hb4 (Nat.le_refl _), ?_⟩
        rotate_left 3
        · rw [List.length_append, strVals_snoc]; exact hown4
        · rw [namesGo_step HI.out] at hgo; exact hgo
        · omega
        · rw [List.length_append]; simp; omega

set_option maxRecDepth 100000 in
set_option maxHeartbeats 2000000 in
theorem braces_any {b : Nat} {A : Option Addr} {n c : Nat} {L : Toks} {ln : Nat → Nat} {s : St} (w : World) (h : PSt b A n c L ln s w) :
    Calls Tryz.prog 66 #[.pointer (some ⟨b, 0, none⟩)] w (NPost b A n c L ln w (pBraces L s).1 (pBraces L s).2) := by
  have hbs := h.lt
  have HH := Lib.hid h
  clear h
  go_enter Tryz.func66, Tryz.ntmps66
  go_wp2_with fail
  refine (need_any (⟨#[123]⟩ : ByteArray) _ (HH.out.below ((Below.refl _ _).alloc (Nat.le_refl _) _)) (heap_alloc_new w _) (by omega)).mono ?_
  rintro e W1 ⟨rfl, h1, hg1⟩
  have hg1 := grown_trans (grown_alloc (grown_refl w (some b)) _) hg1
  go_wp2_with fail
  refine (names_any W1 h1).mono ?_
  rintro e W2 ⟨v, rfl, hown, h2, hg2⟩
  obtain ⟨Av, cv, rfl, hcv⟩ := own_slice hown
  have hs1 := hg1.size
  have hs2 := hg2.size
  go_wp2_with fail
  refine (need_any (⟨#[125]⟩ : ByteArray) _ (h2.below ((Below.refl _ _).alloc (Nat.le_refl _) _)) (heap_alloc_new W2 _) (by omega)).mono ?_
  rintro e W3 ⟨rfl, h3, hg3⟩
  go_wp2
  go_ret
  exact ⟨_, rfl, own_grown ((own_base hown hs1).alloc _) hg3 hbs, h3, grown_trans (grown_trans hg1 hg2) (grown_trans (grown_alloc (grown_refl W2 (some b)) _) hg3)⟩
end Go.Proofs.YtipicaoinnblpaaGreatDoor
namespace Go.Proofs.YtipicaoinnblpaaGreatDoor
open Go.RowKit

/-- What a method that reads a term leaves: it lies in new blocks. -/
def TPost (b : Nat) (A : Option Addr) (n c : Nat) (L : Toks) (ln : Nat → Nat) (w : World) (r : Tm × St) (e : Ending) (w' : World) : Prop :=
  ∃ op nm nd wA wn wc kA kn kc, e = .returned (.agg #[.int .i64 op, .string nm, .int .i64 nd, .slice wA wn wc, .slice kA kn kc]) ∧ TmAt w' (w.heap.size ≤ ·) r.1 (.agg #[.int .i64 op, .string nm, .int .i64 nd, .slice wA wn wc, .slice kA kn kc]) ∧ PSt b A n c L ln r.2 w' ∧ w.grownBy w' (some b)

theorem joinGo_step {L : Toks} {x : ByteArray} {part : St → Tm × St} {f : Nat} {acc : List Tm} {s : St} (h : isW L x s = true) : joinGo L x part (f + 1) acc s = joinGo L x part f (acc ++ [(part (taken L x s)).1]) (part (taken L x s)).2 := by
  rw [joinGo, h]; unfold taken; rw [h]; rfl
theorem joinGo_stop {L : Toks} {x : ByteArray} {part : St → Tm × St} {f : Nat} {acc : List Tm} {s : St} (h : isW L x s = false) : joinGo L x part f acc s = (acc, s) := by
  cases f with
  | zero => rfl
  | succ f => rw [joinGo, h]; rfl
theorem row5 {w : World} {b : Nat} {v0 v1 v2 v3 v4 : Value} {t : TypeId} (h : w.heap[b]? = some (.cells #[v0, v1, v2, v3, v4] t (0, 0))) :
    w.cell? ⟨b, 0, none⟩ = some v0 ∧ w.cell? ⟨b, 1, none⟩ = some v1 ∧ w.cell? ⟨b, 2, none⟩ = some v2 ∧ w.cell? ⟨b, 3, none⟩ = some v3 ∧ w.cell? ⟨b, 4, none⟩ = some v4 ∧ ∀ i, w.frozen? ⟨b, i, none⟩ = false :=
  ⟨(cell_of_row _ _ _ _ _ _ h).trans rfl, (cell_of_row _ _ _ _ _ _ h).trans rfl, (cell_of_row _ _ _ _ _ _ h).trans rfl, (cell_of_row _ _ _ _ _ _ h).trans rfl, (cell_of_row _ _ _ _ _ _ h).trans rfl, fun i => frozen_of_row _ _ i _ _ h⟩
/-- Five cells stored in a block of five. -/
theorem set5 {w : World} {r : Nat} {o0 o1 o2 o3 o4 : Value} {t : TypeId} (h : w.heap[r]? = some (.cells #[o0, o1, o2, o3, o4] t (0, 0))) (v0 v1 v2 v3 v4 : Value) :
    (((((w.setCell ⟨r, 0, none⟩ v0).setCell ⟨r, 1, none⟩ v1).setCell ⟨r, 2, none⟩ v2).setCell ⟨r, 3, none⟩ v3).setCell ⟨r, 4, none⟩ v4).heap[r]? = some (.cells #[v0, v1, v2, v3, v4] t (0, 0)) ∧
      w.grownBy (((((w.setCell ⟨r, 0, none⟩ v0).setCell ⟨r, 1, none⟩ v1).setCell ⟨r, 2, none⟩ v2).setCell ⟨r, 3, none⟩ v3).setCell ⟨r, 4, none⟩ v4) (some r) :=
  ⟨row_set (row_set (row_set (row_set (row_set h _) _) _) _) _, grown_set (grown_set (grown_set (grown_set (grown_set (grown_refl _ _) _ _) _ _) _ _) _ _) _ _⟩
theorem tm_list {w : World} {S : Nat → Prop} {op : Int} {A : Option Addr} {c : Nat} {acc : List Tm} (h : ListAt (TmAt w S) w S 5 A acc) (hc : acc.length ≤ c) :
    TmAt w S (.mk op (bs []) 0 [] acc) (.agg #[.int .i64 op, .string (bs []), .int .i64 0, .slice none 0 0, .slice A acc.length c]) := by
  obtain ⟨vs, h1, h2, h3⟩ := h
  exact .mk op (bs []) 0 [] acc none A 0 c vs (.empty _ _ _ _) (Nat.le_refl _) h2 hc h1 h3
theorem flat5 {vs : List Value} (h : ∀ (i : Nat) (u : Value), vs[i]? = some u → (cellsOf u).length = 5) : ∀ (i j : Nat) (u : Value), vs[i]? = some u → j < 5 → (vs.flatMap cellsOf)[i * 5 + j]? = (cellsOf u)[j]? := by
  induction vs with
  | nil => intro i j u hu; simp at hu
  | cons v r ih =>
    intro i j u hu hj
    rw [List.flatMap_cons]
    have hv := h 0 v rfl
    cases i with
    | zero =>
      simp at hu; subst hu
      rw [List.getElem?_append_left (by omega)]; simp
    | succ i =>
      rw [List.getElem?_append_right (by omega), hv, show (i + 1) * 5 + j - 5 = i * 5 + j by omega]
      exact ih (fun i u hu => h (i + 1) u hu) i j u (by simpa using hu) hj
theorem tm_len {w : World} {S : Nat → Prop} {t : Tm} {v : Value} (h : TmAt w S t v) : (cellsOf v).length = 5 := by
  cases h; rfl
/-- The cells of one term of a list. -/
theorem kid_cells {w : World} {S : Nat → Prop} {P : Tm → Value → Prop} {A : Option Addr} {acc : List Tm} (hP : ∀ t v, P t v → ∃ S', TmAt w S' t v) (h : ListAt P w S 5 A acc) (i : Nat) (hi : i < acc.length) :
    ∃ g o op nm nd wA wn wc kA kn kc, A = some ⟨g, o, none⟩ ∧ S g ∧ P acc[i] (.agg #[.int .i64 op, .string nm, .int .i64 nd, .slice wA wn wc, .slice kA kn kc]) ∧ w.cell? ⟨g, o + i * 5, none⟩ = some (.int .i64 op) ∧ w.cell? ⟨g, o + i * 5 + 1, none⟩ = some (.string nm) ∧
      w.cell? ⟨g, o + i * 5 + 2, none⟩ = some (.int .i64 nd) ∧ w.cell? ⟨g, o + i * 5 + 3, none⟩ = some (.slice wA wn wc) ∧ w.cell? ⟨g, o + i * 5 + 4, none⟩ = some (.slice kA kn kc) := by
  obtain ⟨vs, h1, h2, h3⟩ := h
  have hl : ∀ (i : Nat) (u : Value), vs[i]? = some u → (cellsOf u).length = 5 := by
    intro i u hu
    have hi := (List.getElem?_eq_some_iff.1 hu).1
    obtain ⟨S', hp⟩ := hP _ _ (h3 i (acc[i]'(by omega)) u (List.getElem?_eq_getElem _) hu)
    exact tm_len hp
  have hp := h3 i acc[i] (vs[i]'(by omega)) (List.getElem?_eq_getElem hi) (List.getElem?_eq_getElem _)
  obtain ⟨S', ht⟩ := hP _ _ hp
  obtain ⟨op, nm, nd, wA, wn, wc, kA, kn, kc, hv⟩ := ht.form
  obtain ⟨g, o, hA, hS, hc⟩ := h2.cells (by omega)
  rw [hv] at hp
  have hvi : vs[i]? = some (.agg #[.int .i64 op, .string nm, .int .i64 nd, .slice wA wn wc, .slice kA kn kc]) := by rw [List.getElem?_eq_getElem (by omega), hv]
  have k := fun j (hj : j < 5) u (hu : [.int .i64 op, .string nm, .int .i64 nd, .slice wA wn wc, .slice kA kn kc][j]? = some u) => hc (i * 5 + j) u ((flat5 hl i j _ hvi hj).trans hu)
  exact ⟨g, o, op, nm, nd, wA, wn, wc, kA, kn, kc, hA, hS, hp, k 0 (by decide) _ rfl, k 1 (by decide) _ rfl, k 2 (by decide) _ rfl, k 3 (by decide) _ rfl, k 4 (by decide) _ rfl⟩

theorem joinTm_many {op : Int} {acc : List Tm} (h : acc.length ≠ 1) : joinTm op acc = .mk op (bs []) 0 [] acc := by
  match acc with
  | [] => rfl
  | [t] => exact absurd rfl h
  | a :: b :: r => rfl
/-- A term as the result that lies in a block. -/
theorem ret_term {fn : Func} {slot : Nat} {R : Ending → World → Prop} {a : Act} {W : World} {r : Nat} {op : Int} {nm : ByteArray} {nd : Int} {wA : Option Addr} {wn wc : Nat} {kA : Option Addr} {kn kc : Nat} (hres : fn.results = #[.cell slot 32]) (hp : a.tmps.getD slot undef = .pointer (some ⟨r, 0, none⟩)) (hd : a.defers = [])
    (hblk : W.heap[r]? = some (.cells #[.int .i64 op, .string nm, .int .i64 nd, .slice wA wn wc, .slice kA kn kc] 32 (0, 0))) (hR : R (.returned (.agg #[.int .i64 op, .string nm, .int .i64 nd, .slice wA wn wc, .slice kA kn kc])) W) : bodyPost Tryz.prog fn R .ret a W := by
  obtain ⟨c0, c1, c2, c3, c4, -⟩ := row5 hblk
  refine bodyPost_ret (v := .agg #[.int .i64 op, .string nm, .int .i64 nd, .slice wA wn wc, .slice kA kn kc]) ?_ hd hR
  have hp' : a.tmps[slot]?.getD undef = .pointer (some ⟨r, 0, none⟩) := by simpa using hp
  simp [results, hres, hp', go_sem, c0, c1, c2, c3, c4]

set_option maxRecDepth 100000 in
set_option maxHeartbeats 2000000 in
theorem joined_any {b : Nat} {A : Option Addr} {n c : Nat} {L : Toks} {ln : Nat → Nat} (fid : Nat) (he : ∀ (args : Array Value) (w : World), (callFunc fid args).run Tryz.prog w = .ok (.enter fid args) w) (part : St → Tm × St) (K : St → Prop) (hK : ∀ s t, K s → Ahead L s t → K t) (hgood : Good L part)
    (hpart : ∀ (w : World) (s : St), PSt b A n c L ln s w → K s → Calls Tryz.prog fid #[.pointer (some ⟨b, 0, none⟩)] w (TPost b A n c L ln w (part s)))
    (op : Int) (x : ByteArray) {s : St} (w : World) (h : PSt b A n c L ln s w) (hs : K s) :
    Calls Tryz.prog 78 #[.pointer (some ⟨b, 0, none⟩), .int .i64 op, .string x, .func (.func fid) #[.pointer (some ⟨b, 0, none⟩)] #[]] w (TPost b A n c L ln w (pJoin L op x part s)) := by
  have hbs := h.lt
  have hfew := h.few
  have HH := Lib.hid h
  have HP := Lib.hid hpart
  have HK := Lib.hid hK
  have HS := Lib.hid hs
  clear h hpart hK hs
  go_enter Tryz.func78, Tryz.ntmps78
  go_wp2_with fail
  obtain ⟨W0, hW0⟩ : ∃ W0 : World, W0 = w.alloc (.cells #[.int .i64 0, .string ⟨#[]⟩, .int .i64 0, .slice none 0 0, .slice none 0 0] 32) := ⟨_, rfl⟩
  have hb0 : Below w.heap.size w W0 := by rw [hW0]; exact (Below.refl _ _).alloc (Nat.le_refl _) _
  have hs0 : W0.heap.size = w.heap.size + 1 := by rw [hW0]; simp
  have hr0 : W0.heap[w.heap.size]? = some (.cells #[.int .i64 0, .string ⟨#[]⟩, .int .i64 0, .slice none 0 0, .slice none 0 0] 32 (0, 0)) := by rw [hW0]; exact heap_alloc_new w _
  rw [← hW0]
  have HS0 := Lib.hid hs0
  have HR0 := Lib.hid hr0
  have hlt0 : w.heap.size < W0.heap.size := by omega
  clear hW0 hs0 hr0
  refine (HP.out W0 s (HH.out.below hb0) HS.out).mono ?_
  rintro e W1 ⟨op1, nm1, nd1, wA1, wn1, wc1, kA1, kn1, kc1, rfl, ht1, h1, hg1⟩
  have hs1 := hg1.size
  go_wp2
  go_loopg [9] L.length (fun f v wr => ∃ acc s', Hid (joinGo L x part f acc s' = joinGo L x part L.length [(part s).1] (part s).2) ∧ L.length ≤ f + s'.pos ∧ acc.length + f ≤ L.length + 1 ∧ 0 < acc.length ∧ Hid (K s') ∧ PSt b A n c L ln s' wr ∧ W0.grownBy wr (some b) ∧ RowAt TmAt wr (W0.heap.size ≤ ·) W0.heap.size 32 5 v acc)
  case atStart =>
    refine ⟨[(part s).1], (part s).2, rfl, by omega, by simp; omega, by simp, HK.out s _ HS.out (hgood s HH.out.pos), h1.below ((Below.refl _ _).alloc (Nat.le_refl _) _), grown_alloc hg1 _, ?_⟩
    exact RowAt.one W1 stays_tm rfl rfl hs1 ht1
  case round =>
    obtain ⟨acc, s', hgo, hfu, hal, hac, hks, hPs, hgr, hrow⟩ := hrel
    have hsr := hgr.size
    cases his : isW L x s'
    · have ht := take_any x wr hPs
      rw [his, taken_not his] at ht
      have HT := Lib.hid ht
      rw [joinGo_stop his] at hgo
      clear ht his hPs
      obtain ⟨Av, cv, rfl, hcv, hlist⟩ := hrow.list stays_tm
      go_wp2_with fail
      refine HT.out.mono ?_
      rintro e W2 ⟨rfl, h2, hg2⟩
      have hgr2 := grown_trans hgr hg2
      have hs2 := hgr2.size
      have hl2 : ListAt (TmAt W2 (W0.heap.size ≤ ·)) W2 (W0.heap.size ≤ ·) 5 Av acc := hlist.keep ((kept_grown hg2).mono fun g hg => by omega) (fun _ _ h => h.keep ((kept_grown hg2).mono fun g hg => by omega))
      have hr2 := grown_block hgr2 HR0.out (Nat.ne_of_gt hbs)
      have HR2 := Lib.hid hr2
      obtain ⟨c0, c1, c2, c3, c4, cf⟩ := row5 hr2
      have f0 := cf 0
      have f1 := cf 1
      have f2 := cf 2
      have f3 := cf 3
      have f4 := cf 4
      clear hr2 cf hlist hrow HT
      by_cases hone : acc.length = 1
      · obtain ⟨g, o, op2, nm2, nd2, wA2, wn2, wc2, kA2, kn2, kc2, rfl, hS2, htm, k0, k1, k2, k3, k4⟩ := kid_cells (fun t v h => ⟨_, h⟩) hl2 0 (by omega)
        have q1 : ((acc.length : Int) == 1) = true := natI hone
        have hgR : g ≠ w.heap.size := by omega
        obtain ⟨t0, rfl⟩ : ∃ t0, acc = [t0] := List.length_eq_one_iff.1 hone
        clear hone
        simp only [Nat.zero_mul, Nat.add_zero] at k0 k1 k2 k3 k4
        go_wp2
        obtain ⟨hb5, hg5⟩ := set5 HR2.out (.int .i64 op2) (.string nm2) (.int .i64 nd2) (.slice wA2 wn2 wc2) (.slice kA2 kn2 kc2)
        refine ret_term rfl rfl rfl hb5 ?_
        have e : pJoin L op x part s = (t0, s') := by unfold pJoin; rw [← hgo.out]; rfl
        rw [e]
        refine ⟨_, _, _, _, _, _, _, _, _, rfl, (htm.keep ((kept_grown hg5).mono fun g hg => by omega)).mono (fun g hg _ => by omega), h2.other (below_grown hg5 (Nat.le_refl _) (by omega)) hbs, ?_⟩
        exact grown_from (grown_trans (grown_below hb0) hgr2) (below_grown hg5 (Nat.le_refl _) (by omega)) (Nat.le_refl _)
      · have q1 : ((acc.length : Int) == 1) = false := natNe hone
        go_wp2
        obtain ⟨hb5, hg5⟩ := set5 HR2.out (.int .i64 op) (.string (bs [])) (.int .i64 0) (.slice none 0 0) (.slice Av acc.length cv)
        refine ret_term rfl rfl rfl hb5 ?_
        have e : pJoin L op x part s = (.mk op (bs []) 0 [] acc, s') := by
          unfold pJoin; rw [← hgo.out, joinTm_many hone]
        rw [e]
        refine ⟨_, _, _, _, _, _, _, _, _, rfl, ((tm_list hl2 hcv).keep ((kept_grown hg5).mono fun g hg => by omega)).mono (fun g hg _ => by omega), h2.other (below_grown hg5 (Nat.le_refl _) (by omega)) hbs, ?_⟩
        exact grown_from (grown_trans (grown_below hb0) hgr2) (below_grown hg5 (Nat.le_refl _) (by omega)) (Nat.le_refl _)
    · have ht := take_any x wr hPs
      have hpos := taken_ok his
      have hlt := (isW_ok his).2
      have hk2 := HK.out s' (taken L x s') hks.out (by unfold taken; rw [if_pos his]; exact ahead_adv (isW_ok his))
      rw [his] at ht
      have HT := Lib.hid ht
      have HI := Lib.hid his
      have HPo := Lib.hid hpos
      have HK2 := Lib.hid hk2
      clear ht his hPs hpos hk2
      obtain ⟨f, rfl⟩ : ∃ f, gk = f + 1 := ⟨gk - 1, by omega⟩
      go_wp2_with fail
      refine HT.out.mono ?_
      rintro e W2 ⟨rfl, h2, hg2⟩
      go_wp2_with fail
      refine (HP.out W2 _ h2 HK2.out).mono ?_
      rintro e W3 ⟨op3, nm3, nd3, wA3, wn3, wc3, kA3, kn3, kc3, rfl, ht3, h3, hg3⟩
      have hgr3 := grown_trans (grown_trans hgr hg2) hg3
      have hrow3 := (hrow.grown stays_tm hg2 (by omega) (fun g hg => by omega)).grown stays_tm hg3 (by omega) (fun g hg => by omega)
      have hs2 := hg2.size
      have hs3 := hgr3.size
      obtain ⟨vs3, l3, hown3, hall3⟩ := id hrow3
      go_wp2_with (at_builtin; refine push_term W3 rfl (.tmp 16) (.tmp 19) rfl W0.heap.size _ _ _ hown3 rfl op3 nm3 nd3 wA3 wn3 wc3 kA3 kn3 kc3 rfl (by omega) hs3 ?_; intro v' W4 hown4 hg4 hv4)
      have hb4 := below_own hown3 hg4 hs3
      go_roundg f
      case measure => omega
      case rel =>
        have ha := (hgood _ h2.pos).le
        rw [HPo.out] at ha
        have htm3 : TmAt W3 (fun g => W0.heap.size ≤ g ∧ some g ≠ (Value.ownBlock _)) (part (taken L x s')).1 _ := ht3.mono (fun g hg _ => ⟨by omega, fun e => by
          obtain ⟨vs0, _, hown0, _⟩ := hrow
          have := (hown0.lt g e.symm).2
          omega⟩)
        have hk4 := HK.out _ _ HK2.out (hgood _ h2.pos)
        refine ⟨acc ++ [(part (taken L x s')).1], _, ?_, ?_, ?_, ?_, hk4, h3.other hb4 (by omega), grown_from hgr3 hb4 (Nat.le_refl _), RowAt.push l3 hall3 stays_tm rfl htm3 hown4 hg4 hv4⟩
        · rw [joinGo_step HI.out] at hgo; exact hgo
        · omega
        · rw [List.length_append]; simp; omega
        · simp
end Go.Proofs.YtipicaoinnblpaaGreatDoor
namespace Go.Proofs.YtipicaoinnblpaaGreatDoor
open Go.RowKit

/-- The memory of a threshold that is read: the result's block R, the term's block T, the kids, the weights. -/
structure ThrMem (w : World) (b R T base : Nat) (n : Int) (kids : List Tm) (ws : List Int) (wV kV : Value) (wr : World) : Prop where
  hR : wr.heap[R]? = some (.cells #[.int .i64 0, .string ⟨#[]⟩, .int .i64 0, .slice none 0 0, .slice none 0 0] 32 (0, 0))
  hT : wr.heap[T]? = some (.cells #[.int .i64 2, .string ⟨#[]⟩, .int .i64 n, wV, kV] 32 (0, 0))
  hk : RowAt TmAt wr (fun g => base ≤ g ∧ some g ≠ wV.ownBlock) base 32 5 kV kids
  hw : wr.ownsRow base 3 1 wV ws.length (intVals ws)
  hd : wV.ownBlock = none ∨ wV.ownBlock ≠ kV.ownBlock
  bR : b < R
  RT : R < T
  Tb : T < base
  sz : base ≤ wr.heap.size
  wR : w.heap.size = R
  fr : w.grownBy wr (some b)

section
variable {w : World} {b R T base : Nat} {n : Int} {kids : List Tm} {ws : List Int} {wV kV : Value} {wr wr' : World}
theorem ThrMem.call (h : ThrMem w b R T base n kids ws wV kV wr) (hg : wr.grownBy wr' (some b)) : ThrMem w b R T base n kids ws wV kV wr' where
  hR := grown_block hg h.hR (by have := h.bR; omega)
  hT := grown_block hg h.hT (by have := h.bR; have := h.RT; omega)
  hk := h.hk.grown stays_tm hg (by have := h.bR; have := h.RT; have := h.Tb; omega) (fun g hg => by have := h.bR; have := h.RT; have := h.Tb; omega)
  hw := own_grown h.hw hg (by have := h.bR; have := h.RT; have := h.Tb; omega)
  hd := h.hd
  bR := h.bR
  RT := h.RT
  Tb := h.Tb
  sz := Nat.le_trans h.sz hg.size
  wR := h.wR
  fr := grown_trans h.fr hg
/-- A kid appended to the list, which is not stored yet. -/
structure KidMem (w : World) (b R T base : Nat) (n : Int) (kids : List Tm) (ws : List Int) (wV kV kV' : Value) (wr : World) : Prop where
  hR : wr.heap[R]? = some (.cells #[.int .i64 0, .string ⟨#[]⟩, .int .i64 0, .slice none 0 0, .slice none 0 0] 32 (0, 0))
  hT : wr.heap[T]? = some (.cells #[.int .i64 2, .string ⟨#[]⟩, .int .i64 n, wV, kV] 32 (0, 0))
  hk : RowAt TmAt wr (fun g => base ≤ g ∧ some g ≠ wV.ownBlock) base 32 5 kV' kids
  hw : wr.ownsRow base 3 1 wV ws.length (intVals ws)
  hd : wV.ownBlock = none ∨ wV.ownBlock ≠ kV'.ownBlock
  bR : b < R
  RT : R < T
  Tb : T < base
  sz : base ≤ wr.heap.size
  wR : w.heap.size = R
  fr : w.grownBy wr (some b)
theorem ThrMem.drew (h : ThrMem w b R T base n kids ws wV kV wr) : ThrMem w b R T base n kids ws wV kV wr.drew := h.call (grown_below (Below.refl _ _).drew)
/-- The blocks below the base stay while a row of the call's own is written. -/
theorem low_kept {Wa W5 : World} {v : Value} {g m e size : Nat} {xs : List Value} {o : Obj} (hg : Wa.grownBy W5 v.ownBlock) (hown : Wa.ownsRow base e size v m xs) (hb : g < base) (h : Wa.heap[g]? = some o) : W5.heap[g]? = some o :=
  (hg.block g (lt_of_block h) (fun e => by have := (hown.lt g e.symm).1; omega)).trans h
theorem ThrMem.push {W4 W5 : World} {o : Obj} {v' u : Value} {t : Tm} {vs news : List Value} {S : Nat → Prop} (h : ThrMem w b R T base n kids ws wV kV W4) (l : vs.length = kids.length) (hn : cellsOf u = news)
    (hall : ∀ (i : Nat) (x : Tm) (u : Value), kids[i]? = some x → vs[i]? = some u → TmAt W4 (fun g => (base ≤ g ∧ some g ≠ wV.ownBlock) ∧ some g ≠ kV.ownBlock) x u)
    (ht : TmAt W4 S t u) (hnew : ∀ g, S g → base ≤ g ∧ some g ≠ wV.ownBlock ∧ some g ≠ kV.ownBlock)
    (hown : W5.ownsRow base 32 5 v' (kids.length + 1) (vs.flatMap cellsOf ++ news)) (hg : (W4.alloc o).grownBy W5 kV.ownBlock) (hv : v'.ownBlock = kV.ownBlock ∨ v'.ownBlock = some (W4.alloc o).heap.size) :
    KidMem w b R T base n (kids ++ [t]) ws wV kV v' W5 := by
  have hga : W4.grownBy W5 kV.ownBlock := grown_trans (grown_below ((Below.refl _ _).alloc (Nat.le_refl _) o)) hg
  obtain ⟨vs0, l0, hown0, _⟩ := h.hk
  refine ⟨low_kept hga hown0 (by have := h.RT; have := h.Tb; omega) h.hR, low_kept hga hown0 h.Tb h.hT, ?_, ?_, ?_, h.bR, h.RT, h.Tb, Nat.le_trans h.sz hga.size, h.wR, ?_⟩
  · exact RowAt.push l hall stays_tm hn (ht.mono (fun g hg _ => ⟨⟨(hnew g hg).1, (hnew g hg).2.1⟩, (hnew g hg).2.2⟩)) hown hga (by simpa using hv)
  · refine own_kept h.hw (fun g e => hga.block g (h.hw.lt g e).2 (fun e2 => ?_))
    rcases h.hd with hd | hd
    · rw [hd] at e; simp at e
    · exact hd (by rw [e, e2])
  · rcases h.hd with hd | hd
    · exact Or.inl hd
    · right
      intro e
      rcases hv with hv | hv
      · exact hd (by rw [e, hv])
      · rw [hv] at e
        have := (h.hw.lt _ e).2
        simp at this
        omega
  · refine ⟨hga.os.trans h.fr.os, hga.tape.trans h.fr.tape, hga.output.trans h.fr.output, Nat.le_trans h.fr.size hga.size, fun g hg1 hne => ?_⟩
    rw [hga.block g (Nat.lt_of_lt_of_le hg1 h.fr.size) (fun e => by have := (hown0.lt g e.symm).1; have := h.wR; have := h.RT; have := h.Tb; omega)]
    exact h.fr.block g hg1 hne
theorem KidMem.store {kV' : Value} (h : KidMem w b R T base n kids ws wV kV kV' wr) : ThrMem w b R T base n kids ws wV kV' (wr.setCell ⟨T, 4, none⟩ kV') := by
  have hg : wr.grownBy (wr.setCell ⟨T, 4, none⟩ kV') (some T) := grown_set (grown_refl _ _) _ _
  refine ⟨grown_block hg h.hR (by have := h.RT; omega), row_set h.hT _, h.hk.grown stays_tm hg h.Tb (fun g hg => by have := h.Tb; omega), own_grown h.hw hg h.Tb, h.hd, h.bR, h.RT, h.Tb, ?_, h.wR, ?_⟩
  · exact Nat.le_trans h.sz hg.size
  · exact grown_from h.fr (below_grown hg (Nat.le_refl _) (by have := h.Tb; have := h.sz; omega)) (by have := h.wR; have := h.RT; omega)
theorem ThrMem.weigh {W7 W8 : World} {wV' : Value} {x : Int} (h : ThrMem w b R T base n kids ws wV kV W7) (hown : W8.ownsRow base 3 1 wV' (ws.length + 1) (intVals ws ++ [.int .i64 x])) (hg : W7.grownBy W8 wV.ownBlock) (hv : wV'.ownBlock = wV.ownBlock ∨ wV'.ownBlock = some (W7.heap.size + 1)) :
    W8.heap[T]? = some (.cells #[.int .i64 2, .string ⟨#[]⟩, .int .i64 n, wV, kV] 32 (0, 0)) ∧ ThrMem w b R T base n kids (ws ++ [x]) wV' kV (W8.setCell ⟨T, 3, none⟩ wV') := by
  have hT8 := low_kept hg h.hw h.Tb h.hT
  have hR8 := low_kept hg h.hw (by have := h.RT; have := h.Tb; omega) h.hR
  have hg8 : W8.grownBy (W8.setCell ⟨T, 3, none⟩ wV') (some T) := grown_set (grown_refl _ _) _ _
  have hk8 : RowAt TmAt W8 (fun g => base ≤ g ∧ some g ≠ wV'.ownBlock) base 32 5 kV kids := by
    have h1 : RowAt TmAt W7 (fun g => (base ≤ g ∧ some g ≠ wV'.ownBlock) ∧ some g ≠ wV.ownBlock) base 32 5 kV kids := h.hk.mono stays_tm (fun g hg1 hg2 => ⟨⟨hg1.1, fun e => by
      rcases hv with hv | hv
      · exact hg1.2 (by rw [e, hv])
      · rw [hv] at e; injection e; omega⟩, hg1.2⟩)
    refine (h1.keep stays_tm (fun g hg1 hg2 => hg.block g hg2 hg1.2) (fun g e => hg.block g (h.hk.lt g e).2 (fun e2 => ?_))).mono stays_tm (fun g hg1 _ => hg1.1)
    rcases h.hd with hd | hd
    · rw [hd] at e2; simp at e2
    · exact hd (by rw [e, e2])
  refine ⟨hT8, grown_block hg8 hR8 (by have := h.RT; omega), row_set hT8 _, hk8.grown stays_tm hg8 h.Tb (fun g hg => by have := h.Tb; omega), ?_, ?_, h.bR, h.RT, h.Tb, ?_, h.wR, ?_⟩
  · have := own_grown hown hg8 h.Tb
    rw [intVals_snoc, List.length_append]; exact this
  · by_cases e : wV'.ownBlock = kV.ownBlock
    · rcases hv with hv | hv
      · rcases h.hd with hd | hd
        · exact Or.inl (by rw [hv, hd])
        · exact absurd (by rw [← hv, e]) hd
      · have := (h.hk.lt (W7.heap.size + 1) (by rw [← e, hv])).2
        omega
    · exact Or.inr e
  · exact Nat.le_trans (Nat.le_trans h.sz hg.size) hg8.size
  · refine grown_from ⟨hg.os.trans h.fr.os, hg.tape.trans h.fr.tape, hg.output.trans h.fr.output, Nat.le_trans h.fr.size hg.size, fun g hg1 hne => ?_⟩ (below_grown hg8 (Nat.le_refl _) (by have := h.Tb; have := h.sz; have := hg.size; omega)) (by have := h.wR; have := h.RT; omega)
    rw [hg.block g (Nat.lt_of_lt_of_le hg1 h.fr.size) (fun e => by have := (h.hw.lt g e.symm).1; have := h.wR; have := h.RT; have := h.Tb; omega)]
    exact h.fr.block g hg1 hne
/-- The term, with its weights or without. -/
theorem ThrMem.tm (h : ThrMem w b R T base n kids ws wV kV wr) (heavy : Bool) (_hl : ws.length = kids.length) : ∃ wA wn wc kA kc, (bif heavy then wV else .slice none 0 0) = .slice wA wn wc ∧ kV = .slice kA kids.length kc ∧
    TmAt wr (base ≤ ·) (.mk 2 (bs []) n (if heavy then ws else []) kids) (.agg #[.int .i64 2, .string (bs []), .int .i64 n, .slice wA wn wc, .slice kA kids.length kc]) := by
  obtain ⟨kA, kc, rfl, hkc, vs, h1, h2, h3⟩ := h.hk.list stays_tm
  obtain ⟨wA, wc, hwV, hwc⟩ := own_slice h.hw
  cases heavy
  · exact ⟨none, 0, 0, kA, kc, rfl, rfl, .mk 2 (bs []) n [] kids none kA 0 kc vs (.empty _ _ _ _) (Nat.le_refl _) h2 hkc h1 (fun i t v ht hv => (h3 i t v ht hv).mono (fun g hg _ => hg.1))⟩
  · refine ⟨wA, ws.length, wc, kA, kc, hwV, rfl, .mk 2 (bs []) n ws kids wA kA wc kc vs (SeesIn.own (e := 3) (c := wc) ?_) hwc h2 hkc h1 (fun i t v ht hv => (h3 i t v ht hv).mono (fun g hg _ => hg.1))⟩
    have := h.hw
    rw [hwV] at this
    exact this
theorem thrGo_err {L : Toks} {pt : St → Tm × St} {f : Nat} {r : Thr} {s : St} (h : s.err ≠ 0) : thrGo L pt f r s = (r, s) := by
  cases f with
  | zero => rfl
  | succ f => rw [thrGo, if_neg h]
theorem thrGo_more {L : Toks} {pt : St → Tm × St} {f : Nat} {r : Thr} {s : St} (h : s.err = 0) (h2 : isW L (⟨#[44]⟩ : ByteArray) (thrBody L pt r s).2 = true) : thrGo L pt (f + 1) r s = thrGo L pt f (thrBody L pt r s).1 (taken L (⟨#[44]⟩ : ByteArray) (thrBody L pt r s).2) := by
  rw [thrGo, if_pos h, if_pos h2]; unfold taken; rw [if_pos h2]
theorem thrGo_end {L : Toks} {pt : St → Tm × St} {f : Nat} {r : Thr} {s : St} (h : s.err = 0) (h2 : isW L (⟨#[44]⟩ : ByteArray) (thrBody L pt r s).2 = false) : thrGo L pt (f + 1) r s = thrBody L pt r s := by
  rw [thrGo, if_pos h, h2]; rfl
theorem thrBody_star {L : Toks} {pt : St → Tm × St} {r : Thr} {s : St} (h : isW L (⟨#[42]⟩ : ByteArray) (pt s).2 = true) : thrBody L pt r s = (⟨r.kids ++ [(pt s).1], r.ws ++ [(pNum L (taken L (⟨#[42]⟩ : ByteArray) (pt s).2)).1], true⟩, (pNum L (taken L (⟨#[42]⟩ : ByteArray) (pt s).2)).2) := by
  unfold thrBody taken; rw [if_pos h, if_pos h]
theorem thrBody_plain {L : Toks} {pt : St → Tm × St} {r : Thr} {s : St} (h : isW L (⟨#[42]⟩ : ByteArray) (pt s).2 = false) : thrBody L pt r s = (⟨r.kids ++ [(pt s).1], r.ws ++ [1], r.heavy⟩, (pt s).2) := by
  unfold thrBody; rw [h]; rfl
theorem ahead_taken {L : Toks} {x : ByteArray} {s : St} (h : s.pos ≤ L.length) : Ahead L s (taken L x s) := by
  unfold taken
  split
  · rename_i hw; exact ahead_adv (isW_ok hw)
  · exact .refl h
end

set_option maxRecDepth 100000 in
set_option maxHeartbeats 4000000 in
theorem thr_any {b : Nat} {A : Option Addr} {n c : Nat} {L : Toks} {ln : Nat → Nat} (pt : St → Tm × St) (K : St → Prop) (hK : ∀ s t, K s → Ahead L s t → K t) (hgood : Good L pt)
    (hpart : ∀ (w : World) (s : St), PSt b A n c L ln s w → K s → Calls Tryz.prog 39 #[.pointer (some ⟨b, 0, none⟩)] w (TPost b A n c L ln w (pt s)))
    {s : St} (w : World) (h : PSt b A n c L ln s w) (hs : K (pNum L s).2) :
    Calls Tryz.prog 158 #[.pointer (some ⟨b, 0, none⟩)] w (TPost b A n c L ln w (pThr L pt s)) := by
  have hbs := h.lt
  have hfew := h.few
  have HH := Lib.hid h
  have HP := Lib.hid hpart
  have HK := Lib.hid hK
  have HS := Lib.hid hs
  clear h hpart hK hs
  go_enter Tryz.func158, Tryz.ntmps158
  go_wp2_with fail
  obtain ⟨W0, hW0⟩ : ∃ W0 : World, W0 = w.alloc (.cells #[.int .i64 0, .string ⟨#[]⟩, .int .i64 0, .slice none 0 0, .slice none 0 0] 32) := ⟨_, rfl⟩
  have hb0 : Below w.heap.size w W0 := by rw [hW0]; exact (Below.refl _ _).alloc (Nat.le_refl _) _
  have hs0 : W0.heap.size = w.heap.size + 1 := by rw [hW0]; simp
  have hr0 : W0.heap[w.heap.size]? = some (.cells #[.int .i64 0, .string ⟨#[]⟩, .int .i64 0, .slice none 0 0, .slice none 0 0] 32 (0, 0)) := by rw [hW0]; exact heap_alloc_new w _
  rw [← hW0]
  have HS0 := Lib.hid hs0
  have HR0 := Lib.hid hr0
  have hlt0 : w.heap.size < W0.heap.size := by omega
  clear hW0 hs0 hr0
  refine (number_any W0 (HH.out.below hb0)).mono ?_
  rintro e W1 ⟨rfl, h1, hg1⟩
  have hs1 := hg1.size
  obtain ⟨nn, hnn⟩ : ∃ nn, nn = (pNum L s).1 := ⟨_, rfl⟩
  rw [← hnn]
  have HNN := Lib.hid hnn
  clear hnn
  go_wp2_with fail
  obtain ⟨W2, hW2⟩ : ∃ W2 : World, W2 = W1.alloc (.cells #[.int .i64 2, .string ⟨#[]⟩, .int .i64 nn, .slice none 0 0, .slice none 0 0] 32) := ⟨_, rfl⟩
  have hb2 : Below W1.heap.size W1 W2 := by rw [hW2]; exact (Below.refl _ _).alloc (Nat.le_refl _) _
  have hr2 : W2.heap[W1.heap.size]? = some (.cells #[.int .i64 2, .string ⟨#[]⟩, .int .i64 nn, .slice none 0 0, .slice none 0 0] 32 (0, 0)) := by rw [hW2]; exact heap_alloc_new W1 _
  have hs2 : W2.heap.size = W1.heap.size + 1 := by rw [hW2]; simp
  rw [← hW2]
  have HR2 := Lib.hid hr2
  have HS2 := Lib.hid hs2
  have hlt2 : W1.heap.size < W2.heap.size := by omega
  clear hW2 hr2 hs2
  refine (need_any (⟨#[40]⟩ : ByteArray) _ ((h1.below hb2).below ((Below.refl _ _).alloc (Nat.le_refl _) _)) (by have := heap_alloc_new W2 (.cells #[.string (⟨#[40]⟩ : ByteArray)] 9); rw [HS2.out] at this; exact this) (by omega)).mono ?_
  rintro e W3 ⟨rfl, h3, hg3⟩
  have hs3 := hg3.size
  have hgw3 : w.grownBy W3 (some b) := grown_trans (grown_trans (grown_trans (grown_below hb0) hg1) (grown_below hb2)) (grown_trans (grown_alloc (grown_refl W2 (some b)) _) hg3)
  have hm3 : ThrMem w b w.heap.size W1.heap.size W3.heap.size nn [] [] (.slice none 0 0) (.slice none 0 0) W3 :=
    { hR := grown_block hg3 (by rw [heap_alloc_old (h := by omega)]; exact (hb2.block _ (by omega)).trans (grown_block hg1 HR0.out (by omega))) (by omega)
      hT := grown_block hg3 (by rw [heap_alloc_old (h := by omega)]; exact HR2.out) (by omega)
      hk := RowAt.nil _ _ _ _ _
      hw := World.ownsRow_nil _ _ _ _
      hd := Or.inl rfl
      bR := hbs
      RT := by omega
      Tb := by have := hs3; simp at this; omega
      sz := Nat.le_refl _
      wR := rfl
      fr := hgw3 }
  have hk3 := HK.out _ _ HS.out (ahead_need (⟨#[40]⟩ : ByteArray) h1.pos)
  go_wp2
  go_loopg [4, 5] (L.length + 1) (fun f hv mv wr => ∃ (r : Thr) (s' : St) (more : Bool) (wV kV : Value), hv = .bool r.heavy ∧ mv = .bool more ∧ Hid ((bif more then thrGo L pt f r s' else (r, s')) = thrGo L pt (L.length + 1) ⟨[], [], false⟩ (need L (⟨#[40]⟩ : ByteArray) (pNum L s).2)) ∧ (more = true → L.length + 1 ≤ f + s'.pos) ∧ r.kids.length + f ≤ L.length + 1 ∧ r.ws.length = r.kids.length ∧ Hid (K s') ∧ PSt b A n c L ln s' wr ∧ ThrMem w b w.heap.size W1.heap.size W3.heap.size nn r.kids r.ws wV kV wr)
  case atStart => exact ⟨⟨[], [], false⟩, _, true, _, _, rfl, rfl, rfl, fun _ => by omega, by simp, rfl, hk3, h3, hm3⟩
  case round =>
    obtain ⟨r, s', more, wV, kV, rfl, rfl, hgo, hfu, hal, hlw, hks, hPs, hm⟩ := hrel
    obtain ⟨l, hl, -⟩ := hPs.blk
    obtain ⟨c0, c1, c2, c3, -⟩ := row4 hl
    clear hl
    cases more
    · have hgoE : Hid ((r, s') = thrGo L pt (L.length + 1) ⟨[], [], false⟩ (need L (⟨#[40]⟩ : ByteArray) (pNum L s).2)) := hgo
      clear hgo
      obtain ⟨W4, hW4⟩ : ∃ W4 : World, W4 = wr.alloc (.cells #[.string (⟨#[41]⟩ : ByteArray)] 9) := ⟨_, rfl⟩
      have hb4 : Below wr.heap.size wr W4 := by rw [hW4]; exact (Below.refl _ _).alloc (Nat.le_refl _) _
      have hn4 : W4.heap[wr.heap.size]? = some (.cells #[.string (⟨#[41]⟩ : ByteArray)] 9 (0, 0)) := by rw [hW4]; exact heap_alloc_new wr _
      have HC4 := Lib.hid (need_any (⟨#[41]⟩ : ByteArray) W4 (hPs.below hb4) hn4 (by have := hm.sz; have := hm.Tb; omega))
      have hm4 := hm.call (grown_below hb4)
      have hlw2 := hlw
      clear hn4 c0 c1 c3 hm hPs hfu hlw
      go_wp2_with fail
      rw [← hW4]
      clear hW4
      refine HC4.out.mono ?_
      rintro e W5 ⟨rfl, h5, hg5⟩
      have hm5 := hm4.call hg5
      have hs5 := hm5.sz
      have hTb5 := hm5.Tb
      have hRT5 := hm5.RT
      obtain ⟨wA, wn, wc, kA, kc, hwV, hkV, htm⟩ := hm5.tm r.heavy hlw2
      have hT5 := hm5.hT
      rw [hkV] at hT5
      have hR5 := hm5.hR
      have e1 : pThr L pt s = (.mk 2 (bs []) nn (if r.heavy then r.ws else []) r.kids, need L (⟨#[41]⟩ : ByteArray) s') := by
        unfold pThr
        simp only []
        rw [← hgoE.out, HNN.out]
      have E1 := Lib.hid e1
      have hfr5 := hm5.fr
      have hbR := hm5.bR
      clear hm4 hm5 hgoE hks hkV e1 HC4
      cases hh : r.heavy
      · rw [hh] at hwV
        simp only [cond_false] at hwV
        obtain ⟨rfl, rfl, rfl⟩ : none = wA ∧ 0 = wn ∧ 0 = wc := by injection hwV with a b c; exact ⟨a, b, c⟩
        obtain ⟨t0, t1, t2, t3, t4, tf⟩ := row5 hT5
        obtain ⟨r0, r1, r2, r3, r4, rf⟩ := row5 hR5
        have tf3 := tf 3
        have rf0 := rf 0
        have rf1 := rf 1
        have rf2 := rf 2
        have rf3 := rf 3
        have rf4 := rf 4
        clear tf rf hh hwV
        go_wp2
        have hg6 : W5.grownBy (W5.setCell ⟨W1.heap.size, 3, none⟩ (.slice none 0 0)) (some W1.heap.size) := grown_set (grown_refl _ _) _ _
        obtain ⟨hb7, hg7⟩ := set5 (grown_block hg6 hR5 (by omega)) (.int .i64 2) (.string (bs [])) (.int .i64 nn) (.slice none 0 0) (.slice kA r.kids.length kc)
        refine ret_term rfl rfl rfl hb7 ?_
        rw [E1.out]
        exact ⟨_, _, _, _, _, _, _, _, _, rfl, ((htm.keep ((kept_grown hg6).mono fun g hg => by omega)).keep ((kept_grown hg7).mono fun g hg => by omega)).mono (fun g hg _ => by omega), (h5.other (below_grown hg6 (Nat.le_refl _) (by omega)) (by omega)).other (below_grown hg7 (Nat.le_refl _) (by have := hg6.size; omega)) (by omega),
          grown_from (grown_from hfr5 (below_grown hg6 (Nat.le_refl _) (by omega)) (by omega)) (below_grown hg7 (Nat.le_refl _) (by have := hg6.size; omega)) (by omega)⟩
      · rw [hh] at hwV
        simp only [cond_true] at hwV
        rw [hwV] at hT5
        obtain ⟨t0, t1, t2, t3, t4, tf⟩ := row5 hT5
        obtain ⟨r0, r1, r2, r3, r4, rf⟩ := row5 hR5
        have rf0 := rf 0
        have rf1 := rf 1
        have rf2 := rf 2
        have rf3 := rf 3
        have rf4 := rf 4
        clear tf rf hh hwV
        go_wp2
        obtain ⟨hb7, hg7⟩ := set5 hR5 (.int .i64 2) (.string (bs [])) (.int .i64 nn) (.slice wA wn wc) (.slice kA r.kids.length kc)
        refine ret_term rfl rfl rfl hb7 ?_
        rw [E1.out]
        exact ⟨_, _, _, _, _, _, _, _, _, rfl, (htm.keep ((kept_grown hg7).mono fun g hg => by omega)).mono (fun g hg _ => by omega), h5.other (below_grown hg7 (Nat.le_refl _) (by omega)) (by omega),
          grown_from hfr5 (below_grown hg7 (Nat.le_refl _) (by omega)) (by omega)⟩
    · by_cases he : s'.err = 0
      · have q0 : (((s'.err : Nat) : Int) == 0) = true := natI he
        obtain ⟨t0, t1, t2, t3, t4, tf⟩ := row5 hm.hT
        have tf4 := tf 4
        have hsz := hm.sz
        have hTs := hm.Tb
        have HE := Lib.hid he
        have HLW := Lib.hid hlw
        have hfu1 := hfu rfl
        have hwl : r.ws.length ≤ 100001 := by omega
        have hps := hPs.pos
        obtain ⟨f, rfl⟩ : ∃ f, gk = f + 1 := ⟨gk - 1, by omega⟩
        have HGO : Hid (thrGo L pt (f + 1) r s' = thrGo L pt (L.length + 1) ⟨[], [], false⟩ (need L (⟨#[40]⟩ : ByteArray) (pNum L s).2)) := hgo
        clear tf he hlw hfu hgo
        obtain ⟨vs3, l3, hown3, hall3⟩ := id hm.hk
        have hnew : ∀ g, wr.heap.size ≤ g → W3.heap.size ≤ g ∧ some g ≠ wV.ownBlock ∧ some g ≠ kV.ownBlock := fun g hg => ⟨by omega, fun e => by have := (hm.hw.lt g e.symm).2; omega, fun e => by have := (hown3.lt g e.symm).2; omega⟩
        have HALL := Lib.hid (show ∀ (i : Nat) (x : Tm) (u : Value), r.kids[i]? = some x → vs3[i]? = some u → TmAt wr.drew (fun g => (W3.heap.size ≤ g ∧ some g ≠ wV.ownBlock) ∧ some g ≠ kV.ownBlock) x u from fun i x u hx hu => (hall3 i x u hx hu).keep (kept_all (Below.refl _ _).drew))
        have HNEW := Lib.hid hnew
        clear hall3 hnew
        go_wp2
        go_region_law (first | ((refine step_term _ rfl (.tmp 24) (.tmp 27) rfl W3.heap.size _ _ _ (World.ownsRow.alloc (own_grown hown3.drew hgx (by omega)) _) rfl _ 1 _ _ _ _ _ _ _ _ _ (heap_alloc_new _ _) rfl (by omega) (by simp <;> omega) ?_); intro v' W5 hown5 hg5 hv5; obtain ⟨Av5, cv5, rfl, hcv5⟩ := own_slice hown5; have hm5 := hm4.push l3 rfl hall4 ht4 hnew4 hown5 hg5 hv5; obtain ⟨-, -, -, -, u5, uf⟩ := row5 hm5.hT; have uf5 := uf 4; clear uf) | (go_simp; go_at_call 39; refine (HP.out _ s' (hPs.below (Below.refl _ _).drew) hks.out).mono ?_; rintro e W4 ⟨op4, nm4, nd4, wA4, wn4, wc4, kA4, kn4, kc4, rfl, ht4, h4, hgx⟩; have hsx : wr.heap.size ≤ W4.heap.size := hgx.size; have hT4 : W1.heap.size < W4.heap.size := (by omega); have hm4 := hm.drew.call hgx; obtain ⟨-, -, -, -, u4, uf⟩ := row5 hm4.hT; clear uf; have hall4 := fun i x u hx hu => TmAt.keep (HALL.out i x u hx hu) ((kept_grown hgx).mono fun g hg => by omega); have hnew4 : ∀ g, wr.drew.heap.size ≤ g → W3.heap.size ≤ g ∧ some g ≠ wV.ownBlock ∧ some g ≠ kV.ownBlock := fun g hg => HNEW.out g hg))
        all_goals
          have hm6 := hm5.store
          have h6 : PSt b A n c L ln (pt s').2 (W5.setCell ⟨W1.heap.size, 4, none⟩ (.slice Av5 (r.kids.length + 1) cv5)) :=
            ((h4.below ((Below.refl _ _).alloc (Nat.le_refl _) _)).other (below_own (World.ownsRow.alloc (own_grown hown3.drew hgx (by omega)) _) hg5 (by simp <;> omega)) (by omega)).other (below_grown (grown_set (grown_refl _ _) _ _) (Nat.le_refl _) (by have := hm5.sz; omega)) (by omega)
          clear hown5 hg5 hv5 u4 u5 uf5 hm4 hm5 hall4 hnew4 ht4 h4 hcv5 hT4 hgx hsx c0 c1 c2 c3 t0 t1 t2 t3 t4 tf4
          obtain ⟨W6, hW6⟩ : ∃ W6 : World, W6 = W5.setCell ⟨W1.heap.size, 4, none⟩ (.slice Av5 (r.kids.length + 1) cv5) := ⟨_, rfl⟩
          rw [← hW6] at hm6 h6 ⊢
          clear hW6
          go_wp2_with fail
          cases hst : isW L (⟨#[42]⟩ : ByteArray) (pt s').2
          · have ht := take_any (⟨#[42]⟩ : ByteArray) W6 h6
            rw [hst, taken_not hst] at ht
            refine ht.mono ?_
            rintro e W8 ⟨rfl, h8, hg8⟩
            have hm8 := hm6.call hg8
            have HKn := Lib.hid (HK.out _ _ hks.out (hgood s' hPs.pos))
            have HAh := Lib.hid (hgood s' hPs.pos).le
            have HST := Lib.hid hst
            clear ht hst hm6 h6
            obtain ⟨t0, t1, t2, t3, t4, tf⟩ := row5 hm8.hT
            have tf3 := tf 3
            have hs8 := hm8.sz
            have hT8 : W1.heap.size < W8.heap.size := by omega
            clear tf
            go_wp2_with (at_builtin; refine push_int W8 rfl (.tmp 35) (.tmp 37) rfl W3.heap.size _ _ _ hm8.hw rfl (1) rfl (by omega) hs8 ?_; intro wV' W9 hown9 hg9 hv9; obtain ⟨Aw9, cw9, rfl, hcw9⟩ := own_slice hown9; obtain ⟨hT9, hm9⟩ := hm8.weigh hown9 hg9 hv9; obtain ⟨-, -, -, y3, -, yf⟩ := row5 hT9; have yf3 := yf 3; clear yf)
            have h10 : PSt b A n c L ln (pt s').2 (W9.setCell ⟨W1.heap.size, 3, none⟩ (.slice Aw9 (r.ws.length + 1) cw9)) :=
              (h8.other (below_own hm8.hw hg9 hs8) (by omega)).other (below_grown (grown_set (grown_refl _ _) _ _) (Nat.le_refl _) (by have := hg9.size; omega)) (by omega)
            have hbody := thrBody_plain (r := r) HST.out
            cases hco : isW L (⟨#[44]⟩ : ByteArray) ((pt s').2)
            · have ht := take_any (⟨#[44]⟩ : ByteArray) _ h10
              rw [hco, taken_not hco] at ht
              refine ht.mono ?_
              rintro e W11 ⟨rfl, h11, hg11⟩
              go_wp2
              go_roundg 0
              case measure => omega
              case rel =>
                refine ⟨⟨r.kids ++ [(pt s').1], r.ws ++ [1], r.heavy⟩, _, false, _, _, rfl, rfl, ?_, fun e => by simp at e, ?_, by simp [HLW.out], ?_, h11, hm9.call hg11⟩
                · have hgo2 := HGO.out
                  rw [thrGo_end HE.out (by rw [hbody]; exact hco), hbody] at hgo2
                  exact hgo2
                · simp; omega
                · exact HKn.out
            · have ht := take_any (⟨#[44]⟩ : ByteArray) _ h10
              have hpo := taken_ok hco
              rw [hco] at ht
              refine ht.mono ?_
              rintro e W11 ⟨rfl, h11, hg11⟩
              go_wp2
              go_roundg f
              case measure => omega
              case rel =>
                refine ⟨⟨r.kids ++ [(pt s').1], r.ws ++ [1], r.heavy⟩, _, true, _, _, rfl, rfl, ?_, fun _ => ?_, ?_, by simp [HLW.out], ?_, h11, hm9.call hg11⟩
                · have hgo2 := HGO.out
                  rw [thrGo_more HE.out (by rw [hbody]; exact hco), hbody] at hgo2
                  exact hgo2
                · rw [hpo]; have := HAh.out; omega
                · simp; omega
                · exact HK.out _ _ HKn.out (ahead_taken h8.pos)
          · have ht := take_any (⟨#[42]⟩ : ByteArray) W6 h6
            have hah := (hgood s' hPs.pos).trans (ahead_taken (x := (⟨#[42]⟩ : ByteArray)) (hgood s' hPs.pos).fit)
            have hah2 := hah.trans (ahead_num hah.fit)
            rw [hst] at ht
            refine ht.mono ?_
            rintro e W7 ⟨rfl, h7, hg7⟩
            have HKn := Lib.hid (HK.out _ _ hks.out hah2)
            have HAh := Lib.hid hah2.le
            have HST := Lib.hid hst
            clear ht hst h6 hah hah2
            go_wp2_with fail
            refine (number_any W7 h7).mono ?_
            rintro e W8 ⟨rfl, h8, hg8⟩
            have hm8 := (hm6.call hg7).call hg8
            clear hm6
            obtain ⟨t0, t1, t2, t3, t4, tf⟩ := row5 hm8.hT
            have tf3 := tf 3
            have hs8 := hm8.sz
            have hT8 : W1.heap.size < W8.heap.size := by omega
            clear tf
            go_wp2_with (at_builtin; refine push_int W8 rfl (.tmp 35) (.tmp 37) rfl W3.heap.size _ _ _ hm8.hw rfl ((pNum L (taken L (⟨#[42]⟩ : ByteArray) (pt s').2)).1) rfl (by omega) hs8 ?_; intro wV' W9 hown9 hg9 hv9; obtain ⟨Aw9, cw9, rfl, hcw9⟩ := own_slice hown9; obtain ⟨hT9, hm9⟩ := hm8.weigh hown9 hg9 hv9; obtain ⟨-, -, -, y3, -, yf⟩ := row5 hT9; have yf3 := yf 3; clear yf)
            have h10 : PSt b A n c L ln (pNum L (taken L (⟨#[42]⟩ : ByteArray) (pt s').2)).2 (W9.setCell ⟨W1.heap.size, 3, none⟩ (.slice Aw9 (r.ws.length + 1) cw9)) :=
              (h8.other (below_own hm8.hw hg9 hs8) (by omega)).other (below_grown (grown_set (grown_refl _ _) _ _) (Nat.le_refl _) (by have := hg9.size; omega)) (by omega)
            have hbody := thrBody_star (r := r) HST.out
            cases hco : isW L (⟨#[44]⟩ : ByteArray) ((pNum L (taken L (⟨#[42]⟩ : ByteArray) (pt s').2)).2)
            · have ht := take_any (⟨#[44]⟩ : ByteArray) _ h10
              rw [hco, taken_not hco] at ht
              refine ht.mono ?_
              rintro e W11 ⟨rfl, h11, hg11⟩
              go_wp2
              go_roundg 0
              case measure => omega
              case rel =>
                refine ⟨⟨r.kids ++ [(pt s').1], r.ws ++ [(pNum L (taken L (⟨#[42]⟩ : ByteArray) (pt s').2)).1], true⟩, _, false, _, _, rfl, rfl, ?_, fun e => by simp at e, ?_, by simp [HLW.out], ?_, h11, hm9.call hg11⟩
                · have hgo2 := HGO.out
                  rw [thrGo_end HE.out (by rw [hbody]; exact hco), hbody] at hgo2
                  exact hgo2
                · simp; omega
                · exact HKn.out
            · have ht := take_any (⟨#[44]⟩ : ByteArray) _ h10
              have hpo := taken_ok hco
              rw [hco] at ht
              refine ht.mono ?_
              rintro e W11 ⟨rfl, h11, hg11⟩
              go_wp2
              go_roundg f
              case measure => omega
              case rel =>
                refine ⟨⟨r.kids ++ [(pt s').1], r.ws ++ [(pNum L (taken L (⟨#[42]⟩ : ByteArray) (pt s').2)).1], true⟩, _, true, _, _, rfl, rfl, ?_, fun _ => ?_, ?_, by simp [HLW.out], ?_, h11, hm9.call hg11⟩
                · have hgo2 := HGO.out
                  rw [thrGo_more HE.out (by rw [hbody]; exact hco), hbody] at hgo2
                  exact hgo2
                · rw [hpo]; have := HAh.out; omega
                · simp; omega
                · exact HK.out _ _ HKn.out (ahead_taken h8.pos)
      · have q0 : (((s'.err : Nat) : Int) == 0) = false := natNe he
        have hgoE : Hid ((r, s') = thrGo L pt (L.length + 1) ⟨[], [], false⟩ (need L (⟨#[40]⟩ : ByteArray) (pNum L s).2)) := by
          have := hgo.out
          rw [cond_true, thrGo_err he] at this
          exact this
        clear hgo he
        obtain ⟨W4, hW4⟩ : ∃ W4 : World, W4 = wr.alloc (.cells #[.string (⟨#[41]⟩ : ByteArray)] 9) := ⟨_, rfl⟩
        have hb4 : Below wr.heap.size wr W4 := by rw [hW4]; exact (Below.refl _ _).alloc (Nat.le_refl _) _
        have hn4 : W4.heap[wr.heap.size]? = some (.cells #[.string (⟨#[41]⟩ : ByteArray)] 9 (0, 0)) := by rw [hW4]; exact heap_alloc_new wr _
        have HC4 := Lib.hid (need_any (⟨#[41]⟩ : ByteArray) W4 (hPs.below hb4) hn4 (by have := hm.sz; have := hm.Tb; omega))
        have hm4 := hm.call (grown_below hb4)
        have hlw2 := hlw
        clear hn4 c0 c1 c3 hm hPs hfu hlw
        go_wp2_with fail
        rw [← hW4]
        clear hW4
        refine HC4.out.mono ?_
        rintro e W5 ⟨rfl, h5, hg5⟩
        have hm5 := hm4.call hg5
        have hs5 := hm5.sz
        have hTb5 := hm5.Tb
        have hRT5 := hm5.RT
        obtain ⟨wA, wn, wc, kA, kc, hwV, hkV, htm⟩ := hm5.tm r.heavy hlw2
        have hT5 := hm5.hT
        rw [hkV] at hT5
        have hR5 := hm5.hR
        have e1 : pThr L pt s = (.mk 2 (bs []) nn (if r.heavy then r.ws else []) r.kids, need L (⟨#[41]⟩ : ByteArray) s') := by
          unfold pThr
          simp only []
          rw [← hgoE.out, HNN.out]
        have E1 := Lib.hid e1
        have hfr5 := hm5.fr
        have hbR := hm5.bR
        clear hm4 hm5 hgoE hks hkV e1 HC4
        cases hh : r.heavy
        · rw [hh] at hwV
          simp only [cond_false] at hwV
          obtain ⟨rfl, rfl, rfl⟩ : none = wA ∧ 0 = wn ∧ 0 = wc := by injection hwV with a b c; exact ⟨a, b, c⟩
          obtain ⟨t0, t1, t2, t3, t4, tf⟩ := row5 hT5
          obtain ⟨r0, r1, r2, r3, r4, rf⟩ := row5 hR5
          have tf3 := tf 3
          have rf0 := rf 0
          have rf1 := rf 1
          have rf2 := rf 2
          have rf3 := rf 3
          have rf4 := rf 4
          clear tf rf hh hwV
          go_wp2
          have hg6 : W5.grownBy (W5.setCell ⟨W1.heap.size, 3, none⟩ (.slice none 0 0)) (some W1.heap.size) := grown_set (grown_refl _ _) _ _
          obtain ⟨hb7, hg7⟩ := set5 (grown_block hg6 hR5 (by omega)) (.int .i64 2) (.string (bs [])) (.int .i64 nn) (.slice none 0 0) (.slice kA r.kids.length kc)
          refine ret_term rfl rfl rfl hb7 ?_
          rw [E1.out]
          exact ⟨_, _, _, _, _, _, _, _, _, rfl, ((htm.keep ((kept_grown hg6).mono fun g hg => by omega)).keep ((kept_grown hg7).mono fun g hg => by omega)).mono (fun g hg _ => by omega), (h5.other (below_grown hg6 (Nat.le_refl _) (by omega)) (by omega)).other (below_grown hg7 (Nat.le_refl _) (by have := hg6.size; omega)) (by omega),
            grown_from (grown_from hfr5 (below_grown hg6 (Nat.le_refl _) (by omega)) (by omega)) (below_grown hg7 (Nat.le_refl _) (by have := hg6.size; omega)) (by omega)⟩
        · rw [hh] at hwV
          simp only [cond_true] at hwV
          rw [hwV] at hT5
          obtain ⟨t0, t1, t2, t3, t4, tf⟩ := row5 hT5
          obtain ⟨r0, r1, r2, r3, r4, rf⟩ := row5 hR5
          have rf0 := rf 0
          have rf1 := rf 1
          have rf2 := rf 2
          have rf3 := rf 3
          have rf4 := rf 4
          clear tf rf hh hwV
          go_wp2
          obtain ⟨hb7, hg7⟩ := set5 hR5 (.int .i64 2) (.string (bs [])) (.int .i64 nn) (.slice wA wn wc) (.slice kA r.kids.length kc)
          refine ret_term rfl rfl rfl hb7 ?_
          rw [E1.out]
          exact ⟨_, _, _, _, _, _, _, _, _, rfl, (htm.keep ((kept_grown hg7).mono fun g hg => by omega)).mono (fun g hg _ => by omega), h5.other (below_grown hg7 (Nat.le_refl _) (by omega)) (by omega),
            grown_from hfr5 (below_grown hg7 (Nat.le_refl _) (by omega)) (by omega)⟩
end Go.Proofs.YtipicaoinnblpaaGreatDoor
namespace Go.Proofs.YtipicaoinnblpaaGreatDoor
open Go.RowKit

/-- The facts that a term's reader needs of the terms within. -/
structure Inner (b : Nat) (A : Option Addr) (n c : Nat) (L : Toks) (ln : Nat → Nat) (pt : St → Tm × St) (K : St → Prop) : Prop where
  ahead : ∀ s t, K s → Ahead L s t → K t
  good : Good L pt
  part : ∀ (w : World) (s : St), PSt b A n c L ln s w → K s → Calls Tryz.prog 39 #[.pointer (some ⟨b, 0, none⟩)] w (TPost b A n c L ln w (pt s))
/-- What a factor's state must give for the terms within. -/
def Deep (L : Toks) (K : St → Prop) (s : St) : Prop := s.err = 0 → ∀ t : St, t.pos ≤ L.length → (t.err = 0 → s.pos + 1 ≤ t.pos) → K t
theorem Deep.ahead {L : Toks} {K : St → Prop} {s t : St} (h : Deep L K s) (ha : Ahead L s t) : Deep L K t := fun he u hu hp => h (ha.ok he) u hu (fun e => by have := hp e; have := ha.le; omega)

theorem factor_int {L : Toks} {pt : St → Tm × St} {s : St} (h : isInt L s = true) : pFactor L pt s = pThr L pt s := by unfold pFactor; rw [if_pos h]
theorem factor_paren {L : Toks} {pt : St → Tm × St} {s : St} (h : isInt L s = false) (h2 : isW L (⟨#[40]⟩ : ByteArray) s = true) : pFactor L pt s = ((pt (taken L (⟨#[40]⟩ : ByteArray) s)).1, need L (⟨#[41]⟩ : ByteArray) (pt (taken L (⟨#[40]⟩ : ByteArray) s)).2) := by
  unfold pFactor taken; rw [h, if_neg (by simp), if_pos h2, if_pos h2]
theorem factor_name {L : Toks} {pt : St → Tm × St} {s : St} (h : isInt L s = false) (h2 : isW L (⟨#[40]⟩ : ByteArray) s = false) (h3 : isFun L s = false) : pFactor L pt s = (.named (pName L s).1, (pName L s).2) := by
  unfold pFactor; rw [h, if_neg (by simp), h2, if_neg (by simp), h3, if_neg (by simp)]
theorem int_ahead {L : Toks} {s : St} (h : isInt L s = true) : (pNum L s).2.err = 0 → s.pos + 1 ≤ (pNum L s).2.pos := by
  intro e
  unfold pNum at e ⊢
  rw [if_pos h] at e ⊢
  split at e
  · rename_i h2
    simp only [fails, (isInt_ok h).1, if_pos] at e
    simp at e
  · rename_i h2
    rw [if_neg h2]; exact Nat.le_refl _

theorem function_quiet {x : ByteArray} {r : Int} (hr : (funOp x : Int) = r) (w : World) (k : Nat) :
    Calls Tryz.prog 159 #[.string x] (w.drewN k) fun e w'' => e = .returned (.int .i64 r) ∧ ∃ m, w'' = w.drewN m := by
  subst hr
  exact (function_any x _).mono fun _ _ h => ⟨h.1, k, h.2.symm⟩
theorem isFun_at {L : Toks} {s : St} (h0 : s.err = 0) (hp : s.pos < L.length) : isFun L s = ((L[s.pos]'hp).1.kind == 1 && funOp (L[s.pos]'hp).1.text != 0) := by unfold isFun; rw [tk_at h0 hp]

theorem factor_dual {L : Toks} {pt : St → Tm × St} {s : St} (h : isInt L s = false) (h2 : isW L (⟨#[40]⟩ : ByteArray) s = false) (h3 : isFun L s = true) (h5 : funOp (txt L s) = 5) : pFactor L pt s = (.mk 5 (bs []) 0 [] [(pt (need L (⟨#[40]⟩ : ByteArray) (adv s))).1], need L (⟨#[41]⟩ : ByteArray) (pt (need L (⟨#[40]⟩ : ByteArray) (adv s))).2) := by
  unfold pFactor; rw [h, if_neg (by simp), h2, if_neg (by simp), if_pos h3, if_pos h5]
theorem factor_group {L : Toks} {pt : St → Tm × St} {s : St} (h : isInt L s = false) (h2 : isW L (⟨#[40]⟩ : ByteArray) s = false) (h3 : isFun L s = true) (h5 : funOp (txt L s) ≠ 5) : pFactor L pt s = (.mk (funOp (txt L s)) (pGroup L (need L (⟨#[40]⟩ : ByteArray) (adv s))).1 0 [] [], need L (⟨#[41]⟩ : ByteArray) (pGroup L (need L (⟨#[40]⟩ : ByteArray) (adv s))).2) := by
  unfold pFactor; rw [h, if_neg (by simp), h2, if_neg (by simp), if_pos h3, if_neg h5]

set_option maxRecDepth 100000 in
set_option maxHeartbeats 4000000 in
theorem factor_a {b : Nat} {A : Option Addr} {n c : Nat} {L : Toks} {ln : Nat → Nat} (pt : St → Tm × St) (K : St → Prop) (hin : Inner b A n c L ln pt K)
    {s : St} (w : World) (h : PSt b A n c L ln s w) (hs : Deep L K s) (hi : isInt L s = true) :
    Calls Tryz.prog 130 #[.pointer (some ⟨b, 0, none⟩)] w (TPost b A n c L ln w (pFactor L pt s)) := by
  rw [factor_int hi]
  have hbs := h.lt
  have h00 := (isInt_ok hi).1
  have hk := hs h00 (pNum L s).2 (ahead_num h.pos).fit (int_ahead hi)
  have HH := Lib.hid h
  have HI := Lib.hid hin
  have HK := Lib.hid hk
  have HIN := Lib.hid hi
  clear h hin hk hi hs h00
  go_enter Tryz.func130, Tryz.ntmps130
  go_wp2_with fail
  obtain ⟨W0, hW0⟩ : ∃ W0 : World, W0 = w.alloc (.cells #[.int .i64 0, .string ⟨#[]⟩, .int .i64 0, .slice none 0 0, .slice none 0 0] 32) := ⟨_, rfl⟩
  have hb0 : Below w.heap.size w W0 := by rw [hW0]; exact (Below.refl _ _).alloc (Nat.le_refl _) _
  have hs0 : w.heap.size < W0.heap.size := by rw [hW0]; simp
  have hr0 : W0.heap[w.heap.size]? = some (.cells #[.int .i64 0, .string ⟨#[]⟩, .int .i64 0, .slice none 0 0, .slice none 0 0] 32 (0, 0)) := by rw [hW0]; exact heap_alloc_new w _
  rw [← hW0]
  have HR0 := Lib.hid hr0
  clear hW0 hr0
  have h0 := HH.out.below hb0
  have hI := isInt_any W0 h0
  rw [HIN.out] at hI
  refine hI.mono ?_
  rintro e W1 ⟨rfl, q, hq⟩
  have hb1 : Below W0.heap.size W0 W1 := by rw [hq]; exact below_drewN (Below.refl _ _) _
  have h1 := h0.below hb1
  have hs1 := hb1.size
  clear hq hI
  go_wp2_with fail
  refine (thr_any pt K HI.out.ahead HI.out.good HI.out.part W1 h1 HK.out).mono ?_
  rintro e W2 ⟨op, nm, nd, wA, wn, wc, kA, kn, kc, rfl, htm, h9, hg2⟩
  have hs2 := hg2.size
  have hfr9 : w.grownBy W2 (some b) := grown_trans (grown_below (hb0.trans (hb1.mono (by omega)))) hg2
  have hrW := grown_block hg2 ((hb1.block _ hs0).trans HR0.out) (by omega)
  obtain ⟨r0, r1, r2, r3, r4, rf⟩ := row5 hrW
  have rf0 := rf 0
  have rf1 := rf 1
  have rf2 := rf 2
  have rf3 := rf 3
  have rf4 := rf 4
  have HRW := Lib.hid hrW
  clear rf hrW
  have HTM := Lib.hid htm
  clear htm
  go_wp2
  obtain ⟨hbR, hgR⟩ := set5 HRW.out (.int .i64 op) (.string nm) (.int .i64 nd) (.slice wA wn wc) (.slice kA kn kc)
  refine ret_term rfl rfl rfl hbR ?_
  exact ⟨_, _, _, _, _, _, _, _, _, rfl, (HTM.out.keep ((kept_grown hgR).mono fun g hg => by omega)).mono (fun g hg _ => by omega), h9.other (below_grown hgR (Nat.le_refl _) (by omega)) hbs, grown_from hfr9 (below_grown hgR (Nat.le_refl _) (by omega)) (Nat.le_refl _)⟩

set_option maxRecDepth 100000 in
set_option maxHeartbeats 4000000 in
theorem factor_b {b : Nat} {A : Option Addr} {n c : Nat} {L : Toks} {ln : Nat → Nat} (pt : St → Tm × St) (K : St → Prop) (hin : Inner b A n c L ln pt K)
    {s : St} (w : World) (h : PSt b A n c L ln s w) (hs : Deep L K s) (hi : isInt L s = false) (hp : isW L (⟨#[40]⟩ : ByteArray) s = true) :
    Calls Tryz.prog 130 #[.pointer (some ⟨b, 0, none⟩)] w (TPost b A n c L ln w (pFactor L pt s)) := by
  rw [factor_paren hi hp]
  have hbs := h.lt
  have h00 := (isW_ok hp).1
  have hk := hs h00 (taken L (⟨#[40]⟩ : ByteArray) s) (ahead_taken h.pos).fit (fun _ => by rw [taken_ok hp]; exact Nat.le_refl _)
  have HH := Lib.hid h
  have HI := Lib.hid hin
  have HK := Lib.hid hk
  have HIN := Lib.hid hi
  have HP := Lib.hid hp
  clear h hin hk hi hs h00 hp
  go_enter Tryz.func130, Tryz.ntmps130
  go_wp2_with fail
  obtain ⟨W0, hW0⟩ : ∃ W0 : World, W0 = w.alloc (.cells #[.int .i64 0, .string ⟨#[]⟩, .int .i64 0, .slice none 0 0, .slice none 0 0] 32) := ⟨_, rfl⟩
  have hb0 : Below w.heap.size w W0 := by rw [hW0]; exact (Below.refl _ _).alloc (Nat.le_refl _) _
  have hs0 : w.heap.size < W0.heap.size := by rw [hW0]; simp
  have hr0 : W0.heap[w.heap.size]? = some (.cells #[.int .i64 0, .string ⟨#[]⟩, .int .i64 0, .slice none 0 0, .slice none 0 0] 32 (0, 0)) := by rw [hW0]; exact heap_alloc_new w _
  rw [← hW0]
  have HR0 := Lib.hid hr0
  clear hW0 hr0
  have h0 := HH.out.below hb0
  have hI := isInt_any W0 h0
  rw [HIN.out] at hI
  refine hI.mono ?_
  rintro e W1 ⟨rfl, q, hq⟩
  have hb1 : Below W0.heap.size W0 W1 := by rw [hq]; exact below_drewN (Below.refl _ _) _
  have h1 := h0.below hb1
  have hs1 := hb1.size
  clear hq hI
  go_wp2_with fail
  have ht := take_any (⟨#[40]⟩ : ByteArray) W1 h1
  rw [HP.out] at ht
  refine ht.mono ?_
  rintro e W2 ⟨rfl, h2, hg2⟩
  have hs2 := hg2.size
  clear ht
  go_wp2_with fail
  refine (HI.out.part W2 _ h2 HK.out).mono ?_
  rintro e W3 ⟨op, nm, nd, wA, wn, wc, kA, kn, kc, rfl, htm, h3, hg3⟩
  have hs3 := hg3.size
  go_wp2_with fail
  obtain ⟨W4, hW4⟩ : ∃ W4 : World, W4 = W3.alloc (.cells #[.int .i64 op, .string nm, .int .i64 nd, .slice wA wn wc, .slice kA kn kc] 32) := ⟨_, rfl⟩
  have hb4 : Below W3.heap.size W3 W4 := by rw [hW4]; exact (Below.refl _ _).alloc (Nat.le_refl _) _
  have hr4 : W4.heap[W3.heap.size]? = some (.cells #[.int .i64 op, .string nm, .int .i64 nd, .slice wA wn wc, .slice kA kn kc] 32 (0, 0)) := by rw [hW4]; exact heap_alloc_new W3 _
  have hs4 : W4.heap.size = W3.heap.size + 1 := by rw [hW4]; simp
  rw [← hW4]
  have HS4 := Lib.hid hs4
  have HR4 := Lib.hid hr4
  have hlt4 : W3.heap.size < W4.heap.size := by omega
  clear hW4 hr4 hs4
  refine (need_any (⟨#[41]⟩ : ByteArray) _ ((h3.below hb4).below ((Below.refl _ _).alloc (Nat.le_refl _) _)) (by have := heap_alloc_new W4 (.cells #[.string (⟨#[41]⟩ : ByteArray)] 9); rw [HS4.out] at this; exact this) (by omega)).mono ?_
  rintro e W5 ⟨rfl, h9, hg5⟩
  have hg5' : W4.grownBy W5 (some b) := grown_trans (grown_alloc (grown_refl _ _) _) hg5
  have hs5 := hg5'.size
  have hfr9 : w.grownBy W5 (some b) := grown_trans (grown_trans (grown_trans (grown_trans (grown_below (hb0.trans (hb1.mono (by omega)))) hg2) hg3) (grown_below hb4)) hg5'
  have hrW := grown_block hg5' ((hb4.block _ (by omega)).trans (grown_block hg3 (grown_block hg2 ((hb1.block _ hs0).trans HR0.out) (by omega)) (by omega))) (by omega)
  obtain ⟨t0, t1, t2, t3, t4, tf⟩ := row5 (grown_block hg5' HR4.out (by omega))
  clear tf
  obtain ⟨r0, r1, r2, r3, r4, rf⟩ := row5 hrW
  have rf0 := rf 0
  have rf1 := rf 1
  have rf2 := rf 2
  have rf3 := rf 3
  have rf4 := rf 4
  have HRW := Lib.hid hrW
  clear rf hrW
  have HTM := Lib.hid ((htm.keep (kept_all hb4)).keep ((kept_grown hg5').mono fun g hg => by omega))
  clear htm
  go_wp2
  obtain ⟨hbR, hgR⟩ := set5 HRW.out (.int .i64 op) (.string nm) (.int .i64 nd) (.slice wA wn wc) (.slice kA kn kc)
  refine ret_term rfl rfl rfl hbR ?_
  exact ⟨_, _, _, _, _, _, _, _, _, rfl, (HTM.out.keep ((kept_grown hgR).mono fun g hg => by omega)).mono (fun g hg _ => by omega), h9.other (below_grown hgR (Nat.le_refl _) (by omega)) hbs, grown_from hfr9 (below_grown hgR (Nat.le_refl _) (by omega)) (Nat.le_refl _)⟩

set_option maxRecDepth 100000 in
set_option maxHeartbeats 4000000 in
theorem factor_d {b : Nat} {A : Option Addr} {n c : Nat} {L : Toks} {ln : Nat → Nat} (pt : St → Tm × St) 
    {s : St} (w : World) (h : PSt b A n c L ln s w) (hi : isInt L s = false) (hp : isW L (⟨#[40]⟩ : ByteArray) s = false) (hf : isFun L s = false) :
    Calls Tryz.prog 130 #[.pointer (some ⟨b, 0, none⟩)] w (TPost b A n c L ln w (pFactor L pt s)) := by
  rw [factor_name hi hp hf]
  have hbs := h.lt
  have HH := Lib.hid h
  have HIN := Lib.hid hi
  have HP := Lib.hid hp
  cases hmo : moreB L s
  · have HMO := Lib.hid hmo
    clear h hi hp hf hmo
    go_enter Tryz.func130, Tryz.ntmps130
    go_wp2_with fail
    obtain ⟨W0, hW0⟩ : ∃ W0 : World, W0 = w.alloc (.cells #[.int .i64 0, .string ⟨#[]⟩, .int .i64 0, .slice none 0 0, .slice none 0 0] 32) := ⟨_, rfl⟩
    have hb0 : Below w.heap.size w W0 := by rw [hW0]; exact (Below.refl _ _).alloc (Nat.le_refl _) _
    have hs0 : w.heap.size < W0.heap.size := by rw [hW0]; simp
    have hr0 : W0.heap[w.heap.size]? = some (.cells #[.int .i64 0, .string ⟨#[]⟩, .int .i64 0, .slice none 0 0, .slice none 0 0] 32 (0, 0)) := by rw [hW0]; exact heap_alloc_new w _
    rw [← hW0]
    have HR0 := Lib.hid hr0
    clear hW0 hr0
    have h0 := HH.out.below hb0
    have hI := isInt_any W0 h0
    rw [HIN.out] at hI
    refine hI.mono ?_
    rintro e W1 ⟨rfl, q, hq⟩
    have hb1 : Below W0.heap.size W0 W1 := by rw [hq]; exact below_drewN (Below.refl _ _) _
    have h1 := h0.below hb1
    have hs1 := hb1.size
    clear hq hI
    go_wp2_with fail
    have ht := take_any (⟨#[40]⟩ : ByteArray) W1 h1
    rw [HP.out, taken_not HP.out] at ht
    refine ht.mono ?_
    rintro e W2 ⟨rfl, h2, hg2⟩
    have hs2 := hg2.size
    clear ht
    have HM := Lib.hid (more_quiet h2 HMO.out)
    go_wp2
    go_quiet ((go_at_call 32; exact HM.out _))
    go_wp2_with fail
    have HN := Lib.hid (name_any _ (h2.drewN nq))
    refine HN.out.mono ?_
    rintro e W3 ⟨rfl, h9, hg3⟩
    have hg3' : W2.grownBy W3 (some b) := grown_trans (grown_drewN (grown_refl _ _) _) hg3
    have hs3 := hg3'.size
    have hfr9 : w.grownBy W3 (some b) := grown_trans (grown_trans (grown_below (hb0.trans (hb1.mono (by omega)))) hg2) hg3'
    have hrW := grown_block hg3' (grown_block hg2 ((hb1.block _ hs0).trans HR0.out) (by omega)) (by omega)
    obtain ⟨r0, r1, r2, r3, r4, rf⟩ := row5 hrW
    have rf0 := rf 0
    have rf1 := rf 1
    have rf2 := rf 2
    have rf3 := rf 3
    have rf4 := rf 4
    have HRW := Lib.hid hrW
    clear rf hrW
    have HTM := Lib.hid (TmAt.named W3 (W0.heap.size ≤ ·) 1 (pName L s).1)
    go_wp2
    obtain ⟨hbR, hgR⟩ := set5 HRW.out (.int .i64 1) (.string (pName L s).1) (.int .i64 0) (.slice none 0 0) (.slice none 0 0)
    refine ret_term rfl rfl rfl hbR ?_
    exact ⟨_, _, _, _, _, _, _, _, _, rfl, (HTM.out.keep ((kept_grown hgR).mono fun g hg => by omega)).mono (fun g hg _ => by omega), h9.other (below_grown hgR (Nat.le_refl _) (by omega)) hbs, grown_from hfr9 (below_grown hgR (Nat.le_refl _) (by omega)) (Nat.le_refl _)⟩
  · obtain ⟨h00, hpp⟩ := more_ok hmo
    rw [isFun_at h00 hpp] at hf
    have HMO := Lib.hid hmo
    by_cases hk1 : (L[s.pos]'hpp).1.kind = 1
    · have hfo : (funOp (L[s.pos]'hpp).1.text : Int) = 0 := by
        rw [hk1] at hf
        simp at hf
        omega
      have HFO := Lib.hid hfo
      have HK1 := Lib.hid hk1
      clear h hi hp hf hmo hfo hk1 h00
      go_enter Tryz.func130, Tryz.ntmps130
      go_wp2_with fail
      obtain ⟨W0, hW0⟩ : ∃ W0 : World, W0 = w.alloc (.cells #[.int .i64 0, .string ⟨#[]⟩, .int .i64 0, .slice none 0 0, .slice none 0 0] 32) := ⟨_, rfl⟩
      have hb0 : Below w.heap.size w W0 := by rw [hW0]; exact (Below.refl _ _).alloc (Nat.le_refl _) _
      have hs0 : w.heap.size < W0.heap.size := by rw [hW0]; simp
      have hr0 : W0.heap[w.heap.size]? = some (.cells #[.int .i64 0, .string ⟨#[]⟩, .int .i64 0, .slice none 0 0, .slice none 0 0] 32 (0, 0)) := by rw [hW0]; exact heap_alloc_new w _
      rw [← hW0]
      have HR0 := Lib.hid hr0
      clear hW0 hr0
      have h0 := HH.out.below hb0
      have hI := isInt_any W0 h0
      rw [HIN.out] at hI
      refine hI.mono ?_
      rintro e W1 ⟨rfl, q, hq⟩
      have hb1 : Below W0.heap.size W0 W1 := by rw [hq]; exact below_drewN (Below.refl _ _) _
      have h1 := h0.below hb1
      have hs1 := hb1.size
      clear hq hI
      go_wp2_with fail
      have ht := take_any (⟨#[40]⟩ : ByteArray) W1 h1
      rw [HP.out, taken_not HP.out] at ht
      refine ht.mono ?_
      rintro e W2 ⟨rfl, h2, hg2⟩
      have hs2 := hg2.size
      clear ht
      have HM := Lib.hid (more_quiet h2 HMO.out)
      obtain ⟨g, o, l, rfl, hS, hgs, hbs2, hl, k0, k1, k2, k3, k4, i1, i2, i3⟩ := tok_facts h2 hpp
      have HF := Lib.hid (function_quiet HFO.out)
      rw [HK1.out] at k0
      obtain ⟨c0, c1, c2, c3, cf⟩ := row4 hl
      clear cf hl
      generalize (L[s.pos]'hpp).1.text = tx at k1 HF
      go_wp2
      go_quiet ((first | (go_at_call 32; exact HM.out _) | (go_at_call 159; exact HF.out _ _)))
      go_wp2_with fail
      have HN := Lib.hid (name_any _ (h2.drewN nq))
      refine HN.out.mono ?_
      rintro e W3 ⟨rfl, h9, hg3⟩
      have hg3' : W2.grownBy W3 (some b) := grown_trans (grown_drewN (grown_refl _ _) _) hg3
      have hs3 := hg3'.size
      have hfr9 : w.grownBy W3 (some b) := grown_trans (grown_trans (grown_below (hb0.trans (hb1.mono (by omega)))) hg2) hg3'
      have hrW := grown_block hg3' (grown_block hg2 ((hb1.block _ hs0).trans HR0.out) (by omega)) (by omega)
      obtain ⟨r0, r1, r2, r3, r4, rf⟩ := row5 hrW
      have rf0 := rf 0
      have rf1 := rf 1
      have rf2 := rf 2
      have rf3 := rf 3
      have rf4 := rf 4
      have HRW := Lib.hid hrW
      clear rf hrW
      have HTM := Lib.hid (TmAt.named W3 (W0.heap.size ≤ ·) 1 (pName L s).1)
      go_wp2
      obtain ⟨hbR, hgR⟩ := set5 HRW.out (.int .i64 1) (.string (pName L s).1) (.int .i64 0) (.slice none 0 0) (.slice none 0 0)
      refine ret_term rfl rfl rfl hbR ?_
      exact ⟨_, _, _, _, _, _, _, _, _, rfl, (HTM.out.keep ((kept_grown hgR).mono fun g hg => by omega)).mono (fun g hg _ => by omega), h9.other (below_grown hgR (Nat.le_refl _) (by omega)) hbs, grown_from hfr9 (below_grown hgR (Nat.le_refl _) (by omega)) (Nat.le_refl _)⟩
    · have q1 : (((L[s.pos]'hpp).1.kind : Int) == 1) = false := natNe hk1
      have q2 : (((L[s.pos]'hpp).1.kind : Int) != 1) = true := natNeq hk1
      generalize hkk : (L[s.pos]'hpp).1.kind = kk at q1 q2
      have HKK := Lib.hid hkk
      clear h hi hp hf hmo hk1 h00 hkk
      go_enter Tryz.func130, Tryz.ntmps130
      go_wp2_with fail
      obtain ⟨W0, hW0⟩ : ∃ W0 : World, W0 = w.alloc (.cells #[.int .i64 0, .string ⟨#[]⟩, .int .i64 0, .slice none 0 0, .slice none 0 0] 32) := ⟨_, rfl⟩
      have hb0 : Below w.heap.size w W0 := by rw [hW0]; exact (Below.refl _ _).alloc (Nat.le_refl _) _
      have hs0 : w.heap.size < W0.heap.size := by rw [hW0]; simp
      have hr0 : W0.heap[w.heap.size]? = some (.cells #[.int .i64 0, .string ⟨#[]⟩, .int .i64 0, .slice none 0 0, .slice none 0 0] 32 (0, 0)) := by rw [hW0]; exact heap_alloc_new w _
      rw [← hW0]
      have HR0 := Lib.hid hr0
      clear hW0 hr0
      have h0 := HH.out.below hb0
      have hI := isInt_any W0 h0
      rw [HIN.out] at hI
      refine hI.mono ?_
      rintro e W1 ⟨rfl, q, hq⟩
      have hb1 : Below W0.heap.size W0 W1 := by rw [hq]; exact below_drewN (Below.refl _ _) _
      have h1 := h0.below hb1
      have hs1 := hb1.size
      clear hq hI
      go_wp2_with fail
      have ht := take_any (⟨#[40]⟩ : ByteArray) W1 h1
      rw [HP.out, taken_not HP.out] at ht
      refine ht.mono ?_
      rintro e W2 ⟨rfl, h2, hg2⟩
      have hs2 := hg2.size
      clear ht
      have HM := Lib.hid (more_quiet h2 HMO.out)
      obtain ⟨g, o, l, rfl, hS, hgs, hbs2, hl, k0, k1, k2, k3, k4, i1, i2, i3⟩ := tok_facts h2 hpp
      rw [HKK.out] at k0
      obtain ⟨c0, c1, c2, c3, cf⟩ := row4 hl
      clear cf hl
      go_wp2
      go_quiet ((go_at_call 32; exact HM.out _))
      go_wp2_with fail
      have HN := Lib.hid (name_any _ (h2.drewN nq))
      refine HN.out.mono ?_
      rintro e W3 ⟨rfl, h9, hg3⟩
      have hg3' : W2.grownBy W3 (some b) := grown_trans (grown_drewN (grown_refl _ _) _) hg3
      have hs3 := hg3'.size
      have hfr9 : w.grownBy W3 (some b) := grown_trans (grown_trans (grown_below (hb0.trans (hb1.mono (by omega)))) hg2) hg3'
      have hrW := grown_block hg3' (grown_block hg2 ((hb1.block _ hs0).trans HR0.out) (by omega)) (by omega)
      obtain ⟨r0, r1, r2, r3, r4, rf⟩ := row5 hrW
      have rf0 := rf 0
      have rf1 := rf 1
      have rf2 := rf 2
      have rf3 := rf 3
      have rf4 := rf 4
      have HRW := Lib.hid hrW
      clear rf hrW
      have HTM := Lib.hid (TmAt.named W3 (W0.heap.size ≤ ·) 1 (pName L s).1)
      go_wp2
      obtain ⟨hbR, hgR⟩ := set5 HRW.out (.int .i64 1) (.string (pName L s).1) (.int .i64 0) (.slice none 0 0) (.slice none 0 0)
      refine ret_term rfl rfl rfl hbR ?_
      exact ⟨_, _, _, _, _, _, _, _, _, rfl, (HTM.out.keep ((kept_grown hgR).mono fun g hg => by omega)).mono (fun g hg _ => by omega), h9.other (below_grown hgR (Nat.le_refl _) (by omega)) hbs, grown_from hfr9 (below_grown hgR (Nat.le_refl _) (by omega)) (Nat.le_refl _)⟩
end Go.Proofs.YtipicaoinnblpaaGreatDoor
namespace Go.Proofs.YtipicaoinnblpaaGreatDoor
open Go.RowKit
set_option maxRecDepth 100000 in
set_option maxHeartbeats 4000000 in
theorem factor_c {b : Nat} {A : Option Addr} {n c : Nat} {L : Toks} {ln : Nat → Nat} (pt : St → Tm × St) (K : St → Prop) (hin : Inner b A n c L ln pt K)
    {s : St} (w : World) (h : PSt b A n c L ln s w) (hs : Deep L K s) (hi : isInt L s = false) (hp : isW L (⟨#[40]⟩ : ByteArray) s = false) (hf : isFun L s = true) :
    Calls Tryz.prog 130 #[.pointer (some ⟨b, 0, none⟩)] w (TPost b A n c L ln w (pFactor L pt s)) := by
  have hbs := h.lt
  obtain ⟨h00, hpp⟩ := isFun_ok hf
  have hmo := more_mk h00 hpp
  have hat := isFun_at h00 hpp
  rw [hf] at hat
  have hk1 : (L[s.pos]'hpp).1.kind = 1 := by
    have := hat.symm
    simp at this
    exact this.1
  have hfo : (funOp (L[s.pos]'hpp).1.text : Int) = (funOp (txt L s) : Int) := by rw [txt_at h00 hpp]
  have hne : funOp (txt L s) ≠ 0 := by
    have := hat.symm
    simp at this
    rw [txt_at h00 hpp]; exact this.2
  have HH := Lib.hid h
  have HIN := Lib.hid hi
  have HP := Lib.hid hp
  have HMO := Lib.hid hmo
  have HFO := Lib.hid hfo
  have HK1 := Lib.hid hk1
  have HF0 := Lib.hid hf
  have H00 := Lib.hid h00
  have HI := Lib.hid hin
  have HD := Lib.hid hs
  generalize hop : funOp (txt L s) = fo at hne HFO
  have HOP := Lib.hid hop
  have qz : ((fo : Int) == 0) = false := natNe hne
  clear h hin hs hi hp hf hmo hfo hk1 h00 hat hop hne
  go_enter Tryz.func130, Tryz.ntmps130
  go_wp2_with fail
  obtain ⟨W0, hW0⟩ : ∃ W0 : World, W0 = w.alloc (.cells #[.int .i64 0, .string ⟨#[]⟩, .int .i64 0, .slice none 0 0, .slice none 0 0] 32) := ⟨_, rfl⟩
  have hb0 : Below w.heap.size w W0 := by rw [hW0]; exact (Below.refl _ _).alloc (Nat.le_refl _) _
  have hs0 : w.heap.size < W0.heap.size := by rw [hW0]; simp
  have hr0 : W0.heap[w.heap.size]? = some (.cells #[.int .i64 0, .string ⟨#[]⟩, .int .i64 0, .slice none 0 0, .slice none 0 0] 32 (0, 0)) := by rw [hW0]; exact heap_alloc_new w _
  rw [← hW0]
  have HR0 := Lib.hid hr0
  clear hW0 hr0
  have h0 := HH.out.below hb0
  have hI := isInt_any W0 h0
  rw [HIN.out] at hI
  refine hI.mono ?_
  rintro e W1 ⟨rfl, q, hq⟩
  have hb1 : Below W0.heap.size W0 W1 := by rw [hq]; exact below_drewN (Below.refl _ _) _
  have h1 := h0.below hb1
  have hs1 := hb1.size
  clear hq hI
  go_wp2_with fail
  have ht := take_any (⟨#[40]⟩ : ByteArray) W1 h1
  rw [HP.out, taken_not HP.out] at ht
  refine ht.mono ?_
  rintro e W2 ⟨rfl, h2, hg2⟩
  have hs2 := hg2.size
  clear ht
  have HM := Lib.hid (more_quiet h2 HMO.out)
  obtain ⟨g, o, l, rfl, hS, hgs, hbs2, hl, k0, k1, k2, k3, k4, i1, i2, i3⟩ := tok_facts h2 hpp
  have HF := Lib.hid (function_quiet HFO.out)
  rw [HK1.out] at k0
  obtain ⟨c0, c1, c2, c3, cf⟩ := row4 hl
  clear cf hl
  generalize htx : (L[s.pos]'hpp).1.text = tx at k1 HF
  have HTX := Lib.hid htx
  clear htx
  go_wp2
  go_quiet ((first | (go_at_call 32; exact HM.out _) | (go_at_call 159; exact HF.out _ _)))
  obtain ⟨W3, hW3⟩ : ∃ W3 : World, W3 = W2.drewN nq := ⟨_, rfl⟩
  have hb3 : Below W2.heap.size W2 W3 := by rw [hW3]; exact below_drewN (Below.refl _ _) _
  have h3 := h2.below hb3
  have hs3 := hb3.size
  rw [← hW3]
  clear hW3 c0 c1 c2 c3 k0 k1 k2 k3 k4
  obtain ⟨g', o', l, hA', hS', hgs', hbs', hl, k0, k1, k2, k3, k4, j1, j2, j3⟩ := tok_facts h3 hpp
  obtain ⟨rfl, rfl⟩ : g = g' ∧ o = o' := by injection hA' with e; injection e with e1 e2; exact ⟨e1, e2⟩
  rw [HTX.out] at k1
  obtain ⟨c0, c1, c2, c3, cf⟩ := row4 hl
  have HL := Lib.hid hl
  have f1 := cf 1
  have HF2 : Hid (∀ W : World, Calls Tryz.prog 159 #[.string tx] W fun e w' => e = .returned (.int .i64 (fo : Int)) ∧ W = w') := by
    intro W
    have := function_any tx W
    rw [← HTX.out, HFO.out, HTX.out] at this
    exact this
  clear hl cf k0 k2 k3 k4 c2 c3 hA' j1 j2 j3
  go_wp2_with fail

  go_region_held3 (fun w' => w'.cell? ⟨b, 0, none⟩ = some (.slice (some ⟨g, o, none⟩) n c) ∧ w'.cell? ⟨b, 1, none⟩ = some (.int .i64 s.pos) ∧ w'.cell? ⟨g, o + s.pos * 5 + 1, none⟩ = some (.string tx)) (go_keep) ((go_at_call 159; refine (HF2.out _).mono ?_; rintro e w' ⟨rfl, rfl⟩))
  all_goals
    obtain ⟨W4, hW4⟩ : ∃ W4 : World, W4 = (W3.setCell ⟨b, 1, none⟩ (.int .i64 ((s.pos : Int) + 1))).alloc (.cells #[.int .i64 (fo : Int), .string ⟨#[]⟩, .int .i64 0, .slice none 0 0, .slice none 0 0] 32) := ⟨_, rfl⟩
    have hg4a : W3.grownBy (W3.setCell ⟨b, 1, none⟩ (.int .i64 ((s.pos : Int) + 1))) (some b) := grown_set (grown_refl _ _) _ _
    have hg4 : W3.grownBy W4 (some b) := by rw [hW4]; exact grown_alloc hg4a _
    have h4 : PSt b (some ⟨g, o, none⟩) n c L ln (adv s) W4 := by rw [hW4]; exact (h3.adv H00.out hpp (row_set HL.out _) hg4a).below ((Below.refl _ _).alloc (Nat.le_refl _) _)
    have hs4 : W4.heap.size = W3.heap.size + 1 := by rw [hW4]; simp
    have hT4 : W4.heap[W3.heap.size]? = some (.cells #[.int .i64 (fo : Int), .string ⟨#[]⟩, .int .i64 0, .slice none 0 0, .slice none 0 0] 32 (0, 0)) := by
      rw [hW4]
      have := heap_alloc_new (W3.setCell ⟨b, 1, none⟩ (.int .i64 ((s.pos : Int) + 1))) (.cells #[.int .i64 (fo : Int), .string ⟨#[]⟩, .int .i64 0, .slice none 0 0, .slice none 0 0] 32)
      simpa using this
    have HS4 := Lib.hid hs4
    have HT4 := Lib.hid hT4
    have hlt4 : W3.heap.size < W4.heap.size := by omega
    go_wp2_with fail
    rw [← hW4]
    clear hW4 hT4 hs4 c0 c1 k1 f1
    refine (need_any (⟨#[40]⟩ : ByteArray) _ ((h4.below ((Below.refl _ _).alloc (Nat.le_refl _) _)).below (Below.refl _ _).drew) (by have := heap_alloc_new W4 (.cells #[.string (⟨#[40]⟩ : ByteArray)] 9); rw [HS4.out] at this; exact this) (by omega)).mono ?_
    rintro e W5 ⟨rfl, h5, hg5⟩
    have hg5' : W4.grownBy W5 (some b) := grown_trans (grown_trans (grown_alloc (grown_refl _ _) _) (grown_below (Below.refl _ _).drew)) hg5
    have hs5 := hg5'.size
    have hT5 := grown_block hg5' HT4.out (by omega)
    have hfr5 : w.grownBy W5 (some b) := grown_trans (grown_trans (grown_trans (grown_trans (grown_below (hb0.trans (hb1.mono (by omega)))) hg2) (grown_below hb3)) hg4) hg5'
    have hR5 := grown_block hg5' (grown_block hg4 ((hb3.block _ (by omega)).trans (grown_block hg2 ((hb1.block _ hs0).trans HR0.out) (by omega))) (by omega)) (by omega)
    have hn5 : (need L (⟨#[40]⟩ : ByteArray) (adv s)).err = 0 → s.pos + 1 ≤ (need L (⟨#[40]⟩ : ByteArray) (adv s)).pos := fun _ => (ahead_need (⟨#[40]⟩ : ByteArray) h4.pos).le
    clear hg5
    obtain ⟨t0, t1, t2, t3, t4, tf⟩ := row5 hT5
    by_cases h5d : fo = 5
    · have q5 : ((fo : Int) == 5) = true := natI h5d
      have hk5 := HD.out H00.out _ h5.pos hn5
      have tf4 := tf 4
      clear tf
      have e1 : pFactor L pt s = (.mk (fo : Int) (bs []) 0 [] [(pt (need L (⟨#[40]⟩ : ByteArray) (adv s))).1], need L (⟨#[41]⟩ : ByteArray) (pt (need L (⟨#[40]⟩ : ByteArray) (adv s))).2) := by
        rw [factor_dual HIN.out HP.out HF0.out (HOP.out.trans h5d), h5d]; rfl
      have E1 := Lib.hid e1
      clear e1 h5d
      go_wp2_with fail
      refine (HI.out.part W5 _ h5 hk5).mono ?_
      rintro e W6 ⟨op, nm, nd, wA, wn, wc, kA, kn, kc, rfl, htm, h6, hg6⟩
      have hs6 := hg6.size
      have hT6 := grown_block hg6 hT5 (by omega)
      clear t0 t1 t2 t3 t4 tf4
      obtain ⟨t0, t1, t2, t3, t4, tf⟩ := row5 hT6
      have tf4 := tf 4
      have hT6s := lt_of_block hT6
      have HT6 := Lib.hid hT6
      clear tf hT6 hT5
      obtain ⟨Wx, hWx⟩ : ∃ Wx : World, Wx = W6.setCell ⟨W3.heap.size, 4, none⟩ (.slice (some ⟨W6.heap.size, 0, none⟩) 1 1) := ⟨_, rfl⟩
      have hgx : W6.grownBy Wx (some W3.heap.size) := by rw [hWx]; exact grown_set (grown_refl _ _) _ _
      have hsx : Wx.heap.size = W6.heap.size := by rw [hWx]; simp
      have hTx : Wx.heap[W3.heap.size]? = some (.cells #[.int .i64 (fo : Int), .string ⟨#[]⟩, .int .i64 0, .slice none 0 0, .slice (some ⟨W6.heap.size, 0, none⟩) 1 1] 32 (0, 0)) := by rw [hWx]; exact row_set HT6.out _
      have htx := htm.keep ((kept_grown hgx).mono fun g hg => by omega)
      have hrow : RowAt TmAt (Wx.alloc (.cells #[.int .i64 op, .string nm, .int .i64 nd, .slice wA wn wc, .slice kA kn kc] 32)) (W5.heap.size ≤ ·) Wx.heap.size 32 5 (.slice (some ⟨Wx.heap.size, 0, none⟩) 1 1) [(pt (need L (⟨#[40]⟩ : ByteArray) (adv s))).1] := RowAt.one Wx stays_tm rfl rfl (Nat.le_refl _) htx
      rw [hsx] at hrow
      obtain ⟨Ak, ck, hAk, hck, hlist⟩ := hrow.list stays_tm
      obtain ⟨rfl, rfl⟩ : some ⟨W6.heap.size, 0, none⟩ = Ak ∧ 1 = ck := by injection hAk with a b c; exact ⟨a, c⟩
      have htmk := tm_list (op := (fo : Int)) (hlist.mono (S' := (W5.heap.size ≤ ·)) (fun g hg _ => by omega) (by decide) (fun _ _ h => h)) hck
      have HTK := Lib.hid htmk
      have HSX := Lib.hid hsx
      have hxle : W6.heap.size ≤ Wx.heap.size := by omega
      clear hrow hAk hlist hck htmk htm hsx htx
      go_wp2_with fail
      rw [← hWx]
      obtain ⟨W8, hW8⟩ : ∃ W8 : World, W8 = Wx.alloc (.cells #[.int .i64 op, .string nm, .int .i64 nd, .slice wA wn wc, .slice kA kn kc] 32) := ⟨_, rfl⟩
      have hb8 : Below Wx.heap.size Wx W8 := by rw [hW8]; exact (Below.refl _ _).alloc (Nat.le_refl _) _
      have hs8 : W8.heap.size = W6.heap.size + 1 := by rw [hW8]; simp [HSX.out]
      rw [← hW8] at HTK ⊢
      clear hW8 hWx
      have h8 := (h6.other (below_grown hgx (Nat.le_refl _) (by omega)) (by omega)).below hb8
      have hT8 := (hb8.block _ (by omega)).trans hTx
      have hR8 := (hb8.block _ (by omega)).trans (grown_block hgx (grown_block hg6 hR5 (by omega)) (by omega))
      have hfr8 : w.grownBy W8 (some b) := grown_trans (grown_from (grown_trans hfr5 hg6) (below_grown hgx (Nat.le_refl _) (by omega)) (by omega)) (grown_below hb8)
      have hn8 := heap_alloc_new W8 (.cells #[.string (⟨#[41]⟩ : ByteArray)] 9)
      rw [hs8] at hn8
      have HN8 := Lib.hid hn8
      have hs8' : W6.heap.size < W8.heap.size := by omega
      clear hn8 hs8 t0 t1 t2 t3 t4 tf4
      refine (need_any (⟨#[41]⟩ : ByteArray) _ (h8.below ((Below.refl _ _).alloc (Nat.le_refl _) _)) HN8.out (by omega)).mono ?_
      rintro e W9 ⟨rfl, h9, hg9⟩
      have hg9' : W8.grownBy W9 (some b) := grown_trans (grown_alloc (grown_refl _ _) _) hg9
      have hs9 := hg9'.size
      have hfr9 : w.grownBy W9 (some b) := grown_trans hfr8 hg9'
      have hrW := grown_block hg9' hR8 (by omega)
      obtain ⟨t0, t1, t2, t3, t4, tf⟩ := row5 (grown_block hg9' hT8 (by omega))
      clear tf
      obtain ⟨r0, r1, r2, r3, r4, rf⟩ := row5 hrW
      have rf0 := rf 0
      have rf1 := rf 1
      have rf2 := rf 2
      have rf3 := rf 3
      have rf4 := rf 4
      have HRW := Lib.hid hrW
      clear rf hrW
      have HTM := Lib.hid (HTK.out.keep ((kept_grown hg9').mono fun g hg => by omega))
      go_wp2
      obtain ⟨hbR, hgR⟩ := set5 HRW.out (.int .i64 (fo : Int)) (.string (bs [])) (.int .i64 0) (.slice none 0 0) (.slice (some ⟨W6.heap.size, 0, none⟩) 1 1)
      refine ret_term rfl rfl rfl hbR ?_
      rw [E1.out]
      exact ⟨_, _, _, _, _, _, _, _, _, rfl, (HTM.out.keep ((kept_grown hgR).mono fun g hg => by omega)).mono (fun g hg _ => by omega), h9.other (below_grown hgR (Nat.le_refl _) (by omega)) hbs, grown_from hfr9 (below_grown hgR (Nat.le_refl _) (by omega)) (Nat.le_refl _)⟩
    · have q5 : ((fo : Int) == 5) = false := natNe h5d
      have e1 := factor_group (pt := pt) HIN.out HP.out HF0.out (by rw [HOP.out]; exact h5d)
      rw [HOP.out] at e1
      have E1 := Lib.hid e1
      have tf1 := tf 1
      clear e1 h5d tf
      go_wp2_with fail
      have ht := take_any (⟨#[115, 101, 114, 118, 101, 114, 115]⟩ : ByteArray) W5 h5
      cases hsv : isW L (⟨#[115, 101, 114, 118, 101, 114, 115]⟩ : ByteArray) (need L (⟨#[40]⟩ : ByteArray) (adv s))
      · rw [hsv, taken_not hsv] at ht
        refine ht.mono ?_
        rintro e W6 ⟨rfl, h6, hg6⟩
        have eg : pGroup L (need L (⟨#[40]⟩ : ByteArray) (adv s)) = pName L (need L (⟨#[40]⟩ : ByteArray) (adv s)) := by unfold pGroup; rw [hsv]; rfl
        rw [eg] at E1
        clear ht hsv eg
        go_wp2_with fail
        refine (name_any W6 h6).mono ?_
        rintro e W7 ⟨rfl, h7, hg7⟩
        have hg7' : W5.grownBy W7 (some b) := grown_trans hg6 hg7
        have hs7 := hg7'.size
        have hT7 := grown_block hg7' hT5 (by omega)
        have hR7 := grown_block hg7' hR5 (by omega)
        have hfr7 := grown_trans hfr5 hg7'
        obtain ⟨nm, hnm⟩ : ∃ nm, nm = (pName L (need L (⟨#[40]⟩ : ByteArray) (adv s))).1 := ⟨_, rfl⟩
        rw [← hnm] at E1 ⊢
        clear hnm
        clear t0 t1 t2 t3 t4 tf1
        obtain ⟨t0, t1, t2, t3, t4, tf⟩ := row5 hT7
        have tf1 := tf 1
        have hT7s := lt_of_block hT7
        clear tf
        obtain ⟨W8, hW8⟩ : ∃ W8 : World, W8 = W7.setCell ⟨W3.heap.size, 1, none⟩ (.string nm) := ⟨_, rfl⟩
        have hgx : W7.grownBy W8 (some W3.heap.size) := by rw [hW8]; exact grown_set (grown_refl _ _) _ _
        have hs8 : W8.heap.size = W7.heap.size := by rw [hW8]; simp
        have hT8 : W8.heap[W3.heap.size]? = some (.cells #[.int .i64 (fo : Int), .string nm, .int .i64 0, .slice none 0 0, .slice none 0 0] 32 (0, 0)) := by rw [hW8]; exact row_set hT7 _
        have h8 := h7.other (below_grown hgx (Nat.le_refl _) (by omega)) (by omega)
        have hR8 := grown_block hgx hR7 (by omega)
        have hfr8 := grown_from hfr7 (below_grown hgx (Nat.le_refl _) (by omega)) (by omega)
        have hn8 := heap_alloc_new W8 (.cells #[.string (⟨#[41]⟩ : ByteArray)] 9)
        rw [hs8] at hn8
        have HN8 := Lib.hid hn8
        have hs8' : W7.heap.size ≤ W8.heap.size := by omega
        clear hn8 hs8 hT7
        go_wp2_with fail
        rw [← hW8]
        clear hW8 t0 t1 t2 t3 t4 tf1
        refine (need_any (⟨#[41]⟩ : ByteArray) _ (h8.below ((Below.refl _ _).alloc (Nat.le_refl _) _)) HN8.out (by omega)).mono ?_
        rintro e W9 ⟨rfl, h9, hg9⟩
        have hg9' : W8.grownBy W9 (some b) := grown_trans (grown_alloc (grown_refl _ _) _) hg9
        have hs9 := hg9'.size
        have hfr9 : w.grownBy W9 (some b) := grown_trans hfr8 hg9'
        have hrW := grown_block hg9' hR8 (by omega)
        obtain ⟨t0, t1, t2, t3, t4, tf⟩ := row5 (grown_block hg9' hT8 (by omega))
        clear tf
        obtain ⟨r0, r1, r2, r3, r4, rf⟩ := row5 hrW
        have rf0 := rf 0
        have rf1 := rf 1
        have rf2 := rf 2
        have rf3 := rf 3
        have rf4 := rf 4
        have HRW := Lib.hid hrW
        clear rf hrW
        have HTM := Lib.hid (TmAt.named W9 (W5.heap.size ≤ ·) (fo : Int) nm)
        go_wp2
        obtain ⟨hbR, hgR⟩ := set5 HRW.out (.int .i64 (fo : Int)) (.string nm) (.int .i64 0) (.slice none 0 0) (.slice none 0 0)
        refine ret_term rfl rfl rfl hbR ?_
        rw [E1.out]
        exact ⟨_, _, _, _, _, _, _, _, _, rfl, (HTM.out.keep ((kept_grown hgR).mono fun g hg => by omega)).mono (fun g hg _ => by omega), h9.other (below_grown hgR (Nat.le_refl _) (by omega)) hbs, grown_from hfr9 (below_grown hgR (Nat.le_refl _) (by omega)) (Nat.le_refl _)⟩
      · rw [hsv] at ht
        refine ht.mono ?_
        rintro e W7 ⟨rfl, h7, hg7'⟩
        obtain ⟨nm, hnm⟩ : ∃ nm, nm = (⟨#[115, 101, 114, 118, 101, 114, 115]⟩ : ByteArray) := ⟨_, rfl⟩
        have eg : pGroup L (need L (⟨#[40]⟩ : ByteArray) (adv s)) = (nm, taken L (⟨#[115, 101, 114, 118, 101, 114, 115]⟩ : ByteArray) (need L (⟨#[40]⟩ : ByteArray) (adv s))) := by rw [hnm]; unfold pGroup taken; rw [hsv]; rfl
        rw [eg] at E1
        clear ht hsv eg
        have hs7 := hg7'.size
        have hT7 := grown_block hg7' hT5 (by omega)
        have hR7 := grown_block hg7' hR5 (by omega)
        have hfr7 := grown_trans hfr5 hg7'
        have HNM := Lib.hid hnm
        clear hnm
        clear t0 t1 t2 t3 t4 tf1
        obtain ⟨t0, t1, t2, t3, t4, tf⟩ := row5 hT7
        have tf1 := tf 1
        have hT7s := lt_of_block hT7
        clear tf
        obtain ⟨W8, hW8⟩ : ∃ W8 : World, W8 = W7.setCell ⟨W3.heap.size, 1, none⟩ (.string nm) := ⟨_, rfl⟩
        have hgx : W7.grownBy W8 (some W3.heap.size) := by rw [hW8]; exact grown_set (grown_refl _ _) _ _
        have hs8 : W8.heap.size = W7.heap.size := by rw [hW8]; simp
        have hT8 : W8.heap[W3.heap.size]? = some (.cells #[.int .i64 (fo : Int), .string nm, .int .i64 0, .slice none 0 0, .slice none 0 0] 32 (0, 0)) := by rw [hW8]; exact row_set hT7 _
        have h8 := h7.other (below_grown hgx (Nat.le_refl _) (by omega)) (by omega)
        have hR8 := grown_block hgx hR7 (by omega)
        have hfr8 := grown_from hfr7 (below_grown hgx (Nat.le_refl _) (by omega)) (by omega)
        have hn8 := heap_alloc_new W8 (.cells #[.string (⟨#[41]⟩ : ByteArray)] 9)
        rw [hs8] at hn8
        have HN8 := Lib.hid hn8
        have hs8' : W7.heap.size ≤ W8.heap.size := by omega
        rw [HNM.out] at hW8
        clear hn8 hs8 hT7
        go_wp2_with fail
        rw [← hW8]
        clear hW8 t0 t1 t2 t3 t4 tf1
        refine (need_any (⟨#[41]⟩ : ByteArray) _ (h8.below ((Below.refl _ _).alloc (Nat.le_refl _) _)) HN8.out (by omega)).mono ?_
        rintro e W9 ⟨rfl, h9, hg9⟩
        have hg9' : W8.grownBy W9 (some b) := grown_trans (grown_alloc (grown_refl _ _) _) hg9
        have hs9 := hg9'.size
        have hfr9 : w.grownBy W9 (some b) := grown_trans hfr8 hg9'
        have hrW := grown_block hg9' hR8 (by omega)
        obtain ⟨t0, t1, t2, t3, t4, tf⟩ := row5 (grown_block hg9' hT8 (by omega))
        clear tf
        obtain ⟨r0, r1, r2, r3, r4, rf⟩ := row5 hrW
        have rf0 := rf 0
        have rf1 := rf 1
        have rf2 := rf 2
        have rf3 := rf 3
        have rf4 := rf 4
        have HRW := Lib.hid hrW
        clear rf hrW
        have HTM := Lib.hid (TmAt.named W9 (W5.heap.size ≤ ·) (fo : Int) nm)
        go_wp2
        obtain ⟨hbR, hgR⟩ := set5 HRW.out (.int .i64 (fo : Int)) (.string nm) (.int .i64 0) (.slice none 0 0) (.slice none 0 0)
        refine ret_term rfl rfl rfl hbR ?_
        rw [E1.out]
        exact ⟨_, _, _, _, _, _, _, _, _, rfl, (HTM.out.keep ((kept_grown hgR).mono fun g hg => by omega)).mono (fun g hg _ => by omega), h9.other (below_grown hgR (Nat.le_refl _) (by omega)) hbs, grown_from hfr9 (below_grown hgR (Nat.le_refl _) (by omega)) (Nat.le_refl _)⟩
end Go.Proofs.YtipicaoinnblpaaGreatDoor
namespace Go.Proofs.YtipicaoinnblpaaGreatDoor
open Go.RowKit

theorem factor_any {b : Nat} {A : Option Addr} {n c : Nat} {L : Toks} {ln : Nat → Nat} (pt : St → Tm × St) (K : St → Prop) (hin : Inner b A n c L ln pt K)
    {s : St} (w : World) (h : PSt b A n c L ln s w) (hs : Deep L K s) :
    Calls Tryz.prog 130 #[.pointer (some ⟨b, 0, none⟩)] w (TPost b A n c L ln w (pFactor L pt s)) := by
  cases hi : isInt L s
  · cases hp : isW L (⟨#[40]⟩ : ByteArray) s
    · cases hf : isFun L s
      · exact factor_d pt w h hi hp hf
      · exact factor_c pt K hin w h hs hi hp hf
    · exact factor_b pt K hin w h hs hi hp
  · exact factor_a pt K hin w h hs hi

set_option maxRecDepth 100000 in
set_option maxHeartbeats 4000000 in
theorem conj_any {b : Nat} {A : Option Addr} {n c : Nat} {L : Toks} {ln : Nat → Nat} (pt : St → Tm × St) (K : St → Prop) (hin : Inner b A n c L ln pt K)
    {s : St} (w : World) (h : PSt b A n c L ln s w) (hs : Deep L K s) :
    Calls Tryz.prog 79 #[.pointer (some ⟨b, 0, none⟩)] w (TPost b A n c L ln w (pConj L pt s)) := by
  have hbs := h.lt
  have HH := Lib.hid h
  have HS := Lib.hid hs
  have HC := Lib.hid (fun (W : World) (hW : PSt b A n c L ln s W) => joined_any 130 (enters_of Tryz.func130 (by kernel_rfl) rfl) (pFactor L pt) (Deep L K) (fun s t h ha => h.ahead ha) (good_factor hin.good) (fun W s hP hd => factor_any pt K hin W hP hd) 3 (⟨#[38]⟩ : ByteArray) W hW hs)
  clear h hs hin
  go_enter Tryz.func79, Tryz.ntmps79
  go_wp2_with fail
  obtain ⟨W0, hW0⟩ : ∃ W0 : World, W0 = w.alloc (.cells #[.int .i64 0, .string ⟨#[]⟩, .int .i64 0, .slice none 0 0, .slice none 0 0] 32) := ⟨_, rfl⟩
  have hb0 : Below w.heap.size w W0 := by rw [hW0]; exact (Below.refl _ _).alloc (Nat.le_refl _) _
  have hs0 : w.heap.size < W0.heap.size := by rw [hW0]; simp
  have hr0 : W0.heap[w.heap.size]? = some (.cells #[.int .i64 0, .string ⟨#[]⟩, .int .i64 0, .slice none 0 0, .slice none 0 0] 32 (0, 0)) := by rw [hW0]; exact heap_alloc_new w _
  rw [← hW0]
  clear hW0
  refine (HC.out W0 (HH.out.below hb0)).mono ?_
  rintro e W2 ⟨op, nm, nd, wA, wn, wc, kA, kn, kc, rfl, htm, h9, hg2⟩
  have hs2 := hg2.size
  have hfr9 : w.grownBy W2 (some b) := grown_trans (grown_below hb0) hg2
  have hrW := grown_block hg2 hr0 (by omega)
  obtain ⟨r0, r1, r2, r3, r4, rf⟩ := row5 hrW
  have rf0 := rf 0
  have rf1 := rf 1
  have rf2 := rf 2
  have rf3 := rf 3
  have rf4 := rf 4
  have HRW := Lib.hid hrW
  have HTM := Lib.hid htm
  clear rf hrW htm hr0
  go_wp2
  obtain ⟨hbR, hgR⟩ := set5 HRW.out (.int .i64 op) (.string nm) (.int .i64 nd) (.slice wA wn wc) (.slice kA kn kc)
  refine ret_term rfl rfl rfl hbR ?_
  exact ⟨_, _, _, _, _, _, _, _, _, rfl, (HTM.out.keep ((kept_grown hgR).mono fun g hg => by omega)).mono (fun g hg _ => by omega), h9.other (below_grown hgR (Nat.le_refl _) (by omega)) hbs, grown_from hfr9 (below_grown hgR (Nat.le_refl _) (by omega)) (Nat.le_refl _)⟩

set_option maxRecDepth 100000 in
set_option maxHeartbeats 4000000 in
theorem or_any {b : Nat} {A : Option Addr} {n c : Nat} {L : Toks} {ln : Nat → Nat} (pt : St → Tm × St) (K : St → Prop) (hin : Inner b A n c L ln pt K)
    {s : St} (w : World) (h : PSt b A n c L ln s w) (hs : Deep L K s) :
    Calls Tryz.prog 39 #[.pointer (some ⟨b, 0, none⟩)] w (TPost b A n c L ln w (pOr L pt s)) := by
  have hbs := h.lt
  have HH := Lib.hid h
  have HS := Lib.hid hs
  have HC := Lib.hid (fun (W : World) (hW : PSt b A n c L ln s W) => joined_any 79 (enters_of Tryz.func79 (by kernel_rfl) rfl) (pConj L pt) (Deep L K) (fun s t h ha => h.ahead ha) (good_join (good_factor hin.good) _ _) (fun W s hP hd => conj_any pt K hin W hP hd) 4 (⟨#[124]⟩ : ByteArray) W hW hs)
  clear h hs hin
  go_enter Tryz.func39, Tryz.ntmps39
  go_wp2_with fail
  obtain ⟨W0, hW0⟩ : ∃ W0 : World, W0 = w.alloc (.cells #[.int .i64 0, .string ⟨#[]⟩, .int .i64 0, .slice none 0 0, .slice none 0 0] 32) := ⟨_, rfl⟩
  have hb0 : Below w.heap.size w W0 := by rw [hW0]; exact (Below.refl _ _).alloc (Nat.le_refl _) _
  have hs0 : w.heap.size < W0.heap.size := by rw [hW0]; simp
  have hr0 : W0.heap[w.heap.size]? = some (.cells #[.int .i64 0, .string ⟨#[]⟩, .int .i64 0, .slice none 0 0, .slice none 0 0] 32 (0, 0)) := by rw [hW0]; exact heap_alloc_new w _
  rw [← hW0]
  clear hW0
  refine (HC.out W0 (HH.out.below hb0)).mono ?_
  rintro e W2 ⟨op, nm, nd, wA, wn, wc, kA, kn, kc, rfl, htm, h9, hg2⟩
  have hs2 := hg2.size
  have hfr9 : w.grownBy W2 (some b) := grown_trans (grown_below hb0) hg2
  have hrW := grown_block hg2 hr0 (by omega)
  obtain ⟨r0, r1, r2, r3, r4, rf⟩ := row5 hrW
  have rf0 := rf 0
  have rf1 := rf 1
  have rf2 := rf 2
  have rf3 := rf 3
  have rf4 := rf 4
  have HRW := Lib.hid hrW
  have HTM := Lib.hid htm
  clear rf hrW htm hr0
  go_wp2
  obtain ⟨hbR, hgR⟩ := set5 HRW.out (.int .i64 op) (.string nm) (.int .i64 nd) (.slice wA wn wc) (.slice kA kn kc)
  refine ret_term rfl rfl rfl hbR ?_
  exact ⟨_, _, _, _, _, _, _, _, _, rfl, (HTM.out.keep ((kept_grown hgR).mono fun g hg => by omega)).mono (fun g hg _ => by omega), h9.other (below_grown hgR (Nat.le_refl _) (by omega)) hbs, grown_from hfr9 (below_grown hgR (Nat.le_refl _) (by omega)) (Nat.le_refl _)⟩

/-- Enough fuel. -/
def Fuel (L : Toks) (f : Nat) (s : St) : Prop := s.err = 0 → L.length + 1 ≤ f + s.pos
theorem Fuel.ahead {L : Toks} {f : Nat} (s t : St) (h : Fuel L f s) (ha : Ahead L s t) : Fuel L f t := fun e => by have := h (ha.ok e); have := ha.le; omega
theorem Fuel.deep {L : Toks} {f : Nat} {s : St} (h : Fuel L (f + 1) s) : Deep L (Fuel L f) s := fun e t _ hp e2 => by have := h e; have := hp e2; omega
theorem termN_any {b : Nat} {A : Option Addr} {n c : Nat} {L : Toks} {ln : Nat → Nat} (f : Nat) : Inner b A n c L ln (pTermN L f) (Fuel L f) := by
  induction f with
  | zero =>
    refine ⟨Fuel.ahead, good_termN L 0, fun w s h hf => ?_⟩
    have he : s.err ≠ 0 := fun e => by have := hf e; have := h.pos; omega
    have e : pTermN L 0 s = pOr L (pTermN L 0) s := by rw [or_err he, termN_err he]
    rw [e]
    exact or_any (pTermN L 0) (fun _ => False) ⟨fun _ _ h _ => h, good_termN L 0, fun _ _ _ h => h.elim⟩ w h (fun e => absurd e he)
  | succ f ih => exact ⟨Fuel.ahead, good_termN L (f + 1), fun w s h hf => or_any (pTermN L f) (Fuel L f) ih w h hf.deep⟩
/-- term reads a term. -/
theorem term_any {b : Nat} {A : Option Addr} {n c : Nat} {L : Toks} {ln : Nat → Nat} {s : St} (w : World) (h : PSt b A n c L ln s w) :
    Calls Tryz.prog 39 #[.pointer (some ⟨b, 0, none⟩)] w (TPost b A n c L ln w (pTerm L s)) :=
  (termN_any (L.length + 1)).part w s h (fun _ => by omega)
end Go.Proofs.YtipicaoinnblpaaGreatDoor
