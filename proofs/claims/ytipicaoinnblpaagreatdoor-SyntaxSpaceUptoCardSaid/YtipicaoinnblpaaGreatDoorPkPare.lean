/- The contracts of newParser and Term; and what reading declarations leaves behind each. The contract of the program's function Term. The contract of the program's function Parse. -/
import Derived.Test.YtipicaoinnblpaaGreatDoorPkLex
import Derived.Test.YtipicaoinnblpaaGreatDoorPkPard
namespace Go.Proofs.YtipicaoinnblpaaGreatDoor
open Go.RowKit

/-- The tokens, the first error and its line that a new parser holds. -/
def psL (l : List UInt8) : Toks := if 65536 < l.length then [] else if (lex l 1 []).2.2 ≠ 0 then [] else (lex l 1 []).1
def psE (l : List UInt8) : Nat := if 65536 < l.length then 3 else if (lex l 1 []).2.2 ≠ 0 then (lex l 1 []).2.2 else if 3000 < (lex l 1 []).1.length then 3 else 0
def psLn (l : List UInt8) : Nat → Nat := if 65536 < l.length then fun _ => 0 else if (lex l 1 []).2.2 ≠ 0 then fun _ => (lex l 1 []).2.1 else if 3000 < (lex l 1 []).1.length then fun _ => 0 else errLine (lex l 1 []).1

def NewPost (l : List UInt8) (w : World) (e : Ending) (w' : World) : Prop :=
  ∃ b A n c, e = .returned (.pointer (some ⟨b, 0, none⟩)) ∧ w.heap.size ≤ b ∧ PSt b A n c (psL l) (psLn l) ⟨0, psE l⟩ w' ∧ Below w.heap.size w w'

set_option maxRecDepth 100000 in
set_option maxHeartbeats 4000000 in
theorem newParser_any (s : ByteArray) (w : World) : Calls Tryz.prog 31 #[.string s] w (NewPost s.data.toList w) := by
  have HT := Lib.hid (tokens_any s w)
  have hsz : s.data.toList.length = s.size := by simp
  go_enter Tryz.func31, Tryz.ntmps31
  go_wp2_with fail
  refine HT.out.mono ?_
  rintro e W ⟨hb, hk⟩
  have hs := hb.size
  obtain ⟨T, hT⟩ : ∃ T, T = lex s.data.toList 1 [] := ⟨_, rfl⟩
  have e1 : psL s.data.toList = if 65536 < s.size then [] else if T.2.2 ≠ 0 then [] else T.1 := by unfold psL; rw [hsz, ← hT]
  have e2 : psE s.data.toList = if 65536 < s.size then 3 else if T.2.2 ≠ 0 then T.2.2 else if 3000 < T.1.length then 3 else 0 := by unfold psE; rw [hsz, ← hT]
  have e3 : psLn s.data.toList = if 65536 < s.size then fun _ => 0 else if T.2.2 ≠ 0 then fun _ => T.2.1 else if 3000 < T.1.length then fun _ => 0 else errLine T.1 := by unfold psLn; rw [hsz, ← hT]
  rw [← hT] at hk
  clear hsz hT
  obtain ⟨L, li, er⟩ := T
  simp only at hk e1 e2 e3
  by_cases h1 : 65536 < s.size
  · rw [if_pos h1] at hk e1 e2 e3
    subst hk
    have E1 := Lib.hid e1
    have E2 := Lib.hid e2
    have E3 := Lib.hid e3
    clear h1 e1 e2 e3
    go_wp2
    go_ret
    unfold NewPost
    rw [E1.out, E2.out, E3.out]
    exact ⟨W.heap.size, none, 0, 0, rfl, hs, ⟨⟨0, heap_alloc_new W _, fun _ => rfl⟩, rfl, Nat.le_refl _, fun h => absurd h (by simp), .empty _ _ _ _, by simp⟩, hb.alloc hs _⟩
  · rw [if_neg h1] at hk e1 e2 e3
    by_cases h2 : er ≠ 0
    · rw [if_pos h2] at hk e1 e2 e3
      subst hk
      have hz : ((er : Int) == 0) = false := natNe h2
      have H2 := Lib.hid h2
      have E1 := Lib.hid e1
      have E2 := Lib.hid e2
      have E3 := Lib.hid e3
      clear h1 h2 e1 e2 e3
      go_wp2
      go_ret
      unfold NewPost
      rw [E1.out, E2.out, E3.out]
      exact ⟨W.heap.size, none, 0, 0, rfl, hs, ⟨⟨li, heap_alloc_new W _, fun _ => rfl⟩, rfl, Nat.le_refl _, fun h => absurd h H2.out, .empty _ _ _ _, by simp⟩, hb.alloc hs _⟩
    · rw [if_neg h2] at hk e1 e2 e3
      obtain ⟨A, c, rfl, hc, hsee, hlen⟩ := hk
      have HS := Lib.hid hsee
      by_cases h3 : 3000 < L.length
      · rw [if_pos h3] at e2 e3
        have E1 := Lib.hid e1
        have E2 := Lib.hid e2
        have E3 := Lib.hid e3
        clear hsee h2 e1 e2 e3
        go_wp2
        go_ret
        unfold NewPost
        rw [E1.out, E2.out, E3.out]
        refine ⟨W.heap.size, A, L.length, c, rfl, hs, ⟨⟨0, heap_alloc_new W _, fun _ => rfl⟩, rfl, Nat.zero_le _, fun h => absurd h (by simp), ?_, by omega⟩, hb.alloc hs _⟩
        exact (HS.out.mono (fun g _ h => h) (by decide)).keep (kept_all ((Below.refl _ _).alloc (Nat.le_refl _) _))
      · rw [if_neg h3] at e2 e3
        have E1 := Lib.hid e1
        have E2 := Lib.hid e2
        have E3 := Lib.hid e3
        clear hsee h2 e1 e2 e3
        go_wp2
        go_ret
        unfold NewPost
        rw [E1.out, E2.out, E3.out]
        refine ⟨W.heap.size, A, L.length, c, rfl, hs, ⟨⟨0, heap_alloc_new W _, fun h => absurd rfl h⟩, rfl, Nat.zero_le _, fun _ => rfl, ?_, by omega⟩, hb.alloc hs _⟩
        exact (HS.out.mono (fun g _ h => h) (by decide)).keep (kept_all ((Below.refl _ _).alloc (Nat.le_refl _) _))
end Go.Proofs.YtipicaoinnblpaaGreatDoor
namespace Go.Proofs.YtipicaoinnblpaaGreatDoor
open Go.RowKit

/-- Term in terms of a new parser. -/
def termPs (L : Toks) (ln : Nat → Nat) (s0 : St) : Tm × Nat × Nat :=
  let p := pTerm L s0
  let s := if p.2.pos < L.length then fails 2 p.2 else p.2
  if s.err ≠ 0 then (.zero, ln s.pos, s.err) else (p.1, 0, 0)
theorem termPs_err {L : Toks} {ln : Nat → Nat} {s0 : St} (h : s0.err ≠ 0) : termPs L ln s0 = (.zero, ln s0.pos, s0.err) := by
  unfold termPs pTerm
  rw [termN_err h]
  have e : fails 2 s0 = s0 := by unfold fails; rw [if_neg h]
  simp only [e, ite_self]
  rw [if_pos h]
theorem termOf_ps (l : List UInt8) : termOf l = termPs (psL l) (psLn l) ⟨0, psE l⟩ := by
  unfold termOf
  by_cases h1 : 65536 < l.length
  · have e : psE l = 3 := by unfold psE; rw [if_pos h1]
    rw [termPs_err (by rw [e]; simp), e]
    simp only [if_pos h1]
    unfold psLn; rw [if_pos h1]
  · by_cases h2 : (lex l 1 []).2.2 ≠ 0
    · have e : psE l = (lex l 1 []).2.2 := by unfold psE; rw [if_neg h1, if_pos h2]
      rw [termPs_err (by rw [e]; exact h2), e]
      simp only [if_neg h1, if_pos h2]
      unfold psLn; rw [if_neg h1, if_pos h2]
    · by_cases h3 : 3000 < (lex l 1 []).1.length
      · have e : psE l = 3 := by unfold psE; rw [if_neg h1, if_neg h2, if_pos h3]
        rw [termPs_err (by rw [e]; simp), e]
        simp only [if_neg h1, if_neg h2, if_pos h3]
        unfold psLn; rw [if_neg h1, if_neg h2, if_pos h3]
      · have e : psE l = 0 := by unfold psE; rw [if_neg h1, if_neg h2, if_neg h3]
        have eL : psL l = (lex l 1 []).1 := by unfold psL; rw [if_neg h1, if_neg h2]
        have eN : psLn l = errLine (lex l 1 []).1 := by unfold psLn; rw [if_neg h1, if_neg h2, if_neg h3]
        rw [e, eL, eN]
        simp only [if_neg h1, if_neg h2, if_neg h3]
        rfl

/-- What Term leaves. -/
def TfPost (r : Tm × Nat × Nat) (w : World) (e : Ending) (w' : World) : Prop :=
  ∃ op nm nd wA wn wc kA kn kc, e = .returned (.tuple #[.agg #[.int .i64 op, .string nm, .int .i64 nd, .slice wA wn wc, .slice kA kn kc], .int .i64 r.2.1, .int .i64 r.2.2]) ∧ TmAt w' (w.heap.size ≤ ·) r.1 (.agg #[.int .i64 op, .string nm, .int .i64 nd, .slice wA wn wc, .slice kA kn kc]) ∧ Below w.heap.size w w'
theorem ret_term3 {fn : Func} {slot u1 u2 : Nat} {R : Ending → World → Prop} {a : Act} {W : World} {r : Nat} {op : Int} {nm : ByteArray} {nd : Int} {wA : Option Addr} {wn wc : Nat} {kA : Option Addr} {kn kc : Nat} {q1 q2 : Value} (hres : fn.results = #[.cell slot 32, .tmp u1, .tmp u2]) (hp : a.tmps.getD slot undef = .pointer (some ⟨r, 0, none⟩)) (h1 : a.tmps.getD u1 undef = q1) (h2 : a.tmps.getD u2 undef = q2) (hd : a.defers = [])
    (hblk : W.heap[r]? = some (.cells #[.int .i64 op, .string nm, .int .i64 nd, .slice wA wn wc, .slice kA kn kc] 32 (0, 0))) (hR : R (.returned (.tuple #[.agg #[.int .i64 op, .string nm, .int .i64 nd, .slice wA wn wc, .slice kA kn kc], q1, q2])) W) : bodyPost Tryz.prog fn R .ret a W := by
  obtain ⟨c0, c1, c2, c3, c4, -⟩ := row5 hblk
  refine bodyPost_ret (v := .tuple #[.agg #[.int .i64 op, .string nm, .int .i64 nd, .slice wA wn wc, .slice kA kn kc], q1, q2]) ?_ hd hR
  have hp' : a.tmps[slot]?.getD undef = .pointer (some ⟨r, 0, none⟩) := by simpa using hp
  have h1' : a.tmps[u1]?.getD undef = q1 := by simpa using h1
  have h2' : a.tmps[u2]?.getD undef = q2 := by simpa using h2
  simp [results, hres, hp', h1', h2', go_sem, c0, c1, c2, c3, c4]

set_option maxRecDepth 100000 in
set_option maxHeartbeats 4000000 in
theorem termF_any (s : ByteArray) (w : World) : Calls Tryz.prog 15 #[.string s] w (TfPost (termOf s.data.toList) w) := by
  rw [termOf_ps]
  generalize hR : termPs (psL s.data.toList) (psLn s.data.toList) ⟨0, psE s.data.toList⟩ = R
  have HR := Lib.hid hR
  clear hR
  go_enter Tryz.func15, Tryz.ntmps15
  go_wp2_with fail
  obtain ⟨W0, hW0⟩ : ∃ W0 : World, W0 = w.alloc (.cells #[.int .i64 0, .string ⟨#[]⟩, .int .i64 0, .slice none 0 0, .slice none 0 0] 32) := ⟨_, rfl⟩
  have hb0 : Below w.heap.size w W0 := by rw [hW0]; exact (Below.refl _ _).alloc (Nat.le_refl _) _
  have hs0 : w.heap.size < W0.heap.size := by rw [hW0]; simp
  have hr0 : W0.heap[w.heap.size]? = some (.cells #[.int .i64 0, .string ⟨#[]⟩, .int .i64 0, .slice none 0 0, .slice none 0 0] 32 (0, 0)) := by rw [hW0]; exact heap_alloc_new w _
  rw [← hW0]
  clear hW0
  refine (newParser_any s W0).mono ?_
  rintro e W1 ⟨b, A, n, c, rfl, hbb, hp1, hb1⟩
  generalize psL s.data.toList = L at *
  generalize psLn s.data.toList = ln at *
  generalize (⟨0, psE s.data.toList⟩ : St) = s0 at *
  have hs1 := hb1.size
  have hr1 := (hb1.block _ hs0).trans hr0
  clear hr0
  go_wp2_with fail
  refine (term_any W1 hp1).mono ?_
  rintro e W2 ⟨op, nm, nd, wA, wn, wc, kA, kn, kc, rfl, htm, h2, hg2⟩
  have hs2 := hg2.size
  have hr2 := grown_block hg2 hr1 (by omega)
  clear hr1 hp1
  have hR := HR.out
  unfold termPs at hR
  generalize pTerm L s0 = p at *
  obtain ⟨t, s1⟩ := p
  simp only at hR htm h2
  obtain ⟨W3, hW3⟩ : ∃ W3 : World, W3 = W2.alloc (.cells #[.int .i64 op, .string nm, .int .i64 nd, .slice wA wn wc, .slice kA kn kc] 32) := ⟨_, rfl⟩
  have hb3 : Below W2.heap.size W2 W3 := by rw [hW3]; exact (Below.refl _ _).alloc (Nat.le_refl _) _
  have hn3 : W3.heap[W2.heap.size]? = some (.cells #[.int .i64 op, .string nm, .int .i64 nd, .slice wA wn wc, .slice kA kn kc] 32 (0, 0)) := by rw [hW3]; exact heap_alloc_new W2 _
  have hs3 : W2.heap.size < W3.heap.size := by rw [hW3]; simp
  have h3 := h2.below hb3
  have hr3 := (hb3.block _ (by omega)).trans hr2
  have hfr : Below w.heap.size w W3 := ((hb0.trans (hb1.mono (Nat.le_of_lt hs0))).trans (below_grown hg2 (by omega) (by omega))).trans (hb3.mono (by omega))
  have hlenL := h3.len
  have HTM := Lib.hid htm
  have HL := Lib.hid hlenL
  obtain ⟨l0, hl0, hln0⟩ := h3.blk
  obtain ⟨c0, c1, c2, c3, -⟩ := row4 hl0
  have hfew := h3.few
  have HH3 := Lib.hid h3
  have HB3 := Lib.hid hb3
  have HN3 := Lib.hid hn3
  clear h2 hl0 hln0 htm hn3 hr2
  by_cases hlt : s1.pos < L.length
  · rw [if_pos hlt] at hR
    have he : (fails 2 s1).err ≠ 0 := by
      unfold fails
      split
      · simp
      · assumption
    rw [if_pos he] at hR
    have hlI : (s1.pos : Int) < (n : Int) := by rw [HL.out]; omega
    go_wp2
    rw [← hW3]
    clear hW3
    go_quiet (fail)
    go_wp2_with fail
    refine (fail_any 2 (by decide) _ (HH3.out.drewN _)).mono ?_
    rintro e W4 ⟨rfl, h4, hg4⟩
    have hs4 := hg4.size
    have hr4 := grown_block hg4 (show (W3.drewN _).heap[w.heap.size]? = _ from hr3) (by omega)
    generalize fails 2 s1 = s2 at *
    have hne : ((s2.err : Int) != 0) = true := natNeq he
    clear c0 c1 c2 c3
    obtain ⟨l, hl, hln⟩ := (h4).blk
    obtain ⟨d0, d1, d2, d3, -⟩ := row4 hl
    have hlx := hln he
    subst hlx
    obtain ⟨r0, r1, r2, r3, r4, rf⟩ := row5 hr4
    have rf0 := rf 0
    have rf1 := rf 1
    have rf2 := rf 2
    have rf3 := rf 3
    have rf4 := rf 4
    have HRW := Lib.hid hr4
    have hbF := (below_drewN hfr _).trans (below_grown hg4 (by omega) (by simp; omega))
    clear hl hln rf
    go_wp2
    go_region
    all_goals go_wp2
    obtain ⟨hbR, hgR⟩ := set5 HRW.out (.int .i64 0) (.string ⟨#[]⟩) (.int .i64 0) (.slice none 0 0) (.slice none 0 0)
    refine ret_term3 rfl rfl rfl rfl rfl (show (World.drew _).heap[w.heap.size]? = _ from hbR) ?_
    subst hR
    exact ⟨_, _, _, _, _, _, _, _, _, rfl, tm_zero _ _, (hbF.trans (below_grown hgR (Nat.le_refl _) (by have := hbF.size; omega))).drew⟩
  · rw [if_neg hlt] at hR
    have hlI : ¬ (s1.pos : Int) < (n : Int) := by rw [HL.out]; omega
    by_cases he : s1.err ≠ 0
    · rw [if_pos he] at hR
      have hne : ((s1.err : Int) != 0) = true := natNeq he
      obtain ⟨l, hl, hln⟩ := HH3.out.blk
      have hlx := hln he
      subst hlx
      clear c0 c1 c2 c3
      obtain ⟨c0, c1, c2, c3, -⟩ := row4 hl
      obtain ⟨r0, r1, r2, r3, r4, rf⟩ := row5 hr3
      have rf0 := rf 0
      have rf1 := rf 1
      have rf2 := rf 2
      have rf3 := rf 3
      have rf4 := rf 4
      have HRW := Lib.hid hr3
      clear hl hln rf
      go_wp2
      rw [← hW3]
      clear hW3
      go_quiet (fail)
      go_wp2
      go_region
      all_goals go_wp2
      obtain ⟨hbR, hgR⟩ := set5 (w := W3.drewN (nq + 1)) HRW.out (.int .i64 0) (.string ⟨#[]⟩) (.int .i64 0) (.slice none 0 0) (.slice none 0 0)
      refine ret_term3 rfl rfl rfl rfl rfl hbR ?_
      subst hR
      exact ⟨_, _, _, _, _, _, _, _, _, rfl, tm_zero _ _, (below_drewN hfr _).trans (below_grown hgR (Nat.le_refl _) (by have := hfr.size; simp; omega))⟩
    · rw [if_neg he] at hR
      have hne : ((s1.err : Int) != 0) = false := by simpa using he
      obtain ⟨k0, k1, k2, k3, k4, -⟩ := row5 HN3.out
      obtain ⟨r0, r1, r2, r3, r4, rf⟩ := row5 hr3
      have rf0 := rf 0
      have rf1 := rf 1
      have rf2 := rf 2
      have rf3 := rf 3
      have rf4 := rf 4
      have HRW := Lib.hid hr3
      clear rf
      go_wp2
      rw [← hW3]
      clear hW3
      go_quiet (fail)
      go_wp2
      obtain ⟨hbR, hgR⟩ := set5 (w := W3.drewN nq) HRW.out (.int .i64 op) (.string nm) (.int .i64 nd) (.slice wA wn wc) (.slice kA kn kc)
      refine ret_term3 rfl rfl rfl rfl rfl hbR ?_
      subst hR
      have hb9 : Below W2.heap.size W2 (W3.drewN nq) := below_drewN HB3.out _
      have htm9 := (HTM.out.keep (kept_all hb9)).keep ((kept_grown hgR).mono fun g hg => by omega)
      exact ⟨_, _, _, _, _, _, _, _, _, rfl, htm9.mono (fun g hg _ => by omega), (below_drewN hfr _).trans (below_grown hgR (Nat.le_refl _) (by have := hfr.size; simp; omega))⟩
end Go.Proofs.YtipicaoinnblpaaGreatDoor
namespace Go.Proofs.YtipicaoinnblpaaGreatDoor
open Go.RowKit

/-- A declaration begins with a word, or there is an error. -/
theorem body_moves {L : Toks} (x : Int) (d : Dc) {s : St} (h0 : s.err = 0) : Ahead L (adv s) (pBody L x d s).2 ∨ (pBody L x d s).2.err ≠ 0 := by
  unfold pBody
  split
  · rename_i hw
    have h1 : Ahead L (adv s) (adv s) := .refl (isW_ok hw).2
    have h2 := h1.trans (ahead_name h1.fit)
    exact .inl (h2.trans (ahead_braces h2.fit))
  · split
    · rename_i hw
      have h1 : Ahead L (adv s) (adv s) := .refl (isW_ok hw).2
      have h2 := h1.trans (ahead_name h1.fit)
      have h3 := h2.trans (ahead_need (⟨#[61]⟩ : ByteArray) h2.fit)
      exact .inl (h3.trans (ahead_faults x h3.fit))
    · split
      · rename_i hw
        have h1 : Ahead L (adv s) (adv s) := .refl (isW_ok hw).2
        have h2 := h1.trans (ahead_name h1.fit)
        have h3 := h2.trans (ahead_need (⟨#[61]⟩ : ByteArray) h2.fit)
        exact .inl (h3.trans (good_term L _ h3.fit))
      · split
        · rename_i hw
          have h1 : Ahead L (adv s) (adv s) := .refl (isW_ok hw).2
          have h2 := h1.trans (ahead_name h1.fit)
          exact .inl (h2.trans (ahead_cfg _ h2.fit))
        · split
          · rename_i hw
            have h1 : Ahead L (adv s) (adv s) := .refl (isW_ok hw).2
            exact .inl (h1.trans (ahead_names h1.fit))
          · split
            · rename_i hw
              have h1 : Ahead L (adv s) (adv s) := .refl (isW_ok hw).2
              have h2 := h1.trans (ahead_name h1.fit)
              unfold pClient
              split
              · rename_i hw2
                have h3 := h2.trans (ahead_adv (isW_ok hw2))
                exact .inl (h3.trans (ahead_name h3.fit))
              · exact .inl h2
            · split
              · rename_i hw
                have h1 : Ahead L (adv s) (adv s) := .refl (isW_ok hw).2
                exact .inl (h1.trans (ahead_names h1.fit))
              · refine .inr ?_
                unfold fails
                rw [if_pos h0]; simp
theorem decl_moves {L : Toks} (x : Int) {s : St} (h0 : s.err = 0) (hp : s.pos ≤ L.length) (he : (pDecl L x s).2.err = 0) : s.pos < (pDecl L x s).2.pos := by
  unfold pDecl at he ⊢
  have hb := ahead_body (L := L) x (.zero (lineOf L s.pos)) hp
  have hn := ahead_need (L := L) (⟨#[59]⟩ : ByteArray) hb.fit
  rcases body_moves (L := L) x (.zero (lineOf L s.pos)) h0 with h | h
  · have := h.le
    have := hn.le
    simp only [adv] at *
    omega
  · exact absurd (hn.ok he) h

theorem declsGo_stop {L : Toks} {x : Int} {f : Nat} {acc : List Dc} {s : St} (h : moreB L s = false) : declsGo L x f acc s = (acc, s) := by
  cases f with
  | zero => rfl
  | succ f =>
    rw [declsGo, if_neg]
    unfold moreB at h
    intro k
    rw [k.1] at h
    simp at h
    omega
theorem declsGo_step {L : Toks} {x : Int} {f : Nat} {acc : List Dc} {s : St} (h : moreB L s = true) : declsGo L x (f + 1) acc s = declsGo L x f (acc ++ [(pDecl L x s).1]) (pDecl L x s).2 := by
  rw [declsGo, if_pos (more_ok h)]

/-- Parse in terms of a new parser. -/
def parsePs (x : Int) (L : Toks) (ln : Nat → Nat) (s0 : St) : List Dc × Nat × Nat :=
  let p := declsGo L x L.length [] s0
  if p.2.err ≠ 0 then ([], ln p.2.pos, p.2.err) else (p.1, 0, 0)
theorem parsePs_err {x : Int} {L : Toks} {ln : Nat → Nat} {s0 : St} (h : s0.err ≠ 0) : parsePs x L ln s0 = ([], ln s0.pos, s0.err) := by
  unfold parsePs
  rw [declsGo_stop (by unfold moreB; simp [h])]
  simp only
  rw [if_pos h]
theorem parseOf_ps (x : Int) (l : List UInt8) : parseOf x l = parsePs x (psL l) (psLn l) ⟨0, psE l⟩ := by
  unfold parseOf
  by_cases h1 : 65536 < l.length
  · have e : psE l = 3 := by unfold psE; rw [if_pos h1]
    rw [parsePs_err (by rw [e]; simp), e]
    simp only [if_pos h1]
    unfold psLn; rw [if_pos h1]
  · by_cases h2 : (lex l 1 []).2.2 ≠ 0
    · have e : psE l = (lex l 1 []).2.2 := by unfold psE; rw [if_neg h1, if_pos h2]
      rw [parsePs_err (by rw [e]; exact h2), e]
      simp only [if_neg h1, if_pos h2]
      unfold psLn; rw [if_neg h1, if_pos h2]
    · by_cases h3 : 3000 < (lex l 1 []).1.length
      · have e : psE l = 3 := by unfold psE; rw [if_neg h1, if_neg h2, if_pos h3]
        rw [parsePs_err (by rw [e]; simp), e]
        simp only [if_neg h1, if_neg h2, if_pos h3]
        unfold psLn; rw [if_neg h1, if_neg h2, if_pos h3]
      · have e : psE l = 0 := by unfold psE; rw [if_neg h1, if_neg h2, if_neg h3]
        have eL : psL l = (lex l 1 []).1 := by unfold psL; rw [if_neg h1, if_neg h2]
        have eN : psLn l = errLine (lex l 1 []).1 := by unfold psLn; rw [if_neg h1, if_neg h2, if_neg h3]
        rw [e, eL, eN]
        simp only [if_neg h1, if_neg h2, if_neg h3]
        rfl

/-- What Parse leaves. -/
def PfPost (r : List Dc × Nat × Nat) (w : World) (e : Ending) (w' : World) : Prop :=
  ∃ A c, e = .returned (.tuple #[.slice A r.1.length c, .int .i64 r.2.1, .int .i64 r.2.2]) ∧ r.1.length ≤ c ∧ ListAt (DcAt w' (w.heap.size ≤ ·)) w' (w.heap.size ≤ ·) 22 A r.1 ∧ Below w.heap.size w w'

/-- The cells of a declaration's value. -/
theorem dc_form {w : World} {S : Nat → Prop} {d : Dc} {v : Value} (h : DcAt w S d v) : ∃ (nA : Option Addr) (nc : Nat) (fA : Option Addr) (fc : Nat) (o1 : Int) (m1 : ByteArray) (d1 : Int) (wA1 : Option Addr) (wn1 wc1 : Nat) (kA1 : Option Addr) (kn1 kc1 : Nat) (o2 : Int) (m2 : ByteArray) (d2 : Int) (wA2 : Option Addr) (wn2 wc2 : Nat) (kA2 : Option Addr) (kn2 kc2 : Nat) (o3 : Int) (m3 : ByteArray) (d3 : Int) (wA3 : Option Addr) (wn3 wc3 : Nat) (kA3 : Option Addr) (kn3 kc3 : Nat),
    v = .agg #[.int .i64 d.kind, .int .i64 d.line, .string d.name, .slice nA d.names.length nc, .slice fA d.faults.length fc, .int .i64 o1, .string m1, .int .i64 d1, .slice wA1 wn1 wc1, .slice kA1 kn1 kc1, .string d.proto, .int .i64 o2, .string m2, .int .i64 d2, .slice wA2 wn2 wc2, .slice kA2 kn2 kc2, .int .i64 o3, .string m3, .int .i64 d3, .slice wA3 wn3 wc3, .slice kA3 kn3 kc3, .string d.use] := by
  obtain ⟨nA, nc, fA, fc, vt, vr, vw, e, -, -, -, -, h5, h6, h7⟩ := h
  obtain ⟨o1, m1, d1, wA1, wn1, wc1, kA1, kn1, kc1, rfl⟩ := h5.form
  obtain ⟨o2, m2, d2, wA2, wn2, wc2, kA2, kn2, kc2, rfl⟩ := h6.form
  obtain ⟨o3, m3, d3, wA3, wn3, wc3, kA3, kn3, kc3, rfl⟩ := h7.form
  exact ⟨nA, nc, fA, fc, o1, m1, d1, wA1, wn1, wc1, kA1, kn1, kc1, o2, m2, d2, wA2, wn2, wc2, kA2, kn2, kc2, o3, m3, d3, wA3, wn3, wc3, kA3, kn3, kc3, by rw [e]; simp [Value.cells]⟩

set_option maxRecDepth 100000 in
set_option maxHeartbeats 8000000 in
theorem parse_any (s : ByteArray) (w : World) : Calls Tryz.prog 12 #[.string s] w (PfPost (parseOf 4 s.data.toList) w) := by
  rw [parseOf_ps]
  generalize hR : parsePs 4 (psL s.data.toList) (psLn s.data.toList) ⟨0, psE s.data.toList⟩ = R
  have HR := Lib.hid hR
  clear hR
  go_enter Tryz.func12, Tryz.ntmps12
  go_wp2_with fail
  refine (newParser_any s w).mono ?_
  rintro e W1 ⟨b, A, n, c, rfl, hbb, hp1, hb1⟩
  generalize psL s.data.toList = L at *
  generalize psLn s.data.toList = ln at *
  generalize hs0 : (⟨0, psE s.data.toList⟩ : St) = s0 at *
  have hpos0 : s0.pos = 0 := by rw [← hs0]
  have hs1 := hb1.size
  have hbs := hp1.lt
  have hfew := hp1.few
  have HP1 := Lib.hid hp1
  have HR2 : Hid (declsGo L 4 L.length [] s0 = declsGo L 4 L.length [] s0) := Lib.hid rfl
  clear hp1 hs0
  go_wp2
  go_loopg [6] L.length (fun f v wr => ∃ acc s', Hid (declsGo L 4 f acc s' = declsGo L 4 L.length [] s0) ∧ (s'.err = 0 → L.length ≤ f + s'.pos) ∧ acc.length + f ≤ L.length ∧ PSt b A n c L ln s' wr ∧ W1.grownBy wr (some b) ∧ RowAt DcAt wr (W1.heap.size ≤ ·) W1.heap.size 54 22 v acc)
  case atStart => exact ⟨[], s0, rfl, fun _ => by omega, by simp, HP1.out, grown_refl _ _, RowAt.nil _ _ _ _ _⟩
  case round =>
    obtain ⟨acc, s', hgo, hfu, hal, hP, hgr, hrow⟩ := hrel
    have hsr := hgr.size
    have hm := more_any wr hP
    cases hmo : moreB L s'
    · rw [hmo] at hm
      rw [declsGo_stop hmo] at hgo
      have HM := Lib.hid hm
      have HP := Lib.hid hP
      have hR := HR.out
      unfold parsePs at hR
      rw [← hgo.out] at hR
      simp only at hR
      obtain ⟨Av, cv, rfl, hcv, hlist⟩ := hrow.list stays_dc
      have HL := Lib.hid hlist
      obtain ⟨l, hl, hln⟩ := hP.blk
      obtain ⟨c0, c1, c2, c3, -⟩ := row4 hl
      have hfr : Below w.heap.size w wr := hb1.trans (below_grown hgr (by omega) (by omega))
      clear hm hmo hP hrow hlist hgo hl
      by_cases he : s'.err = 0
      · rw [if_neg (by simpa using he)] at hR
        have hne : ((s'.err : Int) != 0) = false := by simpa using he
        clear hln
        go_wp2_with fail
        refine HM.out.mono ?_
        rintro e W2 ⟨rfl, q, rfl⟩
        go_wp2
        go_ret3
        subst hR
        have hq : Below wr.heap.size wr (wr.drewN q) := below_drewN (Below.refl _ _) q
        exact ⟨_, _, rfl, hcv, ((HL.out.keep (P' := DcAt (wr.drewN q) (W1.heap.size ≤ ·)) (kept_all hq) (fun _ _ h => h.keep (kept_all hq))).mono (fun g hg _ => by omega) (by decide) (fun _ _ h => h.mono (fun g hg _ => by omega))), below_drewN hfr _⟩
      · rw [if_pos (by simpa using he)] at hR
        have hne : ((s'.err : Int) != 0) = true := natNeq he
        have hlx := hln he
        subst hlx
        clear hln
        go_wp2_with fail
        refine HM.out.mono ?_
        rintro e W2 ⟨rfl, q, rfl⟩
        go_wp2
        go_quiet (fail)
        go_wp2
        go_ret3
        subst hR
        exact ⟨none, 0, rfl, Nat.le_refl _, ListAt.empty _ _ _ _ _, below_drewN (below_drewN hfr _) _⟩
    · rw [hmo] at hm
      have hok := more_ok hmo
      obtain ⟨f, rfl⟩ : ∃ f, gk = f + 1 := ⟨gk - 1, by have := hfu hok.1; omega⟩
      rw [declsGo_step hmo] at hgo
      have HM := Lib.hid hm
      have HP := Lib.hid hP
      have HMO := Lib.hid hmo
      have HOK := Lib.hid hok
      have HFU := Lib.hid hfu
      clear hm hmo hP hok hfu
      go_wp2_with fail
      refine HM.out.mono ?_
      rintro e W2 ⟨rfl, q, rfl⟩
      go_wp2_with fail
      refine (decl_any _ (HP.out.drewN q) HMO.out).mono ?_
      rintro e W3 ⟨v, rfl, hdc, h3, hg3⟩
      obtain ⟨nA, nc, fA, fc, o1, m1, d1, wA1, wn1, wc1, kA1, kn1, kc1, o2, m2, d2, wA2, wn2, wc2, kA2, kn2, kc2, o3, m3, d3, wA3, wn3, wc3, kA3, kn3, kc3, hv⟩ := dc_form hdc
      have hgr3 : W1.grownBy W3 (some b) := grown_trans (grown_drewN hgr q) hg3
      have hs3 := hg3.size
      have hrow3 : RowAt DcAt W3 (W1.heap.size ≤ ·) W1.heap.size 54 22 _ acc := RowAt.grown (b := b) (hrow.keep (w' := wr.drewN q) stays_dc (kept_all (below_drewN (Below.refl _ _) q)) (fun g _ => rfl)) stays_dc hg3 hbs (fun g hg => by omega)
      have hdc2 := hdc
      subst hv
      obtain ⟨vs, hvl, hown, hvs⟩ := hrow3
      have hbz : W1.heap.size ≤ W3.heap.size := hgr3.size
      have hlt := (more_ok HMO.out).2
      have hdcx := hdc2.mono (S' := (wr.heap.size ≤ ·)) (fun g hg _ => hg)
      have hvo := hown.lt
      go_wp2_with (at_builtin; refine push_decl W3 rfl (.tmp 11) (.tmp 14) rfl W1.heap.size _ _ _ hown rfl _ _ _ _ _ _ _ _ _ _ _ _ _ _ _ _ _ _ _ _ _ _ _ _ _ _ _ _ _ _ _ _ _ _ _ _ _ _ rfl (by omega) hbz ?_; intro v' W4 hown4 hg4 hv4)
      have hb4 := below_own hown hg4 hbz
      go_roundg f
      case measure => omega
      case rel =>
        have htm3 : DcAt W3 (fun g => W1.heap.size ≤ g ∧ some g ≠ (Value.ownBlock _)) (pDecl L 4 s').1 _ := hdcx.mono (fun g hg _ => ⟨by omega, fun e => by
          obtain ⟨vs0, _, hown0, _⟩ := hrow
          have := (hown0.lt g e.symm).2
          omega⟩)
        refine ⟨acc ++ [(pDecl L 4 s').1], _, hgo.out, ?_, ?_, h3.other hb4 hbs, grown_from hgr3 hb4 (Nat.le_refl _), RowAt.push hvl hvs stays_dc rfl htm3 hown4 hg4 hv4⟩
        · intro h9
          have h10 := decl_moves 4 HOK.out.1 HP.out.pos h9
          have h11 := HFU.out HOK.out.1
          omega
        · rw [List.length_append]; simp; omega
end Go.Proofs.YtipicaoinnblpaaGreatDoor
