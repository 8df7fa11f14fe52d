/- The contract of the law DeploymentMeaning: the expression holds where the term holds. Declarations and terms of a size up to a bound; the tables of powers and of math/bits lie in the world. The table of math/bits lies in the world, by what the listed package-level variables hold. -/
import Derived.Test.YtmohibkomlhlaaaGreatDoorPdi
import Derived.Test.YtmohibkomlhlaaaGreatDoorPdk
import Derived.Test.YtmohibkomlhlaaaGreatDoorPkOpen
import Derived.Test.YtmohibkomlhlaaaGreatDoorPdb
set_option maxRecDepth 100000
set_option maxHeartbeats 8000000
namespace Go.Proofs.YtmohibkomlhlaaaGreatDoor
open Go.RowKit
open _root_.Go.Proofs.Tryz
theorem Et (w : World) {o : Oper} {a : Act} {K : Act → World → Prop} {Q : Exit → Act → World → Prop} (s x : Operand)
  (ho : o.op = .call { callee := .builtin .append, args := #[s, x], argTypes := #[22, 22] })
  (base : Nat) (v : Value) (n : Nat) (xs : List Value) (hown : w.ownsRow base 35 22 v n xs) (hs : a.eval s = v)
  (p : Addr) (m c : Nat) (news : List Value) (hx : a.eval x = .slice (some p) m c) (hl : news.length = m * 22) (hcells : ∀ j u, news[j]? = some u → w.cell? (p.add j) = some u) (h1 : ∀ u ∈ news, u.oneCell' = true)
  (hlim : n + m ≤ 100000000) (hbase : base ≤ w.heap.size)
  (h : ∀ v' w', w'.ownsRow base 35 22 v' (n + m) (xs ++ news) → w.grownBy w' v.ownBlock → K (a.put o.dst v') w') :
  Oper.wp prog o a w K Q := by
 obtain ⟨i0, hi, hz0, hz1, hz2⟩ := info_parts uT
 obtain ⟨v', w', h1', h2, h3, _, h5⟩ := run_append_own_at (P := prog) w base 22 o.type 35 i0 _ 22 352 underlying22 hi hz0 hz1 hz2 rfl (by decide) v n xs hown p m c news hl hcells h1 (by unfold maxLen; omega) (by omega) hbase
 unfold Oper.wp execOp
 simp only [ho, resolve, invoke, builtin, Sem.run_bind, Sem.run_pure, Result.andThen_ok, List.map_toArray, List.map_cons, List.map_nil, hs, hx, h1']
 exact h v' w' h2 h3
def dAdd (t : Tm) : Dc := ⟨3, 0, bs [], [], [], t, bs [], .zero, .zero, bs []⟩
def vN (op : Int) (nm : ByteArray) (nd : Int) (vw vk : Value) : List Value := [.int .i64 3, .int .i64 0, .string ⟨#[]⟩, .slice none 0 0, .slice none 0 0, .int .i64 op, .string nm, .int .i64 nd, vw, vk, .string ⟨#[]⟩, .int .i64 0, .string ⟨#[]⟩, .int .i64 0, .slice none 0 0, .slice none 0 0, .int .i64 0, .string ⟨#[]⟩, .int .i64 0, .slice none 0 0, .slice none 0 0, .string ⟨#[]⟩]
theorem add_one {op : Int} {nm : ByteArray} {nd : Int} {wA kA : Option Addr} {wn wc kn kc : Nat} : ∀ u ∈ vN op nm nd (.slice wA wn wc) (.slice kA kn kc), u.oneCell' = true := by
 intro u hu
 simp only [vN, List.mem_cons, List.not_mem_nil, or_false] at hu
 rcases hu with rfl | rfl | rfl | rfl | rfl | rfl | rfl | rfl | rfl | rfl | rfl | rfl | rfl | rfl | rfl | rfl | rfl | rfl | rfl | rfl | rfl | rfl <;> rfl
theorem add_at {W : World} {S : Nat → Prop} {t : Tm} {op : Int} {nm : ByteArray} {nd : Int} {wA kA : Option Addr} {wn wc kn kc : Nat} (h : dN W S t (.agg #[.int .i64 op, .string nm, .int .i64 nd, .slice wA wn wc, .slice kA kn kc])) : dx W S (dAdd t) (.agg #[.int .i64 3, .int .i64 0, .string ⟨#[]⟩, .slice none 0 0, .slice none 0 0, .int .i64 op, .string nm, .int .i64 nd, .slice wA wn wc, .slice kA kn kc, .string ⟨#[]⟩, .int .i64 0, .string ⟨#[]⟩, .int .i64 0, .slice none 0 0, .slice none 0 0, .int .i64 0, .string ⟨#[]⟩, .int .i64 0, .slice none 0 0, .slice none 0 0, .string ⟨#[]⟩]) :=
 ⟨none, 0, none, 0, _, _, _, rfl, .empty _ _ _ _, Nat.le_refl _, .empty _ _ _ _ _, Nat.le_refl _, h, dN.named _ _ 0 (bs []), dN.named _ _ 0 (bs [])⟩
theorem list_add {W : World} {S T : Nat → Prop} {l : List Dc} {vs : List Value} {A : Option Addr} {d : Dc} {u : Value} (hlen : vs.length = l.length) (hs : ak W T 22 A (l.length + 1) (vs.flatMap cellsOf ++ cellsOf u)) (hd : ∀ (i : Nat) (d : Dc) (u : Value), l[i]? = some d → vs[i]? = some u → dx W S d u) (hu : dx W S d u) (hST : ∀ g, S g → g < W.heap.size → T g) : aL (dx W T) W T 22 A (l ++ [d]) := by
 refine ⟨vs ++ [u], by simp [hlen], ?_, fun i x v hx hv => ?_⟩
 ·have e : (vs ++ [u]).flatMap cellsOf = vs.flatMap cellsOf ++ cellsOf u := by simp
  rw [e, List.length_append, List.length_singleton]
  exact hs
 ·have k : Kept S W W := aH (Below.refl _ _)
  by_cases hi : i < l.length
  ·rw [List.getElem?_append_left hi] at hx
   rw [List.getElem?_append_left (by omega)] at hv
   exact (hd i x v hx hv).mono hST
  ·have hi2 := (List.getElem?_eq_some_iff.1 hx).1
   rw [List.length_append, List.length_singleton] at hi2
   obtain rfl : i = l.length := by omega
   rw [List.getElem?_append_right (Nat.le_refl _), Nat.sub_self] at hx
   rw [List.getElem?_append_right (by omega), show l.length - vs.length = 0 by omega] at hv
   cases hx; cases hv
   exact hu.mono hST
def LAt (l : List Dc) (W : World) (A : Option Addr) : Prop := ∃ T : Nat → Prop, aL (dx W T) W T 22 A l ∧ ∀ g, T g → g < W.heap.size
theorem LAt.keep {l : List Dc} {W W' : World} {A : Option Addr} (h : LAt l W A) (hb : Below W.heap.size W W') : LAt l W' A := by
 obtain ⟨T, h1, h2⟩ := h
 exact ⟨T, h1.keep (aH hb) (fun _ _ h => h.keep (aH hb)), fun g hg => by have := h2 g hg; have := hb.size; omega⟩
theorem LAt.of {l : List Dc} {vs : List Value} {W : World} {S : Nat → Prop} {base : Nat} {A : Option Addr} {c : Nat} (hvl : vs.length = l.length) (hown : W.ownsRow base 35 22 (.slice A l.length c) l.length (vs.flatMap cellsOf)) (hd : ∀ (i : Nat) (d : Dc) (u : Value), l[i]? = some d → vs[i]? = some u → dx W S d u) : LAt l W A :=
 ⟨(· < W.heap.size), ⟨vs, hvl, (ak.own hown).mono (fun g _ h => h) (by decide), fun i d u h1 h2 => (hd i d u h1 h2).mono (fun g _ h => h)⟩, fun g h => h⟩
def XAt (x : Ex) (W : World) (v : Value) (b : Nat) : Prop := ∃ T : Nat → Prop, kP W T x v ∧ ∀ g, T g → g < W.heap.size ∧ g ≠ b
theorem XAt.keep {x : Ex} {W W' : World} {v : Value} {b : Nat} (h : XAt x W v b) (hb : Below W.heap.size W W') : XAt x W' v b := by
 obtain ⟨T, h1, h2⟩ := h
 exact ⟨T, h1.keep (aH hb), fun g hg => ⟨by have := h2 g hg; have := hb.size; omega, (h2 g hg).2⟩⟩
theorem XAt.set {x : Ex} {W : World} {v : Value} {b : Nat} (h : XAt x W v b) (o : Nat) (u : Value) : XAt x (W.setCell ⟨b, o, none⟩ u) v b := by
 obtain ⟨T, h1, h2⟩ := h
 have hs := ((Below.refl b W).setCell (p := ⟨b, o, none⟩) (Nat.le_refl _) u).size
 exact ⟨T, h1.keep (fun g hg _ => Below.heap_setCell W ⟨b, o, none⟩ u g (h2 g hg).2), fun g hg => ⟨by have := (h2 g hg).1; omega, (h2 g hg).2⟩⟩
theorem Dg (l : List Dc) (A : Option Addr) (c : Nat) (t : Tm) (v : Value) (s : Nat) (w : World) (S : Nat → Prop) (hl : aL (dx w S) w S 22 A l) (ht : dN w S t v) (hS : ∀ g, S g → g < w.heap.size) (hsz : (l.map aZ).sum ≤ 1100000) (hst : av t ≤ 1550000) (hs : s < 65536) (hpw : Pow w) (hz : Tz w) :
  Calls prog 3 #[.slice A l.length c, v, .int .u16 s] w fun e w' => e = .returned (.bool true) ∧ Below w.heap.size w w' := by
 have hbA : ∀ (W : World) (o : Obj), Below W.heap.size W (W.alloc o) := fun W o => (Below.refl _ _).alloc (Nat.le_refl _) o
 have hll := iB l
 have HLS := Lib.hid (fun (W : World) (hW : Below w.heap.size w W) => (⟨hl.keep (P' := dx W S) (ai hW hS) (fun _ _ h => h.keep (ai hW hS)), fun g hg => by have := hS g hg; have := hW.size; omega⟩ : aL (dx W S) W S 22 A l ∧ ∀ g, S g → g < W.heap.size))
 have HT := Lib.hid (fun (W : World) (hW : Below w.heap.size w W) => ht.keep (ai hW hS))
 have HAW := Lib.hid (fun (W : World) (hW : Below w.heap.size w W) => DX W (hpw.below hW) (hz.below hW (Nat.le_refl _)))
 have HCL := Lib.hid (fun (W : World) (hW : Below w.heap.size w W) => clone_own l A c W S (HLS.out W hW).1 (HLS.out W hW).2 (by omega))
 have ht2 := ht
 obtain ⟨op, nm, nd, wA, wn, wc, kA, kn, kc, rfl⟩ := ht2.form
 obtain ⟨W0, hW0⟩ : ∃ W0 : World, W0 = w.alloc (.cells #[.int .i64 op, .string nm, .int .i64 nd, .slice wA wn wc, .slice kA kn kc] 26) := ⟨_, rfl⟩
 have hb0 : Below w.heap.size w W0 := by rw [hW0]; exact hbA _ _
 have hr0 : W0.heap[w.heap.size]? = some (.cells #[.int .i64 op, .string nm, .int .i64 nd, .slice wA wn wc, .slice kA kn kc] 26 (0, 0)) := by rw [hW0]; exact heap_alloc_new _ _
 have H0 := Lib.hid hW0
 have HR0 := Lib.hid hr0
 have vS := lt_of_block hr0
 have h0s := hb0.size
 have HSH := Lib.hid (fun (W : World) (A2 : Option Addr) (c2 : Nat) (vs : List Value) (base : Nat) (hvl : vs.length = l.length) (hW : Below w.heap.size w W) (hsl : ak W (base ≤ ·) 22 A2 (l.length + 1) (vs.flatMap cellsOf ++ vN op nm nd (.slice wA wn wc) (.slice kA kn kc))) (hd : ∀ (i : Nat) (d : Dc) (u : Value), l[i]? = some d → vs[i]? = some u → dx W S d u) => by
  have e : aZ (dAdd t) = av t + 3 := by
   show 0 + 0 + 0 + av t + 0 + 1 + 1 + 0 + 1 = _
   omega
  have hL : aL (dx W (· < W.heap.size)) W (· < W.heap.size) 22 A2 (l ++ [dAdd t]) := by
   refine list_add hvl ?_ hd (add_at (HT.out W hW)) (fun g _ h => h)
   exact hsl.mono (fun g _ h => h) (by decide)
  have h := short_ref (l ++ [dAdd t]) A2 c2 W (· < W.heap.size) hL (fun g h => h) (by
   rw [List.map_append, List.sum_append, List.map_cons, List.map_nil, List.sum_cons, List.sum_nil, e]
   omega)
  rw [List.length_append, List.length_singleton] at h
  exact h)
 clear hW0 hr0 ht hl
 go_enter func3, ntmps3
 go_upto_region 1 with fail
 rw [← H0.out]
 go_cut [20] (fun v wx => ∃ b : Bool, v = .bool b ∧ Below W0.heap.size W0 wx)
 case first =>
  refine ax.start (fun W' => Below W0.heap.size W0 W') [] [3, 5, 6] (by kernel_rfl) (Below.refl _ _).drew (fun bx => ?_)
  refine ax.one 0 rfl (by decide +kernel) (by rfl) (fun K hK => ?_)
  go_simp
  go_at_call 6
  refine (HAW.out _ (hb0.trans (bx.mono h0s))).mono ?_
  rintro e W1 ⟨rfl, hb1⟩
  have bx1 := bx.trans (hb1.mono bx.size)
  clear hb1 bx
  try go_simp
  refine hK.out _ _ (fun _ => bx1) ?_
  clear hK K
  refine ax.one 1 rfl (by decide +kernel) (by rfl) (fun K hK => ?_)
  go_simp
  refine hK.out _ _ (fun _ => bx1) ?_
  clear hK K
  refine ax.one 2 rfl (by decide +kernel) (by rfl) (fun K hK => ?_)
  go_simp
  refine hK.out _ _ (fun _ => bx1) ?_
  clear hK K
  repeat
   refine ax.take (v := ?_) rfl (by decide +kernel) (by rfl) (fun _ _ _ h => h) bx1 ?_ ?_
   rotate_left
   focus
    intro w9 h9
    have hr9 := (h9.block _ vS).trans HR0.out
    obtain ⟨y0, y1, y2, y3, y4⟩ := aO hr9
    go_simp; (try with_reducible rfl); done
   simp only [Act.put, List.getElem_toArray, List.getElem_cons_succ, List.getElem_cons_zero, List.setIfInBounds_toArray, List.set_cons_zero, List.set_cons_succ]
  refine ax.two 4 7 rfl rfl (by decide +kernel) (by rfl) (by rfl) (fun K hK => ?_) (fun K hK => ?_)
  ·go_simp
   go_at_call 8
   refine (HCL.out _ (hb0.trans (bx1.mono h0s))).mono ?_
   rintro e W2 ⟨v2, vs, rfl, hvl, hown, hd, hb2⟩
   have h1s := bx1.size
   have h2s := hb2.size
   have bx2 := bx1.trans (hb2.mono bx1.size)
   try go_simp
   refine hK.out _ _ (fun _ => bx2) ?_
   clear hK K
   refine ax.one 7 rfl (by decide +kernel) (by rfl) (fun K hK => ?_)
   go_simp
   obtain ⟨W3, hW3⟩ : ∃ W3 : World, W3 = W2.alloc (.cells #[.int .i64 3, .int .i64 0, .string ⟨#[]⟩, .slice none 0 0, .slice none 0 0, .int .i64 op, .string nm, .int .i64 nd, .slice wA wn wc, .slice kA kn kc, .string ⟨#[]⟩, .int .i64 0, .string ⟨#[]⟩, .int .i64 0, .slice none 0 0, .slice none 0 0, .int .i64 0, .string ⟨#[]⟩, .int .i64 0, .slice none 0 0, .slice none 0 0, .string ⟨#[]⟩] 35) := ⟨_, rfl⟩
   have hb3 : Below W2.heap.size W2 W3 := by rw [hW3]; exact hbA _ _
   have hlit : W3.heap[W2.heap.size]? = some (.cells #[.int .i64 3, .int .i64 0, .string ⟨#[]⟩, .slice none 0 0, .slice none 0 0, .int .i64 op, .string nm, .int .i64 nd, .slice wA wn wc, .slice kA kn kc, .string ⟨#[]⟩, .int .i64 0, .string ⟨#[]⟩, .int .i64 0, .slice none 0 0, .slice none 0 0, .int .i64 0, .string ⟨#[]⟩, .int .i64 0, .slice none 0 0, .slice none 0 0, .string ⟨#[]⟩] 35 (0, 0)) := by rw [hW3]; exact heap_alloc_new _ _
   have bx3 := bx2.trans (hb3.mono bx2.size)
   rw [← hW3]
   refine hK.out _ _ (fun _ => bx3) ?_
   have hown3 := own_below hown hb3 (Nat.le_refl _)
   have hd3 : ∀ (i : Nat) (d : Dc) (u : Value), l[i]? = some d → vs[i]? = some u → dx W3 S d u := fun i d u h1 h2 => (hd i d u h1 h2).keep (ai hb3 (fun g hg => by have := hS g hg; omega))
   have h3s := hb3.size
   have hbase : W1.heap.size ≤ W3.heap.size := by omega
   obtain ⟨bl, hbl⟩ : ∃ bl, bl = W2.heap.size := ⟨_, rfl⟩
   obtain ⟨base, hbe⟩ : ∃ base, base = W1.heap.size := ⟨_, rfl⟩
   have hb0b : W0.heap.size ≤ base := by omega
   rw [← hbe] at hown3 hbase
   rw [← hbl] at hlit ⊢
   clear hK K hW3 hown hd hb2 hb3 bx1 bx2 hbl hbe h1s h2s h3s
   refine ax.one 8 rfl (by decide +kernel) (by rfl) (fun K hK => ?_)
   refine Et _ (.tmp 13) (.tmp 16) rfl base _ l.length _ hown3 rfl ⟨bl, 0, none⟩ 1 1 (vN op nm nd (.slice wA wn wc) (.slice kA kn kc)) rfl rfl (fun j u hu => by rw [Go.WideShapes.add_plain]; exact (cell_of_row _ _ (0 + j) _ _ _ hlit).trans (by rw [Nat.zero_add]; exact (show ((vN op nm nd (.slice wA wn wc) (.slice kA kn kc)).toArray)[j]? = some u by rw [List.getElem?_toArray]; exact hu))) (fun u hu => add_one u hu) (by omega) hbase ?_
   intro v7 W7 gB hg7
   have hb7 := aM hown3 hg7 hbase
   have bx7 := bx3.trans (hb7.mono hb0b)
   have hd7 : ∀ (i : Nat) (d : Dc) (u : Value), l[i]? = some d → vs[i]? = some u → dx W7 S d u := fun i d u h1 h2 => (hd3 i d u h1 h2).keep (fun g hg _ => hb7.block g (by have := hS g hg; omega))
   obtain ⟨A7, c7, rfl, hc7⟩ := aJ gB
   refine hK.out _ _ (fun _ => bx7) ?_
   clear hK K
   have hsh := HSH.out W7 A7 c7 vs base hvl (hb0.trans (bx7.mono h0s)) (ak.own gB) hd7
   have HSH7 := Lib.hid hsh
   clear hsh hown3 gB hd3 hd7 hb7 hg7 hlit bx3
   refine ax.one 9 rfl (by decide +kernel) (by rfl) (fun K hK => ?_)
   go_simp
   go_at_call 7
   refine HSH7.out.mono ?_
   rintro e W8 ⟨rfl, hb8⟩
   have bx8 := bx7.trans (hb8.mono bx7.size)
   try go_simp
   refine hK.out _ _ (fun _ => bx8) ?_
   clear hK K
   refine ax.one 10 rfl (by decide +kernel) (by rfl) (fun K hK => ?_)
   go_simp
   refine hK.out _ _ (fun _ => bx8) ?_
   clear hK K
   refine ax.one 11 rfl (by decide +kernel) (by rfl) (fun K hK => ?_)
   go_simp
   refine hK.out _ _ (fun _ => bx8) ?_
   clear hK K
   refine ax.done (by decide +kernel) ?_
   go_wp2_with fail
   go_meet
   exact ⟨_, rfl, bx8⟩
  ·go_simp
   obtain ⟨W2, hW2⟩ : ∃ W2 : World, W2 = W1.alloc (.cells #[.int .i64 3, .int .i64 0, .string ⟨#[]⟩, .slice none 0 0, .slice none 0 0, .int .i64 op, .string nm, .int .i64 nd, .slice wA wn wc, .slice kA kn kc, .string ⟨#[]⟩, .int .i64 0, .string ⟨#[]⟩, .int .i64 0, .slice none 0 0, .slice none 0 0, .int .i64 0, .string ⟨#[]⟩, .int .i64 0, .slice none 0 0, .slice none 0 0, .string ⟨#[]⟩] 35) := ⟨_, rfl⟩
   have hb2 : Below W1.heap.size W1 W2 := by rw [hW2]; exact hbA _ _
   have hlit2 : W2.heap[W1.heap.size]? = some (.cells #[.int .i64 3, .int .i64 0, .string ⟨#[]⟩, .slice none 0 0, .slice none 0 0, .int .i64 op, .string nm, .int .i64 nd, .slice wA wn wc, .slice kA kn kc, .string ⟨#[]⟩, .int .i64 0, .string ⟨#[]⟩, .int .i64 0, .slice none 0 0, .slice none 0 0, .int .i64 0, .string ⟨#[]⟩, .int .i64 0, .slice none 0 0, .slice none 0 0, .string ⟨#[]⟩] 35 (0, 0)) := by rw [hW2]; exact heap_alloc_new _ _
   have bx2 := bx1.trans (hb2.mono bx1.size)
   have h1s := bx1.size
   have h2s := hb2.size
   rw [← hW2]
   refine hK.out _ _ (fun _ => bx2) ?_
   obtain ⟨bl, hbl⟩ : ∃ bl, bl = W1.heap.size := ⟨_, rfl⟩
   rw [← hbl] at hlit2 ⊢
   clear hK K hW2 hbl
   refine ax.one 4 rfl (by decide +kernel) (by rfl) (fun K hK => ?_)
   go_simp
   go_at_call 8
   refine (HCL.out _ (hb0.trans (bx2.mono h0s))).mono ?_
   rintro e W3 ⟨v2, vs, rfl, hvl, hown3, hd3, hb3⟩
   have bx3 := bx2.trans (hb3.mono bx2.size)
   have hlit := (hb3.block bl (lt_of_block hlit2)).trans hlit2
   have hbase := hb3.size
   obtain ⟨base, hbe⟩ : ∃ base, base = W2.heap.size := ⟨_, rfl⟩
   have hb0b : W0.heap.size ≤ base := by omega
   rw [← hbe] at hown3 hbase
   try go_simp
   refine hK.out _ _ (fun _ => bx3) ?_
   clear hK K hb2 hb3 bx1 bx2 hbe h1s h2s hlit2
   refine ax.one 8 rfl (by decide +kernel) (by rfl) (fun K hK => ?_)
   refine Et _ (.tmp 13) (.tmp 16) rfl base _ l.length _ hown3 rfl ⟨bl, 0, none⟩ 1 1 (vN op nm nd (.slice wA wn wc) (.slice kA kn kc)) rfl rfl (fun j u hu => by rw [Go.WideShapes.add_plain]; exact (cell_of_row _ _ (0 + j) _ _ _ hlit).trans (by rw [Nat.zero_add]; exact (show ((vN op nm nd (.slice wA wn wc) (.slice kA kn kc)).toArray)[j]? = some u by rw [List.getElem?_toArray]; exact hu))) (fun u hu => add_one u hu) (by omega) hbase ?_
   intro v7 W7 gB hg7
   have hb7 := aM hown3 hg7 hbase
   have bx7 := bx3.trans (hb7.mono hb0b)
   have hd7 : ∀ (i : Nat) (d : Dc) (u : Value), l[i]? = some d → vs[i]? = some u → dx W7 S d u := fun i d u h1 h2 => (hd3 i d u h1 h2).keep (fun g hg _ => hb7.block g (by have := hS g hg; omega))
   obtain ⟨A7, c7, rfl, hc7⟩ := aJ gB
   refine hK.out _ _ (fun _ => bx7) ?_
   clear hK K
   have hsh := HSH.out W7 A7 c7 vs base hvl (hb0.trans (bx7.mono h0s)) (ak.own gB) hd7
   have HSH7 := Lib.hid hsh
   clear hsh hown3 gB hd3 hd7 hb7 hg7 hlit bx3
   refine ax.one 9 rfl (by decide +kernel) (by rfl) (fun K hK => ?_)
   go_simp
   go_at_call 7
   refine HSH7.out.mono ?_
   rintro e W8 ⟨rfl, hb8⟩
   have bx8 := bx7.trans (hb8.mono bx7.size)
   try go_simp
   refine hK.out _ _ (fun _ => bx8) ?_
   clear hK K
   refine ax.one 10 rfl (by decide +kernel) (by rfl) (fun K hK => ?_)
   go_simp
   refine hK.out _ _ (fun _ => bx8) ?_
   clear hK K
   refine ax.one 11 rfl (by decide +kernel) (by rfl) (fun K hK => ?_)
   go_simp
   refine hK.out _ _ (fun _ => bx8) ?_
   clear hK K
   refine ax.done (by decide +kernel) ?_
   go_wp2_with fail
   go_meet
   exact ⟨_, rfl, bx8⟩
 case rest =>
 obtain ⟨b, rfl, hb1⟩ := hcut
 have Gl := hb0.trans (hb1.mono h0s)
 clear HSH
 cases b with
 |true =>
  go_wp2_with fail
  refine (HAW.out _ Gl).mono ?_
  rintro e W2 ⟨rfl, hb2⟩
  go_wp2
  go_ret
  exact ⟨rfl, Gl.trans (hb2.mono Gl.size)⟩
 |false =>
  go_upto_region 3 with fail
  have hc0 := Gl.size
  have HEX := Lib.hid (fun (W : World) (A2 : Option Addr) (c2 : Nat) (T : Nat → Prop) (hW : Below w.heap.size w W) (hl2 : aL (dx W T) W T 22 A2 l) (hT : ∀ g, T g → g < W.heap.size) => vB l A2 c2 t _ W (· < W.heap.size) (hl2.mono (fun g h _ => hT g h) (by decide) (fun _ _ h => h.mono (fun g h _ => hT g h))) ((HT.out W hW).mono (fun g _ h => h)) (fun g h => h) hsz hst (hpw.below hW))
  obtain ⟨x, hx⟩ : ∃ x, x = (kM l t).1 := ⟨_, rfl⟩
  obtain ⟨er, her⟩ : ∃ er, er = (kM l t).2 := ⟨_, rfl⟩
  simp only [← hx, ← her] at HEX
  have HX := Lib.hid hx
  have HER := Lib.hid her
  clear hx her
  have hltc : w.heap.size < wc.heap.size := Nat.lt_of_lt_of_le vS hb1.size
  have hrc := (hb1.block _ vS).trans HR0.out
  have HRC := Lib.hid hrc
  clear hrc
  go_cut [7, 8] (fun v7 v8 wx => ∃ (bE : Nat) (A5 : Option Addr) (n5 c5 : Nat) (r5 : Int), v7 = .pointer (some ⟨bE, 0, none⟩) ∧ v8 = .int .i64 (er : Nat) ∧ wc.heap.size ≤ bE ∧ wx.heap[bE]? = some (.cells #[.slice A5 n5 c5, .int .i64 r5] 38 (0, 0)) ∧ Hid (XAt x wx (.agg #[.slice A5 n5 c5, .int .i64 r5]) bE) ∧ Below wc.heap.size wc wx)
  case first =>
   refine ax.start (fun W' => Below wc.heap.size wc W') [] [0, 2, 4, 5, 6] (by kernel_rfl) (Below.refl _ _).drew (fun bx => ?_)
   repeat
    refine ax.take (v := ?_) rfl (by decide +kernel) (by rfl) (fun _ _ _ h => h) bx ?_ ?_
    rotate_left
    focus
     intro w9 h9
     have hr9 := (h9.block _ hltc).trans HRC.out
     obtain ⟨y0, y1, y2, y3, y4⟩ := aO hr9
     go_simp; (try with_reducible rfl); done
    simp only [Act.put, List.getElem_toArray, List.getElem_cons_succ, List.getElem_cons_zero, List.setIfInBounds_toArray, List.set_cons_zero, List.set_cons_succ]
   obtain ⟨wd, hwd⟩ : ∃ wd, wd = wc.drew := ⟨_, rfl⟩
   rw [← hwd] at bx ⊢
   clear hwd
   refine ax.two 1 7 rfl rfl (by decide +kernel) (by rfl) (by rfl) (fun K hK => ?_) (fun K hK => ?_)
   ·go_simp
    go_at_call 8
    refine (HCL.out _ (Gl.trans (bx.mono hc0))).mono ?_
    rintro e W2 ⟨v2, vs, rfl, hvl, hown, hd, hbn⟩
    have bx := bx.trans (hbn.mono bx.size)
    obtain ⟨A2, c2, rfl, -⟩ := aJ hown
    have hla : LAt l W2 A2 := LAt.of hvl hown hd
    try go_simp
    refine hK.out _ _ (fun _ => bx) ?_
    clear hK K hown hd hbn hvl
    refine ax.two 3 7 rfl rfl (by decide +kernel) (by rfl) (by rfl) (fun K hK => ?_) (fun K hK => ?_)
    ·go_simp
     go_at_call 9
     obtain ⟨T, hl2, hT⟩ := hla
     refine (HEX.out W2 A2 c2 T (Gl.trans (bx.mono hc0)) hl2 hT).mono ?_
     rintro e W3 ⟨v5, rfl, hx5, hbn⟩
     have hex : kP W3 (· < W3.heap.size) x v5 := hx5.mono (fun g _ h => h)
     have bx := bx.trans (hbn.mono bx.size)
     have hv5 : ∃ A5 n5 c5 r5, v5 = .agg #[.slice A5 n5 c5, .int .i64 r5] := by
      obtain ⟨A5, c5, e, -⟩ := hx5
      exact ⟨_, _, _, _, e⟩
     obtain ⟨A5, n5, c5, r5, hv5⟩ := hv5
     subst hv5
     try go_simp
     refine hK.out _ _ (fun _ => bx) ?_
     clear hK K hx5 hbn hl2 hT
     repeat
      refine ax.take (v := ?_) rfl (by decide +kernel) (by rfl) (fun _ _ _ h => h) bx ?_ ?_
      rotate_left
      focus
       intro w9 h9
       go_simp; (try with_reducible rfl); done
      simp only [Act.put, List.getElem_toArray, List.getElem_cons_succ, List.getElem_cons_zero, List.setIfInBounds_toArray, List.set_cons_zero, List.set_cons_succ]
     refine ax.one 7 rfl (by decide +kernel) (by rfl) (fun K hK => ?_)
     go_simp
     obtain ⟨W4, hWn⟩ : ∃ W4 : World, W4 = W3.alloc (.cells #[.slice none 0 0, .int .i64 0] 38) := ⟨_, rfl⟩
     have hbn : Below W3.heap.size W3 W4 := by rw [hWn]; exact hbA _ _
     have hE : W4.heap[W3.heap.size]? = some (.cells #[.slice none 0 0, .int .i64 0] 38 (0, 0)) := by rw [hWn]; exact heap_alloc_new _ _
     have hbs := bx.size
     have bx := bx.trans (hbn.mono bx.size)
     rw [← hWn]
     refine hK.out _ _ (fun _ => bx) ?_
     have hxa : XAt x W4 (.agg #[.slice A5 n5 c5, .int .i64 r5]) W3.heap.size := ⟨_, hex.keep (aH hbn), fun g hg => ⟨Nat.lt_of_lt_of_le hg hbn.size, Nat.ne_of_lt hg⟩⟩
     clear hex
     obtain ⟨bE, hbE⟩ : ∃ bE, bE = W3.heap.size := ⟨_, rfl⟩
     rw [← hbE] at hE ⊢
     rw [← hbE] at hxa
     have hcE : wc.heap.size ≤ bE := by omega
     clear hK K hWn hbn hbE hbs
     refine ax.one 8 rfl (by decide +kernel) (by rfl) (fun K hK => ?_)
     obtain ⟨y0, y1⟩ := ay hE
     have g0 := frozen_of_row _ _ 0 _ _ hE
     have g1 := frozen_of_row _ _ 1 _ _ hE
     go_simp
     clear y0 y1 g0 g1
     have hE2 := aC (aC hE (i := 0) (.slice A5 n5 c5)) (i := 1) (.int .i64 r5)
     have bx := (bx.setCell (p := ⟨bE, 0, none⟩) hcE (.slice A5 n5 c5)).setCell (p := ⟨bE, 1, none⟩) hcE (.int .i64 r5)
     have hxa := (hxa.set 0 (.slice A5 n5 c5)).set 1 (.int .i64 r5)
     refine hK.out _ _ (fun _ => bx) ?_
     clear hK K
     refine ax.one 9 rfl (by decide +kernel) (by rfl) (fun K hK => ?_)
     go_simp
     refine hK.out _ _ (fun _ => bx) ?_
     clear hK K
     refine ax.done (by decide +kernel) ?_
     go_wp2_with fail
     go_meet
     exact ⟨bE, A5, n5, c5, r5, rfl, rfl, hcE, hE2, Lib.hid hxa, bx⟩
    ·go_simp
     obtain ⟨W3, hWn⟩ : ∃ W3 : World, W3 = W2.alloc (.cells #[.slice none 0 0, .int .i64 0] 38) := ⟨_, rfl⟩
     have hbn : Below W2.heap.size W2 W3 := by rw [hWn]; exact hbA _ _
     have hE : W3.heap[W2.heap.size]? = some (.cells #[.slice none 0 0, .int .i64 0] 38 (0, 0)) := by rw [hWn]; exact heap_alloc_new _ _
     have hbs := bx.size
     have bx := bx.trans (hbn.mono bx.size)
     rw [← hWn]
     refine hK.out _ _ (fun _ => bx) ?_
     have hla := hla.keep hbn
     obtain ⟨bE, hbE⟩ : ∃ bE, bE = W2.heap.size := ⟨_, rfl⟩
     rw [← hbE] at hE ⊢
     have hcE : wc.heap.size ≤ bE := by omega
     clear hK K hWn hbn hbE hbs
     refine ax.one 3 rfl (by decide +kernel) (by rfl) (fun K hK => ?_)
     go_simp
     go_at_call 9
     obtain ⟨T, hl2, hT⟩ := hla
     refine (HEX.out W3 A2 c2 T (Gl.trans (bx.mono hc0)) hl2 hT).mono ?_
     rintro e W4 ⟨v5, rfl, hx5, hbn⟩
     have hxa : XAt x W4 v5 bE := ⟨fun g => W3.heap.size ≤ g ∧ g < W4.heap.size, hx5.mono (fun g h1 h2 => ⟨h1, h2⟩), fun g hg => ⟨hg.2, by have := lt_of_block hE; omega⟩⟩
     have hE := (hbn.block bE (lt_of_block hE)).trans hE
     have bx := bx.trans (hbn.mono bx.size)
     have hv5 : ∃ A5 n5 c5 r5, v5 = .agg #[.slice A5 n5 c5, .int .i64 r5] := by
      obtain ⟨A5, c5, e, -⟩ := hx5
      exact ⟨_, _, _, _, e⟩
     obtain ⟨A5, n5, c5, r5, hv5⟩ := hv5
     subst hv5
     try go_simp
     refine hK.out _ _ (fun _ => bx) ?_
     clear hK K hx5 hbn hl2 hT
     repeat
      refine ax.take (v := ?_) rfl (by decide +kernel) (by rfl) (fun _ _ _ h => h) bx ?_ ?_
      rotate_left
      focus
       intro w9 h9
       go_simp; (try with_reducible rfl); done
      simp only [Act.put, List.getElem_toArray, List.getElem_cons_succ, List.getElem_cons_zero, List.setIfInBounds_toArray, List.set_cons_zero, List.set_cons_succ]
     refine ax.one 8 rfl (by decide +kernel) (by rfl) (fun K hK => ?_)
     obtain ⟨y0, y1⟩ := ay hE
     have g0 := frozen_of_row _ _ 0 _ _ hE
     have g1 := frozen_of_row _ _ 1 _ _ hE
     go_simp
     clear y0 y1 g0 g1
     have hE2 := aC (aC hE (i := 0) (.slice A5 n5 c5)) (i := 1) (.int .i64 r5)
     have bx := (bx.setCell (p := ⟨bE, 0, none⟩) hcE (.slice A5 n5 c5)).setCell (p := ⟨bE, 1, none⟩) hcE (.int .i64 r5)
     have hxa := (hxa.set 0 (.slice A5 n5 c5)).set 1 (.int .i64 r5)
     refine hK.out _ _ (fun _ => bx) ?_
     clear hK K
     refine ax.one 9 rfl (by decide +kernel) (by rfl) (fun K hK => ?_)
     go_simp
     refine hK.out _ _ (fun _ => bx) ?_
     clear hK K
     refine ax.done (by decide +kernel) ?_
     go_wp2_with fail
     go_meet
     exact ⟨bE, A5, n5, c5, r5, rfl, rfl, hcE, hE2, Lib.hid hxa, bx⟩
   ·go_simp
    obtain ⟨W2, hWn⟩ : ∃ W2 : World, W2 = wd.alloc (.cells #[.slice none 0 0, .int .i64 0] 38) := ⟨_, rfl⟩
    have hbn : Below wd.heap.size wd W2 := by rw [hWn]; exact hbA _ _
    have hE : W2.heap[wd.heap.size]? = some (.cells #[.slice none 0 0, .int .i64 0] 38 (0, 0)) := by rw [hWn]; exact heap_alloc_new _ _
    have hbs := bx.size
    have bx := bx.trans (hbn.mono bx.size)
    rw [← hWn]
    refine hK.out _ _ (fun _ => bx) ?_
    obtain ⟨bE, hbE⟩ : ∃ bE, bE = wd.heap.size := ⟨_, rfl⟩
    rw [← hbE] at hE ⊢
    have hcE : wc.heap.size ≤ bE := by omega
    clear hK K hWn hbn hbE hbs
    refine ax.one 1 rfl (by decide +kernel) (by rfl) (fun K hK => ?_)
    go_simp
    go_at_call 8
    refine (HCL.out _ (Gl.trans (bx.mono hc0))).mono ?_
    rintro e W3 ⟨v2, vs, rfl, hvl, hown, hd, hbn⟩
    have bx := bx.trans (hbn.mono bx.size)
    obtain ⟨A2, c2, rfl, -⟩ := aJ hown
    have hla : LAt l W3 A2 := LAt.of hvl hown hd
    have hE := (hbn.block bE (lt_of_block hE)).trans hE
    try go_simp
    refine hK.out _ _ (fun _ => bx) ?_
    clear hK K hown hd hbn hvl
    refine ax.one 3 rfl (by decide +kernel) (by rfl) (fun K hK => ?_)
    go_simp
    go_at_call 9
    obtain ⟨T, hl2, hT⟩ := hla
    refine (HEX.out W3 A2 c2 T (Gl.trans (bx.mono hc0)) hl2 hT).mono ?_
    rintro e W4 ⟨v5, rfl, hx5, hbn⟩
    have hxa : XAt x W4 v5 bE := ⟨fun g => W3.heap.size ≤ g ∧ g < W4.heap.size, hx5.mono (fun g h1 h2 => ⟨h1, h2⟩), fun g hg => ⟨hg.2, by have := lt_of_block hE; omega⟩⟩
    have hE := (hbn.block bE (lt_of_block hE)).trans hE
    have bx := bx.trans (hbn.mono bx.size)
    have hv5 : ∃ A5 n5 c5 r5, v5 = .agg #[.slice A5 n5 c5, .int .i64 r5] := by
     obtain ⟨A5, c5, e, -⟩ := hx5
     exact ⟨_, _, _, _, e⟩
    obtain ⟨A5, n5, c5, r5, hv5⟩ := hv5
    subst hv5
    try go_simp
    refine hK.out _ _ (fun _ => bx) ?_
    clear hK K hx5 hbn hl2 hT
    repeat
     refine ax.take (v := ?_) rfl (by decide +kernel) (by rfl) (fun _ _ _ h => h) bx ?_ ?_
     rotate_left
     focus
      intro w9 h9
      go_simp; (try with_reducible rfl); done
     simp only [Act.put, List.getElem_toArray, List.getElem_cons_succ, List.getElem_cons_zero, List.setIfInBounds_toArray, List.set_cons_zero, List.set_cons_succ]
    refine ax.one 8 rfl (by decide +kernel) (by rfl) (fun K hK => ?_)
    obtain ⟨y0, y1⟩ := ay hE
    have g0 := frozen_of_row _ _ 0 _ _ hE
    have g1 := frozen_of_row _ _ 1 _ _ hE
    go_simp
    clear y0 y1 g0 g1
    have hE2 := aC (aC hE (i := 0) (.slice A5 n5 c5)) (i := 1) (.int .i64 r5)
    have bx := (bx.setCell (p := ⟨bE, 0, none⟩) hcE (.slice A5 n5 c5)).setCell (p := ⟨bE, 1, none⟩) hcE (.int .i64 r5)
    have hxa := (hxa.set 0 (.slice A5 n5 c5)).set 1 (.int .i64 r5)
    refine hK.out _ _ (fun _ => bx) ?_
    clear hK K
    refine ax.one 9 rfl (by decide +kernel) (by rfl) (fun K hK => ?_)
    go_simp
    refine hK.out _ _ (fun _ => bx) ?_
    clear hK K
    refine ax.done (by decide +kernel) ?_
    go_wp2_with fail
    go_meet
    exact ⟨bE, A5, n5, c5, r5, rfl, rfl, hcE, hE2, Lib.hid hxa, bx⟩
  case rest =>
   obtain ⟨bE, A5, n5, c5, r5, rfl, rfl, hcE, hE, hxa, hb2⟩ := hcut
   have Dq := Gl.trans (hb2.mono hc0)
   have hr2 := (hb2.block _ hltc).trans HRC.out
   clear HEX HCL HAW HRC
   by_cases he : er = 0
   ·obtain ⟨heI, hnn⟩ : ((er : Int) == 0) = true ∧ er = 0 := ⟨by simp [he], he⟩
    subst hnn
    obtain ⟨hck, hty, hxe⟩ : (bH l).2 = 0 ∧ kH l t = 0 ∧ fH l t = (x, 0) := by
     have h1 := HX.out
     have h2 := HER.out
     unfold kM at h1 h2
     by_cases c1 : (bH l).2 = 0
     ·rw [if_neg (by simp [c1])] at h1 h2
      by_cases c2 : kH l t = 0
      ·rw [if_neg (by simp [c2])] at h1 h2
       exact ⟨c1, c2, Prod.ext h1.symm h2.symm⟩
      ·rw [if_pos c2] at h2; exact absurd h2.symm c2
     ·rw [if_pos c1] at h2; exact absurd h2.symm c1
    have htt := D8 hty
    have hex2 : (fH l t).2 = 0 := by rw [hxe]
    have hwf := expand_wf hck htt hex2
    have hlm := (nK (b := 0) (sb := 0) (mb := 0) (A := none) (c := 0) hck hsz htt hst).2 hex2
    have hrh := Fy (A := A) (c := c) hck hsz hst htt hex2
    rw [hxe] at hwf hlm hrh
    have hand : bits .and .u16 (s : Int) 4095 = ((s &&& 4095 : Nat) : Int) := by
     rw [show (4095 : Int) = ((4095 : Nat) : Int) from rfl, u16_and_nat s 4095 hs (by decide)]
    obtain ⟨z, hz⟩ : ∃ z, z = s &&& 4095 := ⟨_, rfl⟩
    have hz1 : z < 4096 := by rw [hz]; exact Nat.lt_of_le_of_lt Nat.and_le_right (by decide)
    rw [← hz] at hand
    have H10 := Lib.hid (fun (W : World) (hW : Below wc.heap.size wc W) => Dn x z (by omega) _ W (· < W.heap.size) ((show ∃ T : Nat → Prop, kP W T x (.agg #[.slice A5 n5 c5, .int .i64 r5]) ∧ ∀ g, T g → g < W.heap.size ∧ g ≠ bE from hxa.out.keep hW).choose_spec.1.mono (fun g h h2 => h2)) (fun g h => h) hwf hlm)
    have H25 := Lib.hid (fun (W : World) (hW : Below w.heap.size w W) => hrh _ W (· < W.heap.size) z ((HLS.out W hW).1.mono (fun g _ h => h) (by decide) (fun _ _ h => h.mono (fun g _ h => h))) ((HT.out W hW).mono (fun g _ h => h)) (fun g h => h) hz1)
    obtain ⟨bb, hbb⟩ : ∃ bb, bb = bY x z := ⟨_, rfl⟩
    simp only [← hbb] at H10 H25
    clear hbb hz hrh hwf hlm hex2 htt hxe hty hck HX HER hxa
    have HR2 := Lib.hid hr2
    have HE := Lib.hid hE
    have hlt2 := lt_of_block hr2
    have hltE := lt_of_block hE
    have h2s := Dq.size
    clear hr2 hE
    go_upto_region 6 with fail
    obtain ⟨wq, hwq⟩ : ∃ wq : World, wq = wc := ⟨_, rfl⟩
    go_cut [6] (fun v6 wx => v6 = .bool true ∧ Below wq.heap.size wq wx)
    case first =>
     subst hwq
     refine ax.start (fun W' => Below wq.heap.size wq W') [] [0, 1, 2, 4, 5, 6, 7] (by kernel_rfl) (Below.refl _ _).drew (fun bx => ?_)
     repeat
      refine ax.take (v := ?_) rfl (by decide +kernel) (by rfl) (fun _ _ _ h => h) bx ?_ ?_
      rotate_left
      focus
       intro w9 h9
       have hr9 := (h9.block _ hlt2).trans HR2.out
       have hE9 := (h9.block _ hltE).trans HE.out
       obtain ⟨y0, y1, y2, y3, y4⟩ := aO hr9
       obtain ⟨x0, x1⟩ := ay hE9
       go_simp; (try with_reducible rfl); done
      simp only [Act.put, List.getElem_toArray, List.getElem_cons_succ, List.getElem_cons_zero, List.setIfInBounds_toArray, List.set_cons_zero, List.set_cons_succ]
     refine ax.one 3 rfl (by decide +kernel) (by rfl) (fun K hK => ?_)
     go_simp
     go_at_call 10
     refine (H10.out _ bx).mono ?_
     rintro e W2 ⟨rfl, hbn⟩
     have bx := bx.trans (hbn.mono bx.size)
     try go_simp
     refine hK.out _ _ (fun _ => bx) ?_
     clear hK K hbn
     refine ax.one 8 rfl (by decide +kernel) (by rfl) (fun K hK => ?_)
     go_simp
     go_at_call 11
     refine (H25.out _ (Dq.trans (bx.mono h2s))).mono ?_
     rintro e W3 ⟨rfl, hbn⟩
     have bx := bx.trans (hbn.mono bx.size)
     try go_simp
     refine hK.out _ _ (fun _ => bx) ?_
     clear hK K hbn
     have hbeq : (bb == bb) = true := by simp
     refine ax.one 9 rfl (by decide +kernel) (by rfl) (fun K hK => ?_)
     go_simp
     refine hK.out _ _ (fun _ => bx) ?_
     clear hK K
     refine ax.one 10 rfl (by decide +kernel) (by rfl) (fun K hK => ?_)
     go_simp
     refine hK.out _ _ (fun _ => bx) ?_
     clear hK K
     refine ax.done (by decide +kernel) ?_
     go_wp2_with fail
     go_meet
     exact ⟨by simp, bx⟩
    case rest =>
     obtain ⟨rfl, hb3⟩ := hcut
     subst hwq
     go_wp2
     go_ret
     exact ⟨rfl, Dq.trans (hb3.mono h2s)⟩
   ·have heI : ((er : Int) == 0) = false := by simp; omega
    go_wp2
    go_ret
    exact ⟨rfl, Dq⟩
end Go.Proofs.YtmohibkomlhlaaaGreatDoor
namespace Go.Proofs.YtmohibkomlhlaaaGreatDoor
open Go.ChangeShapes Go.WideShapes Go.ChangeAt Go.RowKit
open _root_.Go.Proofs.Tryz
theorem gTab : prog.globalNamed "math/bits.deBruijn32tab" = some 2 := by kernel_rfl
theorem gTabType : (prog.globals[2]?).map (·.type) = some 290 := by kernel_rfl
theorem cellsTab : prog.cellsOf 290 = 32 := by kernel_rfl
theorem cells5 : prog.cellsOf 5 = 1 := by kernel_rfl
theorem Fb {W : World} (h : laidMetH prog laid3 W) : Tz W := by
 rw [MakeChecks.laidMetH_plain _ _ _ (by kernel_rfl)] at h
 have ht : Lib.TabIs prog W "math/bits.deBruijn32tab" .u8 [0, 1, 28, 2, 29, 14, 24, 3, 30, 22, 20, 15, 25, 17, 4, 8, 31, 27, 13, 23, 21, 19, 16, 7, 26, 12, 18, 6, 11, 5, 10, 9] :=
  Lib.tabIs_of_head gTab gTabType underlying290 underlying5 cells5 cellsTab h
 have hc := fun i hi => ht.cell gTab i hi
 refine ⟨World.block_lt_of_cell? W _ (hc 0 (by decide)), fun i hi => ?_⟩
 rw [hc i hi]
 have : ∀ i, i < 32 → ([0, 1, 28, 2, 29, 14, 24, 3, 30, 22, 20, 15, 25, 17, 4, 8, 31, 27, 13, 23, 21, 19, 16, 7, 26, 12, 18, 6, 11, 5, 10, 9] : List Int).getD i 0 = ((tzTab.getD i 0 : Nat) : Int) := by decide
 rw [this i hi]
theorem u16_of {x : Int} (h : (Lit.int .u16 x).wf = true) : ∃ s : Nat, s < 65536 ∧ x = s := by
 simp [Lit.wf, IntKind.min, IntKind.max, IntKind.signed, IntKind.bits] at h
 exact ⟨x.toNat, by omega, by omega⟩
end Go.Proofs.YtmohibkomlhlaaaGreatDoor
