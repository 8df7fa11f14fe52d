/- The contracts of the parser's smallest methods: more, fail, is, take, need. The contracts of the parser's methods is, take, need. The contracts of reserved and function. The contracts of the parser's methods name, isInt, number. The contracts of the parser's methods names and braces. The contract of the parser's method joined, for any part. The contract of the parser's method threshold. The contract of the parser's method factor. The contract of the parser's method factor at a function's word. The contract of the parser's method term. The contract of the parser's method fault. Blocks of a declaration's 22 cells; the contract of the parser's method configuration. The contract of the parser's method declaration, all but the declaration of faults. -/
import Derived.Test.YtbmglebipepdmaaGreatDoorPkMem
import Derived.Test.YtbmglebipepdmaaGreatDoorProg
import Derived.Deep.QuietTactic
import Derived.BigQuiet
import Derived.Deep.RegionLaw
import Derived.StillTailTactics
import Derived.Deep.RegionHeld3
import Derived.Deep.AppendLies
import Derived.RegionTactic
import Derived.BigRegion
import Derived.Outline
import Derived.IntWalk
import Derived.Deep.LoopGhost
import Derived.Shelf.Abstract
import Derived.Deep.DeepCutAuto
import Derived.Deep.WholeRow
namespace Go.Proofs.YtbmglebipepdmaaGreatDoor
open Go.RowKit

theorem row4 {w : World} {b : Nat} {v0 v1 v2 v3 : Value} {t : TypeId} (h : w.heap[b]? = some (.cells #[v0, v1, v2, v3] t (0, 0))) :
  w.cell? ⟨b, 0, none⟩ = some v0 ∧ w.cell? ⟨b, 1, none⟩ = some v1 ∧ w.cell? ⟨b, 2, none⟩ = some v2 ∧ w.cell? ⟨b, 3, none⟩ = some v3 ∧ ∀ i, w.frozen? ⟨b, i, none⟩ = false :=
 ⟨(cell_of_row _ _ _ _ _ _ h).trans rfl, (cell_of_row _ _ _ _ _ _ h).trans rfl, (cell_of_row _ _ _ _ _ _ h).trans rfl, (cell_of_row _ _ _ _ _ _ h).trans rfl, fun i => frozen_of_row _ _ i _ _ h⟩

def tL (L : aW) (s : St) : Bool := decide (s.err = 0) && decide (s.pos < L.length)
theorem lq {a b : Nat} (h : a = b) : ((a : Int) == (b : Int)) = true := by subst h; simp
theorem eP {a b : Nat} (h : a ≠ b) : ((a : Int) == (b : Int)) = false := by rw [beq_eq_false_iff_ne]; omega
theorem gY {a b : Nat} (h : a ≠ b) : ((a : Int) != (b : Int)) = true := by rw [bne_iff_ne]; omega

theorem Mr {L : aW} {i : Nat} (h : 0 < L.length) : gM L i = (L[min i (L.length - 1)]'(by omega)).2 := by
 unfold gM fU
 rw [if_neg (by omega), List.getElem?_eq_getElem (by omega)]; rfl
theorem Gi {L : aW} {i : Nat} (h : L.length = 0) : gM L i = 1 := by unfold gM; rw [if_pos h]
end Go.Proofs.YtbmglebipepdmaaGreatDoor
namespace Go.Proofs.YtbmglebipepdmaaGreatDoor
open Go.RowKit

theorem more_ok {L : aW} {s : St} (h : tL L s = true) : s.err = 0 ∧ s.pos < L.length := by
 unfold tL at h
 simpa using h
theorem isW_at {L : aW} {s : St} {x : ByteArray} (h0 : s.err = 0) (hp : s.pos < L.length) : isW L x s = isWord x (L[s.pos]'hp).1 := by
 unfold isW
 rw [vo h0 hp]

theorem JR (a b : ByteArray) : (a == b) = (a.data == b.data) := by cases a; cases b; rfl
theorem jR (a b : ByteArray) : (a.toList == b.toList) = (a == b) := by
 rw [JR, Bool.eq_iff_iff, beq_iff_eq, beq_iff_eq, ByteArray.toList_eq, ByteArray.toList_eq]
 exact ⟨fun h => Array.toList_inj.1 h, fun h => by rw [h]⟩
theorem iJ (a b : ByteArray) : (a == b) = true ↔ a = b := by
 rw [JR, beq_iff_eq]
 exact ⟨fun h => by cases a; cases b; simp_all, fun h => by rw [h]⟩

theorem PSt.adv {b : Nat} {A : Option Addr} {n c : Nat} {L : aW} {ln : Nat → Nat} {s : St} {w w' : World} (h : PSt b A n c L ln s w) (h0 : s.err = 0) (hp : s.pos < L.length) {l : Nat}
  (hb : w'.heap[b]? = some (.cells #[.slice A n c, .int .i64 ((s.pos : Int) + 1), .int .i64 s.err, .int .i64 l] 139 (0, 0))) (hg : w.grownBy w' (some b)) : PSt b A n c L ln (adv s) w' :=
 ⟨⟨l, by rw [hb]; rfl, fun k => absurd h0 k⟩, h.len, hp, h.err, h.toks.keep (qM hg), h.few⟩

theorem need_eq (L : aW) (x : ByteArray) (s : St) : need L x s = if isW L x s then taken L x s else fails 2 (taken L x s) := by
 unfold need taken
 cases isW L x s <;> rfl

end Go.Proofs.YtbmglebipepdmaaGreatDoor
namespace Go.Proofs.YtbmglebipepdmaaGreatDoor
open Go.RowKit

theorem yQ (x : ByteArray) (l : List UInt8) : (x == bs l) = (x.toList == l) := by
 rw [← jR, ByteArray.toList_eq, ByteArray.toList_eq, eZ]
theorem Dp (x : ByteArray) : reserved x = (x.toList == [115, 105, 116, 101] || x.toList == [102, 97, 117, 108, 116, 115] || x.toList == [113, 117, 111, 114, 117, 109] || x.toList == [99, 111, 110, 102, 105, 103] || x.toList == [119, 105, 116, 110, 101, 115, 115] || x.toList == [99, 108, 105, 101, 110, 116] || x.toList == [99, 104, 97, 105, 110] || x.toList == [114, 101, 97, 100] || x.toList == [119, 114, 105, 116, 101] || x.toList == [99, 114, 97, 115, 104] || x.toList == [98, 121, 122, 97, 110, 116, 105, 110, 101] || x.toList == [110, 111, 110, 101] || x.toList == [116, 104, 114, 101, 115, 104, 111, 108, 100] || x.toList == [98, 121, 122] || x.toList == [100, 117, 97, 108] || x.toList == [109, 97, 106, 111, 114, 105, 116, 121] || x.toList == [97, 108, 108] || x.toList == [97, 110, 121] || x.toList == [115, 101, 114, 118, 101, 114, 115]) := by
 unfold reserved words
 simp only [List.any_cons, List.any_nil, Bool.or_false]
 simp only [← yQ, Bool.or_assoc]
 rfl

set_option maxRecDepth 100000 in
set_option maxHeartbeats 2000000 in
theorem xR (x : ByteArray) (w : World) : Calls Tryz.prog 143 #[.string x] w fun e w' => e = .returned (.bool (reserved x)) ∧ w = w' := by
 go_enter Tryz.func143, Tryz.ntmps143
 go_wp2
 all_goals go_ret
 all_goals refine ⟨?_, rfl⟩
 all_goals rw [Dp]
 all_goals first | (simp [*]; done) | simp_all
end Go.Proofs.YtbmglebipepdmaaGreatDoor
namespace Go.Proofs.YtbmglebipepdmaaGreatDoor
open Go.RowKit

theorem PSt.drewN {b : Nat} {A : Option Addr} {n c : Nat} {L : aW} {ln : Nat → Nat} {s : St} {w : World} (h : PSt b A n c L ln s w) (k : Nat) : PSt b A n c L ln s (w.drewN k) := h.below (below_drewN (Below.refl _ _) k)
theorem IK {L : aW} {s : St} (h0 : s.err = 0) (hp : s.pos < L.length) : tL L s = true := by unfold tL; simp [h0, hp]

theorem DL {L : aW} {s : St} (h : kK L s = false) : bD L s = (bs [], fails 2 s) := by unfold bD; rw [h]; rfl
theorem name_yes {L : aW} {s : St} (h : kK L s = true) : bD L s = (txt L s, adv s) := by unfold bD; rw [h]; rfl
theorem isName_at {L : aW} {s : St} (h0 : s.err = 0) (hp : s.pos < L.length) : kK L s = nN (L[s.pos]'hp).1 := by unfold kK; rw [vo h0 hp]
theorem txt_at {L : aW} {s : St} (h0 : s.err = 0) (hp : s.pos < L.length) : txt L s = (L[s.pos]'hp).1.text := by unfold txt; rw [vo h0 hp]
theorem num_no {L : aW} {s : St} (h : isInt L s = false) : jS L s = (0, fails 2 s) := by unfold jS; rw [h]; rfl
theorem intAt_at {L : aW} {s : St} (h0 : s.err = 0) (hp : s.pos < L.length) : FR L s = (L[s.pos]'hp).1.int := by unfold FR; rw [vo h0 hp]
theorem num_big {L : aW} {s : St} (h : isInt L s = true) (h2 : 100000 < FR L s) : jS L s = (0, fails 7 s) := by unfold jS; rw [h, if_pos h2]; rfl
theorem num_yes {L : aW} {s : St} (h : isInt L s = true) (h2 : ¬ 100000 < FR L s) : jS L s = ((FR L s : Int), adv s) := by unfold jS; rw [h, if_neg h2]; rfl
end Go.Proofs.YtbmglebipepdmaaGreatDoor
namespace Go.Proofs.YtbmglebipepdmaaGreatDoor
open Go.RowKit

theorem aM {w w' : World} {base e size n : Nat} {v : Value} {xs : List Value} (h : w.ownsRow base e size v n xs) (hg : w.grownBy w' v.ownBlock) (hb : base ≤ w.heap.size) : Below base w w' :=
 ⟨hg.os, hg.tape, hg.output, hg.size, fun k hk => hg.block k (by omega) (fun e => by have := (h.lt k e.symm).1; omega)⟩
theorem aR {a w w' : World} {b base : Nat} (h : a.grownBy w (some b)) (hb : Below base w w') (hs : a.heap.size ≤ base) : a.grownBy w' (some b) :=
 ⟨hb.os.trans h.os, hb.tape.trans h.tape, hb.output.trans h.output, Nat.le_trans h.size hb.size, fun k hk hne => (hb.block k (by omega)).trans (h.block k hk hne)⟩
theorem FH {L : aW} {f : Nat} {acc : List ByteArray} {s : St} (h : isW L (⟨#[44]⟩ : ByteArray) s = true) : kT L (f + 1) acc s = kT L f (acc ++ [(bD L (taken L (⟨#[44]⟩ : ByteArray) s)).1]) (bD L (taken L (⟨#[44]⟩ : ByteArray) s)).2 := by
 rw [kT, h]; unfold taken; rw [h]; rfl
theorem FE {L : aW} {f : Nat} {acc : List ByteArray} {s : St} (h : isW L (⟨#[44]⟩ : ByteArray) s = false) : kT L f acc s = (acc, s) := by
 cases f with
 |zero => rfl
 |succ f => rw [kT, h]; rfl
theorem qD {L : aW} {x : ByteArray} {s : St} (h : isW L x s = true) : (taken L x s).pos = s.pos + 1 := by unfold taken; rw [h]; rfl
theorem aB {L : aW} {x : ByteArray} {s : St} (h : isW L x s = false) : taken L x s = s := by unfold taken; rw [h]; rfl

end Go.Proofs.YtbmglebipepdmaaGreatDoor
namespace Go.Proofs.YtbmglebipepdmaaGreatDoor
open Go.RowKit

theorem Ac {L : aW} {x : ByteArray} {part : St → Tm × St} {f : Nat} {acc : List Tm} {s : St} (h : isW L x s = true) : jP L x part (f + 1) acc s = jP L x part f (acc ++ [(part (taken L x s)).1]) (part (taken L x s)).2 := by
 rw [jP, h]; unfold taken; rw [h]; rfl
theorem Ab {L : aW} {x : ByteArray} {part : St → Tm × St} {f : Nat} {acc : List Tm} {s : St} (h : isW L x s = false) : jP L x part f acc s = (acc, s) := by
 cases f with
 |zero => rfl
 |succ f => rw [jP, h]; rfl
theorem jF {w : World} {b : Nat} {v0 v1 v2 v3 v4 : Value} {t : TypeId} (h : w.heap[b]? = some (.cells #[v0, v1, v2, v3, v4] t (0, 0))) :
  w.cell? ⟨b, 0, none⟩ = some v0 ∧ w.cell? ⟨b, 1, none⟩ = some v1 ∧ w.cell? ⟨b, 2, none⟩ = some v2 ∧ w.cell? ⟨b, 3, none⟩ = some v3 ∧ w.cell? ⟨b, 4, none⟩ = some v4 ∧ ∀ i, w.frozen? ⟨b, i, none⟩ = false :=
 ⟨(cell_of_row _ _ _ _ _ _ h).trans rfl, (cell_of_row _ _ _ _ _ _ h).trans rfl, (cell_of_row _ _ _ _ _ _ h).trans rfl, (cell_of_row _ _ _ _ _ _ h).trans rfl, (cell_of_row _ _ _ _ _ _ h).trans rfl, fun i => frozen_of_row _ _ i _ _ h⟩
theorem BJ {w : World} {r : Nat} {o0 o1 o2 o3 o4 : Value} {t : TypeId} (h : w.heap[r]? = some (.cells #[o0, o1, o2, o3, o4] t (0, 0))) (v0 v1 v2 v3 v4 : Value) :
  (((((w.setCell ⟨r, 0, none⟩ v0).setCell ⟨r, 1, none⟩ v1).setCell ⟨r, 2, none⟩ v2).setCell ⟨r, 3, none⟩ v3).setCell ⟨r, 4, none⟩ v4).heap[r]? = some (.cells #[v0, v1, v2, v3, v4] t (0, 0)) ∧
   w.grownBy (((((w.setCell ⟨r, 0, none⟩ v0).setCell ⟨r, 1, none⟩ v1).setCell ⟨r, 2, none⟩ v2).setCell ⟨r, 3, none⟩ v3).setCell ⟨r, 4, none⟩ v4) (some r) :=
 ⟨aQ (aQ (aQ (aQ (aQ h _) _) _) _) _, aF (aF (aF (aF (aF (aJ _ _) _ _) _ _) _ _) _ _) _ _⟩
theorem tm_list {w : World} {S : Nat → Prop} {op : Int} {A : Option Addr} {c : Nat} {acc : List Tm} (h : aT (eG w S) w S 5 A acc) (hc : acc.length ≤ c) :
  eG w S (.mk op (bs []) 0 [] acc) (.agg #[.int .i64 op, .string (bs []), .int .i64 0, .slice none 0 0, .slice A acc.length c]) := by
 obtain ⟨vs, h1, h2, h3⟩ := h
 exact .mk op (bs []) 0 [] acc none A 0 c vs (.empty _ _ _ _) (Nat.le_refl _) h2 hc h1 h3
theorem flat5 {vs : List Value} (h : ∀ (i : Nat) (u : Value), vs[i]? = some u → (cellsOf u).length = 5) : ∀ (i j : Nat) (u : Value), vs[i]? = some u → j < 5 → (vs.flatMap cellsOf)[i * 5 + j]? = (cellsOf u)[j]? := by
 induction vs with
 |nil => intro i j u hu; simp at hu
 |cons v r ih =>
  intro i j u hu hj
  rw [List.flatMap_cons]
  have hv := h 0 v rfl
  cases i with
  |zero =>
   simp at hu; subst hu
   rw [List.getElem?_append_left (by omega)]; simp
  |succ i =>
   rw [List.getElem?_append_right (by omega), hv, show (i + 1) * 5 + j - 5 = i * 5 + j by omega]
   exact ih (fun i u hu => h (i + 1) u hu) i j u (by simpa using hu) hj
theorem tm_len {w : World} {S : Nat → Prop} {t : Tm} {v : Value} (h : eG w S t v) : (cellsOf v).length = 5 := by
 cases h; rfl
theorem zY {w : World} {S : Nat → Prop} {P : Tm → Value → Prop} {A : Option Addr} {acc : List Tm} (hP : ∀ t v, P t v → ∃ S', eG w S' t v) (h : aT P w S 5 A acc) (i : Nat) (hi : i < acc.length) :
  ∃ g o op nm nd wA wn wc kA kn kc, A = some ⟨g, o, none⟩ ∧ S g ∧ P acc[i] (.agg #[.int .i64 op, .string nm, .int .i64 nd, .slice wA wn wc, .slice kA kn kc]) ∧ w.cell? ⟨g, o + i * 5, none⟩ = some (.int .i64 op) ∧ w.cell? ⟨g, o + i * 5 + 1, none⟩ = some (.string nm) ∧
   w.cell? ⟨g, o + i * 5 + 2, none⟩ = some (.int .i64 nd) ∧ w.cell? ⟨g, o + i * 5 + 3, none⟩ = some (.slice wA wn wc) ∧ w.cell? ⟨g, o + i * 5 + 4, none⟩ = some (.slice kA kn kc) := by
 obtain ⟨vs, h1, h2, h3⟩ := h
 have hl : ∀ (i : Nat) (u : Value), vs[i]? = some u → (cellsOf u).length = 5 := by
  intro i u hu
  have hi := (List.getElem?_eq_some_iff.1 hu).1
  obtain ⟨S', hp⟩ := hP _ _ (h3 i (acc[i]'(by omega)) u (List.getElem?_eq_getElem _) hu)
  exact tm_len hp
 have hp := h3 i acc[i] (vs[i]'(by omega)) (List.getElem?_eq_getElem hi) (List.getElem?_eq_getElem _)
 obtain ⟨S', ht⟩ := hP _ _ hp
 obtain ⟨op, nm, nd, wA, wn, wc, kA, kn, kc, hv⟩ := ht.form
 obtain ⟨g, o, hA, hS, hc⟩ := h2.cells (by omega)
 rw [hv] at hp
 have hvi : vs[i]? = some (.agg #[.int .i64 op, .string nm, .int .i64 nd, .slice wA wn wc, .slice kA kn kc]) := by rw [List.getElem?_eq_getElem (by omega), hv]
 have k := fun j (hj : j < 5) u (hu : [.int .i64 op, .string nm, .int .i64 nd, .slice wA wn wc, .slice kA kn kc][j]? = some u) => hc (i * 5 + j) u ((flat5 hl i j _ hvi hj).trans hu)
 exact ⟨g, o, op, nm, nd, wA, wn, wc, kA, kn, kc, hA, hS, hp, k 0 (by decide) _ rfl, k 1 (by decide) _ rfl, k 2 (by decide) _ rfl, k 3 (by decide) _ rfl, k 4 (by decide) _ rfl⟩

theorem Aa {op : Int} {acc : List Tm} (h : acc.length ≠ 1) : Kc op acc = .mk op (bs []) 0 [] acc := by
 match acc with
 |[] => rfl
 |[t] => exact absurd rfl h
 |a :: b :: r => rfl
theorem gL {fn : Func} {slot : Nat} {R : Ending → World → Prop} {a : Act} {W : World} {r : Nat} {op : Int} {nm : ByteArray} {nd : Int} {wA : Option Addr} {wn wc : Nat} {kA : Option Addr} {kn kc : Nat} (hres : fn.results = #[.cell slot 39]) (hp : a.tmps.getD slot undef = .pointer (some ⟨r, 0, none⟩)) (hd : a.defers = [])
  (hblk : W.heap[r]? = some (.cells #[.int .i64 op, .string nm, .int .i64 nd, .slice wA wn wc, .slice kA kn kc] 39 (0, 0))) (hR : R (.returned (.agg #[.int .i64 op, .string nm, .int .i64 nd, .slice wA wn wc, .slice kA kn kc])) W) : bodyPost Tryz.prog fn R .ret a W := by
 obtain ⟨c0, c1, c2, c3, c4, -⟩ := jF hblk
 refine bodyPost_ret (v := .agg #[.int .i64 op, .string nm, .int .i64 nd, .slice wA wn wc, .slice kA kn kc]) ?_ hd hR
 have hp' : a.tmps[slot]?.getD undef = .pointer (some ⟨r, 0, none⟩) := by simpa using hp
 simp [results, hres, hp', go_sem, c0, c1, c2, c3, c4]

end Go.Proofs.YtbmglebipepdmaaGreatDoor
namespace Go.Proofs.YtbmglebipepdmaaGreatDoor
open Go.RowKit

structure oN (w : World) (b R T base : Nat) (n : Int) (kids : List Tm) (ws : List Int) (wV kV : Value) (wr : World) : Prop where
  hR : wr.heap[R]? = some (.cells #[.int .i64 0, .string ⟨#[]⟩, .int .i64 0, .slice none 0 0, .slice none 0 0] 39 (0, 0))
  hT : wr.heap[T]? = some (.cells #[.int .i64 2, .string ⟨#[]⟩, .int .i64 n, wV, kV] 39 (0, 0))
  hk : fE eG wr (fun g => base ≤ g ∧ some g ≠ wV.ownBlock) base 39 5 kV kids
  hw : wr.ownsRow base 3 1 wV ws.length (nO ws)
  hd : wV.ownBlock = none ∨ wV.ownBlock ≠ kV.ownBlock
  bR : b < R
  RT : R < T
  Tb : T < base
  sz : base ≤ wr.heap.size
  wR : w.heap.size = R
  fr : w.grownBy wr (some b)

section
variable {w : World} {b R T base : Nat} {n : Int} {kids : List Tm} {ws : List Int} {wV kV : Value} {wr wr' : World}
theorem oN.call (h : oN w b R T base n kids ws wV kV wr) (hg : wr.grownBy wr' (some b)) : oN w b R T base n kids ws wV kV wr' where
  hR := ah hg h.hR (by have := h.bR; omega)
  hT := ah hg h.hT (by have := h.bR; have := h.RT; omega)
  hk := h.hk.grown dM hg (by have := h.bR; have := h.RT; have := h.Tb; omega) (fun g hg => by have := h.bR; have := h.RT; have := h.Tb; omega)
  hw := gu h.hw hg (by have := h.bR; have := h.RT; have := h.Tb; omega)
  hd := h.hd
  bR := h.bR
  RT := h.RT
  Tb := h.Tb
  sz := Nat.le_trans h.sz hg.size
  wR := h.wR
  fr := aj h.fr hg
structure KidMem (w : World) (b R T base : Nat) (n : Int) (kids : List Tm) (ws : List Int) (wV kV kV' : Value) (wr : World) : Prop where
  hR : wr.heap[R]? = some (.cells #[.int .i64 0, .string ⟨#[]⟩, .int .i64 0, .slice none 0 0, .slice none 0 0] 39 (0, 0))
  hT : wr.heap[T]? = some (.cells #[.int .i64 2, .string ⟨#[]⟩, .int .i64 n, wV, kV] 39 (0, 0))
  hk : fE eG wr (fun g => base ≤ g ∧ some g ≠ wV.ownBlock) base 39 5 kV' kids
  hw : wr.ownsRow base 3 1 wV ws.length (nO ws)
  hd : wV.ownBlock = none ∨ wV.ownBlock ≠ kV'.ownBlock
  bR : b < R
  RT : R < T
  Tb : T < base
  sz : base ≤ wr.heap.size
  wR : w.heap.size = R
  fr : w.grownBy wr (some b)
theorem oN.drew (h : oN w b R T base n kids ws wV kV wr) : oN w b R T base n kids ws wV kV wr.drew := h.call (aH (Below.refl _ _).drew)
theorem jL {Wa W5 : World} {v : Value} {g m e size : Nat} {xs : List Value} {o : Obj} (hg : Wa.grownBy W5 v.ownBlock) (hown : Wa.ownsRow base e size v m xs) (hb : g < base) (h : Wa.heap[g]? = some o) : W5.heap[g]? = some o :=
  (hg.block g (lt_of_block h) (fun e => by have := (hown.lt g e.symm).1; omega)).trans h
theorem oN.push {W4 W5 : World} {o : Obj} {v' u : Value} {t : Tm} {vs news : List Value} {S : Nat → Prop} (h : oN w b R T base n kids ws wV kV W4) (l : vs.length = kids.length) (hn : cellsOf u = news)
    (hall : ∀ (i : Nat) (x : Tm) (u : Value), kids[i]? = some x → vs[i]? = some u → eG W4 (fun g => (base ≤ g ∧ some g ≠ wV.ownBlock) ∧ some g ≠ kV.ownBlock) x u)
    (ht : eG W4 S t u) (hnew : ∀ g, S g → base ≤ g ∧ some g ≠ wV.ownBlock ∧ some g ≠ kV.ownBlock)
    (hown : W5.ownsRow base 39 5 v' (kids.length + 1) (vs.flatMap cellsOf ++ news)) (hg : (W4.alloc o).grownBy W5 kV.ownBlock) (hv : v'.ownBlock = kV.ownBlock ∨ v'.ownBlock = some (W4.alloc o).heap.size) :
    KidMem w b R T base n (kids ++ [t]) ws wV kV v' W5 := by
  have hga : W4.grownBy W5 kV.ownBlock := aj (aH ((Below.refl _ _).alloc (Nat.le_refl _) o)) hg
  obtain ⟨vs0, l0, hown0, _⟩ := h.hk
  refine ⟨jL hga hown0 (by have := h.RT; have := h.Tb; omega) h.hR, jL hga hown0 h.Tb h.hT, ?_, ?_, ?_, h.bR, h.RT, h.Tb, Nat.le_trans h.sz hga.size, h.wR, ?_⟩
  · exact fE.push l hall dM hn (ht.mono (fun g hg _ => ⟨⟨(hnew g hg).1, (hnew g hg).2.1⟩, (hnew g hg).2.2⟩)) hown hga (by simpa using hv)
  · refine yI h.hw (fun g e => hga.block g (h.hw.lt g e).2 (fun e2 => ?_))
    rcases h.hd with hd | hd
    · rw [hd] at e; simp at e
    · exact hd (by rw [e, e2])
  · rcases h.hd with hd | hd
    · exact Or.inl hd
    · right
      intro e
      rcases hv with hv | hv
      · exact hd (by rw [e, hv])
      · rw [hv] at e
        have := (h.hw.lt _ e).2
        simp at this
        omega
  · refine ⟨hga.os.trans h.fr.os, hga.tape.trans h.fr.tape, hga.output.trans h.fr.output, Nat.le_trans h.fr.size hga.size, fun g hg1 hne => ?_⟩
    rw [hga.block g (Nat.lt_of_lt_of_le hg1 h.fr.size) (fun e => by have := (hown0.lt g e.symm).1; have := h.wR; have := h.RT; have := h.Tb; omega)]
    exact h.fr.block g hg1 hne
theorem KidMem.store {kV' : Value} (h : KidMem w b R T base n kids ws wV kV kV' wr) : oN w b R T base n kids ws wV kV' (wr.setCell ⟨T, 4, none⟩ kV') := by
  have hg : wr.grownBy (wr.setCell ⟨T, 4, none⟩ kV') (some T) := aF (aJ _ _) _ _
  refine ⟨ah hg h.hR (by have := h.RT; omega), aQ h.hT _, h.hk.grown dM hg h.Tb (fun g hg => by have := h.Tb; omega), gu h.hw hg h.Tb, h.hd, h.bR, h.RT, h.Tb, ?_, h.wR, ?_⟩
  · exact Nat.le_trans h.sz hg.size
  · exact aR h.fr (below_grown hg (Nat.le_refl _) (by have := h.Tb; have := h.sz; omega)) (by have := h.wR; have := h.RT; omega)
theorem oN.weigh {W7 W8 : World} {wV' : Value} {x : Int} (h : oN w b R T base n kids ws wV kV W7) (hown : W8.ownsRow base 3 1 wV' (ws.length + 1) (nO ws ++ [.int .i64 x])) (hg : W7.grownBy W8 wV.ownBlock) (hv : wV'.ownBlock = wV.ownBlock ∨ wV'.ownBlock = some (W7.heap.size + 1)) :
    W8.heap[T]? = some (.cells #[.int .i64 2, .string ⟨#[]⟩, .int .i64 n, wV, kV] 39 (0, 0)) ∧ oN w b R T base n kids (ws ++ [x]) wV' kV (W8.setCell ⟨T, 3, none⟩ wV') := by
  have hT8 := jL hg h.hw h.Tb h.hT
  have hR8 := jL hg h.hw (by have := h.RT; have := h.Tb; omega) h.hR
  have hg8 : W8.grownBy (W8.setCell ⟨T, 3, none⟩ wV') (some T) := aF (aJ _ _) _ _
  have hk8 : fE eG W8 (fun g => base ≤ g ∧ some g ≠ wV'.ownBlock) base 39 5 kV kids := by
    have h1 : fE eG W7 (fun g => (base ≤ g ∧ some g ≠ wV'.ownBlock) ∧ some g ≠ wV.ownBlock) base 39 5 kV kids := h.hk.mono dM (fun g hg1 hg2 => ⟨⟨hg1.1, fun e => by
      rcases hv with hv | hv
      · exact hg1.2 (by rw [e, hv])
      · rw [hv] at e; injection e; omega⟩, hg1.2⟩)
    refine (h1.keep dM (fun g hg1 hg2 => hg.block g hg2 hg1.2) (fun g e => hg.block g (h.hk.lt g e).2 (fun e2 => ?_))).mono dM (fun g hg1 _ => hg1.1)
    rcases h.hd with hd | hd
    · rw [hd] at e2; simp at e2
    · exact hd (by rw [e, e2])
  refine ⟨hT8, ah hg8 hR8 (by have := h.RT; omega), aQ hT8 _, hk8.grown dM hg8 h.Tb (fun g hg => by have := h.Tb; omega), ?_, ?_, h.bR, h.RT, h.Tb, ?_, h.wR, ?_⟩
  · have := gu hown hg8 h.Tb
    rw [xY, List.length_append]; exact this
  · by_cases e : wV'.ownBlock = kV.ownBlock
    · rcases hv with hv | hv
      · rcases h.hd with hd | hd
        · exact Or.inl (by rw [hv, hd])
        · exact absurd (by rw [← hv, e]) hd
      · have := (h.hk.lt (W7.heap.size + 1) (by rw [← e, hv])).2
        omega
    · exact Or.inr e
  · exact Nat.le_trans (Nat.le_trans h.sz hg.size) hg8.size
  · refine aR ⟨hg.os.trans h.fr.os, hg.tape.trans h.fr.tape, hg.output.trans h.fr.output, Nat.le_trans h.fr.size hg.size, fun g hg1 hne => ?_⟩ (below_grown hg8 (Nat.le_refl _) (by have := h.Tb; have := h.sz; have := hg.size; omega)) (by have := h.wR; have := h.RT; omega)
    rw [hg.block g (Nat.lt_of_lt_of_le hg1 h.fr.size) (fun e => by have := (h.hw.lt g e.symm).1; have := h.wR; have := h.RT; have := h.Tb; omega)]
    exact h.fr.block g hg1 hne
theorem oN.tm (h : oN w b R T base n kids ws wV kV wr) (heavy : Bool) (_hl : ws.length = kids.length) : ∃ wA wn wc kA kc, (bif heavy then wV else .slice none 0 0) = .slice wA wn wc ∧ kV = .slice kA kids.length kc ∧
    eG wr (base ≤ ·) (.mk 2 (bs []) n (if heavy then ws else []) kids) (.agg #[.int .i64 2, .string (bs []), .int .i64 n, .slice wA wn wc, .slice kA kids.length kc]) := by
  obtain ⟨kA, kc, rfl, hkc, vs, h1, h2, h3⟩ := h.hk.list dM
  obtain ⟨wA, wc, hwV, hwc⟩ := aS h.hw
  cases heavy
  · exact ⟨none, 0, 0, kA, kc, rfl, rfl, .mk 2 (bs []) n [] kids none kA 0 kc vs (.empty _ _ _ _) (Nat.le_refl _) h2 hkc h1 (fun i t v ht hv => (h3 i t v ht hv).mono (fun g hg _ => hg.1))⟩
  · refine ⟨wA, ws.length, wc, kA, kc, hwV, rfl, .mk 2 (bs []) n ws kids wA kA wc kc vs (aL.own (e := 3) (c := wc) ?_) hwc h2 hkc h1 (fun i t v ht hv => (h3 i t v ht hv).mono (fun g hg _ => hg.1))⟩
    have := h.hw
    rw [hwV] at this
    exact this
theorem thrGo_err {L : aW} {pt : St → Tm × St} {f : Nat} {r : Thr} {s : St} (h : s.err ≠ 0) : oV L pt f r s = (r, s) := by
  cases f with
  | zero => rfl
  | succ f => rw [oV, if_neg h]
theorem BB {L : aW} {pt : St → Tm × St} {f : Nat} {r : Thr} {s : St} (h : s.err = 0) (h2 : isW L (⟨#[44]⟩ : ByteArray) (ji L pt r s).2 = true) : oV L pt (f + 1) r s = oV L pt f (ji L pt r s).1 (taken L (⟨#[44]⟩ : ByteArray) (ji L pt r s).2) := by
  rw [oV, if_pos h, if_pos h2]; unfold taken; rw [if_pos h2]
theorem E8 {L : aW} {pt : St → Tm × St} {f : Nat} {r : Thr} {s : St} (h : s.err = 0) (h2 : isW L (⟨#[44]⟩ : ByteArray) (ji L pt r s).2 = false) : oV L pt (f + 1) r s = ji L pt r s := by
  rw [oV, if_pos h, h2]; rfl
theorem E9 {L : aW} {pt : St → Tm × St} {r : Thr} {s : St} (h : isW L (⟨#[42]⟩ : ByteArray) (pt s).2 = true) : ji L pt r s = (⟨r.kids ++ [(pt s).1], r.ws ++ [(jS L (taken L (⟨#[42]⟩ : ByteArray) (pt s).2)).1], true⟩, (jS L (taken L (⟨#[42]⟩ : ByteArray) (pt s).2)).2) := by
  unfold ji taken; rw [if_pos h, if_pos h]
theorem Dg {L : aW} {pt : St → Tm × St} {r : Thr} {s : St} (h : isW L (⟨#[42]⟩ : ByteArray) (pt s).2 = false) : ji L pt r s = (⟨r.kids ++ [(pt s).1], r.ws ++ [1], r.heavy⟩, (pt s).2) := by
  unfold ji; rw [h]; rfl
theorem uT {L : aW} {x : ByteArray} {s : St} (h : s.pos ≤ L.length) : Ahead L s (taken L x s) := by
  unfold taken
  split
  · rename_i hw; exact bW (dW hw)
  · exact .refl h
end

end Go.Proofs.YtbmglebipepdmaaGreatDoor
namespace Go.Proofs.YtbmglebipepdmaaGreatDoor
open Go.RowKit

def Deep (L : aW) (K : St → Prop) (s : St) : Prop := s.err = 0 → ∀ t : St, t.pos ≤ L.length → (t.err = 0 → s.pos + 1 ≤ t.pos) → K t
theorem Deep.ahead {L : aW} {K : St → Prop} {s t : St} (h : Deep L K s) (ha : Ahead L s t) : Deep L K t := fun he u hu hp => h (ha.ok he) u hu (fun e => by have := hp e; have := ha.le; omega)

theorem Mk {L : aW} {pt : St → Tm × St} {s : St} (h : isInt L s = true) : bZ L pt s = pThr L pt s := by unfold bZ; rw [if_pos h]
theorem Gh {L : aW} {pt : St → Tm × St} {s : St} (h : isInt L s = false) (h2 : isW L (⟨#[40]⟩ : ByteArray) s = true) : bZ L pt s = ((pt (taken L (⟨#[40]⟩ : ByteArray) s)).1, need L (⟨#[41]⟩ : ByteArray) (pt (taken L (⟨#[40]⟩ : ByteArray) s)).2) := by
 unfold bZ taken; rw [h, if_neg (by simp), if_pos h2, if_pos h2]
theorem uN {L : aW} {pt : St → Tm × St} {s : St} (h : isInt L s = false) (h2 : isW L (⟨#[40]⟩ : ByteArray) s = false) (h3 : kD L s = false) : bZ L pt s = (.named (bD L s).1, (bD L s).2) := by
 unfold bZ; rw [h, if_neg (by simp), h2, if_neg (by simp), h3, if_neg (by simp)]
theorem int_ahead {L : aW} {s : St} (h : isInt L s = true) : (jS L s).2.err = 0 → s.pos + 1 ≤ (jS L s).2.pos := by
 intro e
 unfold jS at e ⊢
 rw [if_pos h] at e ⊢
 split at e
 ·rename_i h2
  simp only [fails, (vW h).1, if_pos] at e
  simp at e
 ·rename_i h2
  rw [if_neg h2]; exact Nat.le_refl _

theorem Jc {L : aW} {pt : St → Tm × St} {s : St} (h : isInt L s = false) (h2 : isW L (⟨#[40]⟩ : ByteArray) s = false) (h3 : kD L s = true) (h5 : iL (txt L s) = 5) : bZ L pt s = (.mk 5 (bs []) 0 [] [(pt (need L (⟨#[40]⟩ : ByteArray) (adv s))).1], need L (⟨#[41]⟩ : ByteArray) (pt (need L (⟨#[40]⟩ : ByteArray) (adv s))).2) := by
 unfold bZ; rw [h, if_neg (by simp), h2, if_neg (by simp), if_pos h3, if_pos h5]
theorem rZ {L : aW} {pt : St → Tm × St} {s : St} (h : isInt L s = false) (h2 : isW L (⟨#[40]⟩ : ByteArray) s = false) (h3 : kD L s = true) (h5 : iL (txt L s) ≠ 5) : bZ L pt s = (.mk (iL (txt L s)) (mg L (need L (⟨#[40]⟩ : ByteArray) (adv s))).1 0 [] [], need L (⟨#[41]⟩ : ByteArray) (mg L (need L (⟨#[40]⟩ : ByteArray) (adv s))).2) := by
 unfold bZ; rw [h, if_neg (by simp), h2, if_neg (by simp), if_pos h3, if_neg h5]

end Go.Proofs.YtbmglebipepdmaaGreatDoor
namespace Go.Proofs.YtbmglebipepdmaaGreatDoor
open Go.RowKit
end Go.Proofs.YtbmglebipepdmaaGreatDoor
namespace Go.Proofs.YtbmglebipepdmaaGreatDoor
open Go.RowKit

def Fuel (L : aW) (f : Nat) (s : St) : Prop := s.err = 0 → L.length + 1 ≤ f + s.pos
theorem Fuel.ahead {L : aW} {f : Nat} (s t : St) (h : Fuel L f s) (ha : Ahead L s t) : Fuel L f t := fun e => by have := h (ha.ok e); have := ha.le; omega
theorem Fuel.deep {L : aW} {f : Nat} {s : St} (h : Fuel L (f + 1) s) : Deep L (Fuel L f) s := fun e t _ hp e2 => by have := h e; have := hp e2; omega
end Go.Proofs.YtbmglebipepdmaaGreatDoor
namespace Go.Proofs.YtbmglebipepdmaaGreatDoor
open Go.RowKit

theorem Ba {w : World} {b : Nat} {v0 v1 v2 v3 v4 v5 : Value} {t : TypeId} (h : w.heap[b]? = some (.cells #[v0, v1, v2, v3, v4, v5] t (0, 0))) :
  w.cell? ⟨b, 0, none⟩ = some v0 ∧ w.cell? ⟨b, 1, none⟩ = some v1 ∧ w.cell? ⟨b, 2, none⟩ = some v2 ∧ w.cell? ⟨b, 3, none⟩ = some v3 ∧ w.cell? ⟨b, 4, none⟩ = some v4 ∧ w.cell? ⟨b, 5, none⟩ = some v5 ∧ ∀ i, w.frozen? ⟨b, i, none⟩ = false :=
 ⟨(cell_of_row _ _ _ _ _ _ h).trans rfl, (cell_of_row _ _ _ _ _ _ h).trans rfl, (cell_of_row _ _ _ _ _ _ h).trans rfl, (cell_of_row _ _ _ _ _ _ h).trans rfl, (cell_of_row _ _ _ _ _ _ h).trans rfl, (cell_of_row _ _ _ _ _ _ h).trans rfl, fun i => frozen_of_row _ _ i _ _ h⟩
theorem set6 {w : World} {r : Nat} {o0 o1 o2 o3 o4 o5 : Value} {t : TypeId} (h : w.heap[r]? = some (.cells #[o0, o1, o2, o3, o4, o5] t (0, 0))) (v0 v1 v2 v3 v4 v5 : Value) :
  ((((((w.setCell ⟨r, 0, none⟩ v0).setCell ⟨r, 1, none⟩ v1).setCell ⟨r, 2, none⟩ v2).setCell ⟨r, 3, none⟩ v3).setCell ⟨r, 4, none⟩ v4).setCell ⟨r, 5, none⟩ v5).heap[r]? = some (.cells #[v0, v1, v2, v3, v4, v5] t (0, 0)) ∧
   w.grownBy ((((((w.setCell ⟨r, 0, none⟩ v0).setCell ⟨r, 1, none⟩ v1).setCell ⟨r, 2, none⟩ v2).setCell ⟨r, 3, none⟩ v3).setCell ⟨r, 4, none⟩ v4).setCell ⟨r, 5, none⟩ v5) (some r) :=
 ⟨aQ (aQ (aQ (aQ (aQ (aQ h _) _) _) _) _) _, aF (aF (aF (aF (aF (aF (aJ _ _) _ _) _ _) _ _) _ _) _ _) _ _⟩
theorem lY {fn : Func} {slot : Nat} {R : Ending → World → Prop} {a : Act} {W : World} {r : Nat} {op : Int} {nm : ByteArray} {by_ cr : Int} {bA : Option Addr} {bn bc : Nat} {cA : Option Addr} {cn cc : Nat} (hres : fn.results = #[.cell slot 82]) (hp : a.tmps.getD slot undef = .pointer (some ⟨r, 0, none⟩)) (hd : a.defers = [])
  (hblk : W.heap[r]? = some (.cells #[.int .i64 op, .string nm, .int .i64 by_, .int .i64 cr, .slice bA bn bc, .slice cA cn cc] 82 (0, 0))) (hR : R (.returned (.agg #[.int .i64 op, .string nm, .int .i64 by_, .int .i64 cr, .slice bA bn bc, .slice cA cn cc])) W) : bodyPost Tryz.prog fn R .ret a W := by
 obtain ⟨c0, c1, c2, c3, c4, c5, -⟩ := Ba hblk
 refine bodyPost_ret (v := .agg #[.int .i64 op, .string nm, .int .i64 by_, .int .i64 cr, .slice bA bn bc, .slice cA cn cc]) ?_ hd hR
 have hp' : a.tmps[slot]?.getD undef = .pointer (some ⟨r, 0, none⟩) := by simpa using hp
 simp [results, hres, hp', go_sem, c0, c1, c2, c3, c4, c5]
theorem Me {L : aW} {x : Int} {s : St} (h1 : isW L (⟨#[110, 111, 110, 101]⟩ : ByteArray) s = true) : bX L x s = (⟨1, bs [], 0, 0, [], []⟩, taken L (⟨#[110, 111, 110, 101]⟩ : ByteArray) s) := by unfold bX taken; rw [if_pos h1, if_pos h1]
theorem fault_thr {L : aW} {x : Int} {s : St} (h1 : isW L (⟨#[110, 111, 110, 101]⟩ : ByteArray) s = false) (h2 : isW L (⟨#[116, 104, 114, 101, 115, 104, 111, 108, 100]⟩ : ByteArray) s = true) : bX L x s = (⟨2, bs [], (jS L (taken L (⟨#[116, 104, 114, 101, 115, 104, 111, 108, 100]⟩ : ByteArray) s)).1, (jS L (jS L (taken L (⟨#[116, 104, 114, 101, 115, 104, 111, 108, 100]⟩ : ByteArray) s)).2).1, [], []⟩, (jS L (jS L (taken L (⟨#[116, 104, 114, 101, 115, 104, 111, 108, 100]⟩ : ByteArray) s)).2).2) := by
 unfold bX taken; rw [h1, if_neg (by simp), if_pos h2, if_pos h2]
theorem Mg {L : aW} {x : Int} {s : St} (h1 : isW L (⟨#[110, 111, 110, 101]⟩ : ByteArray) s = false) (h2 : isW L (⟨#[116, 104, 114, 101, 115, 104, 111, 108, 100]⟩ : ByteArray) s = false) (h3 : isW L (⟨#[98, 121, 122]⟩ : ByteArray) s = true) (h4 : isW L (⟨#[99, 114, 97, 115, 104]⟩ : ByteArray) (bS L (taken L (⟨#[98, 121, 122]⟩ : ByteArray) s)).2 = true) :
  bX L x s = (⟨3, bs [], 0, 0, (bS L (taken L (⟨#[98, 121, 122]⟩ : ByteArray) s)).1, (bS L (taken L (⟨#[99, 114, 97, 115, 104]⟩ : ByteArray) (bS L (taken L (⟨#[98, 121, 122]⟩ : ByteArray) s)).2)).1⟩, (bS L (taken L (⟨#[99, 114, 97, 115, 104]⟩ : ByteArray) (bS L (taken L (⟨#[98, 121, 122]⟩ : ByteArray) s)).2)).2) := by
 have e : taken L (⟨#[98, 121, 122]⟩ : ByteArray) s = adv s := by unfold taken; rw [if_pos h3]
 rw [e] at h4 ⊢
 have e2 : taken L (⟨#[99, 114, 97, 115, 104]⟩ : ByteArray) (bS L (adv s)).2 = adv (bS L (adv s)).2 := by unfold taken; rw [if_pos h4]
 rw [e2]
 unfold bX; rw [h1, if_neg (by simp), h2, if_neg (by simp), if_pos h3, if_pos h4]
theorem Mh {L : aW} {x : Int} {s : St} (h1 : isW L (⟨#[110, 111, 110, 101]⟩ : ByteArray) s = false) (h2 : isW L (⟨#[116, 104, 114, 101, 115, 104, 111, 108, 100]⟩ : ByteArray) s = false) (h3 : isW L (⟨#[98, 121, 122]⟩ : ByteArray) s = true) (h4 : isW L (⟨#[99, 114, 97, 115, 104]⟩ : ByteArray) (bS L (taken L (⟨#[98, 121, 122]⟩ : ByteArray) s)).2 = false) :
  bX L x s = (⟨3, bs [], 0, 0, (bS L (taken L (⟨#[98, 121, 122]⟩ : ByteArray) s)).1, []⟩, (bS L (taken L (⟨#[98, 121, 122]⟩ : ByteArray) s)).2) := by
 have e : taken L (⟨#[98, 121, 122]⟩ : ByteArray) s = adv s := by unfold taken; rw [if_pos h3]
 rw [e] at h4 ⊢
 unfold bX; rw [h1, if_neg (by simp), h2, if_neg (by simp), if_pos h3, h4, if_neg (by simp)]
theorem Jb {L : aW} {x : Int} {s : St} (h1 : isW L (⟨#[110, 111, 110, 101]⟩ : ByteArray) s = false) (h2 : isW L (⟨#[116, 104, 114, 101, 115, 104, 111, 108, 100]⟩ : ByteArray) s = false) (h3 : isW L (⟨#[98, 121, 122]⟩ : ByteArray) s = false) (h4 : isW L (⟨#[99, 114, 97, 115, 104]⟩ : ByteArray) s = true) :
  bX L x s = (⟨3, bs [], 0, 0, [], (bS L (taken L (⟨#[99, 114, 97, 115, 104]⟩ : ByteArray) s)).1⟩, (bS L (taken L (⟨#[99, 114, 97, 115, 104]⟩ : ByteArray) s)).2) := by
 unfold bX taken; rw [h1, if_neg (by simp), h2, if_neg (by simp), h3, if_neg (by simp), if_pos h4, if_pos h4]
theorem Mf {L : aW} {x : Int} {s : St} (h1 : isW L (⟨#[110, 111, 110, 101]⟩ : ByteArray) s = false) (h2 : isW L (⟨#[116, 104, 114, 101, 115, 104, 111, 108, 100]⟩ : ByteArray) s = false) (h3 : isW L (⟨#[98, 121, 122]⟩ : ByteArray) s = false) (h4 : isW L (⟨#[99, 114, 97, 115, 104]⟩ : ByteArray) s = false) (h5 : isW L (⟨#[115, 105, 116, 101]⟩ : ByteArray) s = false) :
  bX L x s = (⟨6, (bD L s).1, 0, 0, [], []⟩, (bD L s).2) := by
 unfold bX; rw [h1, if_neg (by simp), h2, if_neg (by simp), h3, if_neg (by simp), h4, if_neg (by simp), h5, if_neg (by simp)]
theorem wI (w : World) (S : Nat → Prop) (op : Int) (nm : ByteArray) (x y : Int) : lm w S ⟨op, nm, x, y, [], []⟩ (.agg #[.int .i64 op, .string nm, .int .i64 x, .int .i64 y, .slice none 0 0, .slice none 0 0]) :=
 ⟨none, 0, none, 0, rfl, .empty _ _ _ _, Nat.le_refl _, .empty _ _ _ _, Nat.le_refl _⟩

end Go.Proofs.YtbmglebipepdmaaGreatDoor
namespace Go.Proofs.YtbmglebipepdmaaGreatDoor
open Go.RowKit

theorem lC {w : World} {b : Nat} {v0 v1 v2 v3 v4 v5 v6 v7 v8 v9 v10 v11 v12 v13 v14 v15 v16 v17 v18 v19 v20 v21 : Value} {t : TypeId} (h : w.heap[b]? = some (.cells #[v0, v1, v2, v3, v4, v5, v6, v7, v8, v9, v10, v11, v12, v13, v14, v15, v16, v17, v18, v19, v20, v21] t (0, 0))) :
  w.cell? ⟨b, 0, none⟩ = some v0 ∧ w.cell? ⟨b, 1, none⟩ = some v1 ∧ w.cell? ⟨b, 2, none⟩ = some v2 ∧ w.cell? ⟨b, 3, none⟩ = some v3 ∧ w.cell? ⟨b, 4, none⟩ = some v4 ∧ w.cell? ⟨b, 5, none⟩ = some v5 ∧ w.cell? ⟨b, 6, none⟩ = some v6 ∧ w.cell? ⟨b, 7, none⟩ = some v7 ∧ w.cell? ⟨b, 8, none⟩ = some v8 ∧ w.cell? ⟨b, 9, none⟩ = some v9 ∧ w.cell? ⟨b, 10, none⟩ = some v10 ∧ w.cell? ⟨b, 11, none⟩ = some v11 ∧ w.cell? ⟨b, 12, none⟩ = some v12 ∧ w.cell? ⟨b, 13, none⟩ = some v13 ∧ w.cell? ⟨b, 14, none⟩ = some v14 ∧ w.cell? ⟨b, 15, none⟩ = some v15 ∧ w.cell? ⟨b, 16, none⟩ = some v16 ∧ w.cell? ⟨b, 17, none⟩ = some v17 ∧ w.cell? ⟨b, 18, none⟩ = some v18 ∧ w.cell? ⟨b, 19, none⟩ = some v19 ∧ w.cell? ⟨b, 20, none⟩ = some v20 ∧ w.cell? ⟨b, 21, none⟩ = some v21 ∧ ∀ i, w.frozen? ⟨b, i, none⟩ = false :=
 ⟨(cell_of_row _ _ _ _ _ _ h).trans rfl, (cell_of_row _ _ _ _ _ _ h).trans rfl, (cell_of_row _ _ _ _ _ _ h).trans rfl, (cell_of_row _ _ _ _ _ _ h).trans rfl, (cell_of_row _ _ _ _ _ _ h).trans rfl, (cell_of_row _ _ _ _ _ _ h).trans rfl, (cell_of_row _ _ _ _ _ _ h).trans rfl, (cell_of_row _ _ _ _ _ _ h).trans rfl, (cell_of_row _ _ _ _ _ _ h).trans rfl, (cell_of_row _ _ _ _ _ _ h).trans rfl, (cell_of_row _ _ _ _ _ _ h).trans rfl, (cell_of_row _ _ _ _ _ _ h).trans rfl, (cell_of_row _ _ _ _ _ _ h).trans rfl, (cell_of_row _ _ _ _ _ _ h).trans rfl, (cell_of_row _ _ _ _ _ _ h).trans rfl, (cell_of_row _ _ _ _ _ _ h).trans rfl, (cell_of_row _ _ _ _ _ _ h).trans rfl, (cell_of_row _ _ _ _ _ _ h).trans rfl, (cell_of_row _ _ _ _ _ _ h).trans rfl, (cell_of_row _ _ _ _ _ _ h).trans rfl, (cell_of_row _ _ _ _ _ _ h).trans rfl, (cell_of_row _ _ _ _ _ _ h).trans rfl, fun i => frozen_of_row _ _ i _ _ h⟩
structure jr (b d : Nat) (w w' : World) : Prop where
 os : w'.os = w.os
 tape : w'.tape = w.tape
 output : w'.output = w.output
 size : w.heap.size ≤ w'.heap.size
 block : ∀ k, k < w.heap.size → k ≠ b → k ≠ d → w'.heap[k]? = w.heap[k]?
theorem jr.refl (b d : Nat) (w : World) : jr b d w w := ⟨rfl, rfl, rfl, Nat.le_refl _, fun _ _ _ _ => rfl⟩
theorem jr.call {b d : Nat} {w W W' : World} (h : jr b d w W) (hg : W.grownBy W' (some b)) : jr b d w W' :=
 ⟨hg.os.trans h.os, hg.tape.trans h.tape, hg.output.trans h.output, Nat.le_trans h.size hg.size, fun k hk h1 h2 => (hg.block k (Nat.lt_of_lt_of_le hk h.size) (fun e => h1 (by injection e))).trans (h.block k hk h1 h2)⟩
theorem jr.set {b d : Nat} {w W W' : World} (h : jr b d w W) (hg : W.grownBy W' (some d)) : jr b d w W' :=
 ⟨hg.os.trans h.os, hg.tape.trans h.tape, hg.output.trans h.output, Nat.le_trans h.size hg.size, fun k hk h1 h2 => (hg.block k (Nat.lt_of_lt_of_le hk h.size) (fun e => h2 (by injection e))).trans (h.block k hk h1 h2)⟩

theorem cfg_crash {L : aW} {d : Dc} {s : St} (h : isW L (⟨#[99, 114, 97, 115, 104]⟩ : ByteArray) s = true) :
  pCfg L d s = ({ d with proto := (⟨#[99, 114, 97, 115, 104]⟩ : ByteArray), read := (jc L (need L (⟨#[114, 101, 97, 100]⟩ : ByteArray) (taken L (⟨#[99, 114, 97, 115, 104]⟩ : ByteArray) s))).1, write := (jc L (need L (⟨#[119, 114, 105, 116, 101]⟩ : ByteArray) (jc L (need L (⟨#[114, 101, 97, 100]⟩ : ByteArray) (taken L (⟨#[99, 114, 97, 115, 104]⟩ : ByteArray) s))).2)).1, use := (bD L (need L (⟨#[102, 97, 117, 108, 116, 115]⟩ : ByteArray) (jc L (need L (⟨#[119, 114, 105, 116, 101]⟩ : ByteArray) (jc L (need L (⟨#[114, 101, 97, 100]⟩ : ByteArray) (taken L (⟨#[99, 114, 97, 115, 104]⟩ : ByteArray) s))).2)).2)).1 }, (bD L (need L (⟨#[102, 97, 117, 108, 116, 115]⟩ : ByteArray) (jc L (need L (⟨#[119, 114, 105, 116, 101]⟩ : ByteArray) (jc L (need L (⟨#[114, 101, 97, 100]⟩ : ByteArray) (taken L (⟨#[99, 114, 97, 115, 104]⟩ : ByteArray) s))).2)).2)).2) := by
 have e : taken L (⟨#[99, 114, 97, 115, 104]⟩ : ByteArray) s = adv s := by unfold taken; rw [if_pos h]
 rw [e]
 unfold pCfg
 simp only [h, if_true]
theorem cfg_byz {L : aW} {d : Dc} {s : St} (h : isW L (⟨#[99, 114, 97, 115, 104]⟩ : ByteArray) s = false) :
  pCfg L d s = ({ d with proto := (⟨#[98, 121, 122, 97, 110, 116, 105, 110, 101]⟩ : ByteArray), read := (jc L (need L (⟨#[114, 101, 97, 100]⟩ : ByteArray) (need L (⟨#[98, 121, 122, 97, 110, 116, 105, 110, 101]⟩ : ByteArray) s))).1, write := (jc L (need L (⟨#[119, 114, 105, 116, 101]⟩ : ByteArray) (jc L (need L (⟨#[114, 101, 97, 100]⟩ : ByteArray) (need L (⟨#[98, 121, 122, 97, 110, 116, 105, 110, 101]⟩ : ByteArray) s))).2)).1, use := (bD L (need L (⟨#[102, 97, 117, 108, 116, 115]⟩ : ByteArray) (jc L (need L (⟨#[119, 114, 105, 116, 101]⟩ : ByteArray) (jc L (need L (⟨#[114, 101, 97, 100]⟩ : ByteArray) (need L (⟨#[98, 121, 122, 97, 110, 116, 105, 110, 101]⟩ : ByteArray) s))).2)).2)).1 }, (bD L (need L (⟨#[102, 97, 117, 108, 116, 115]⟩ : ByteArray) (jc L (need L (⟨#[119, 114, 105, 116, 101]⟩ : ByteArray) (jc L (need L (⟨#[114, 101, 97, 100]⟩ : ByteArray) (need L (⟨#[98, 121, 122, 97, 110, 116, 105, 110, 101]⟩ : ByteArray) s))).2)).2)).2) := by
 unfold pCfg
 simp only [h, Bool.false_eq_true, if_false]

end Go.Proofs.YtbmglebipepdmaaGreatDoor
namespace Go.Proofs.YtbmglebipepdmaaGreatDoor
open Go.RowKit

abbrev iP (li : Int) : Array Value := #[.int .i64 0, .int .i64 li, .string ⟨#[]⟩, .slice none 0 0, .slice none 0 0, .int .i64 0, .string ⟨#[]⟩, .int .i64 0, .slice none 0 0, .slice none 0 0, .string ⟨#[]⟩, .int .i64 0, .string ⟨#[]⟩, .int .i64 0, .slice none 0 0, .slice none 0 0, .int .i64 0, .string ⟨#[]⟩, .int .i64 0, .slice none 0 0, .slice none 0 0, .string ⟨#[]⟩]
theorem dJ : (Tryz.prog.info? 41).map (·.size) = some 22 := by kernel_rfl
theorem kH (w : World) (g : Nat) (cs : Array Value) : w.grownBy (w.setRow g cs) (some g) :=
 ⟨rfl, rfl, rfl, Nat.le_of_eq (size_setRow w g cs).symm, fun k _ hne => setRow_other w g k cs (fun e => hne (by rw [e]))⟩
def Fg (p v : Value) : Sem Unit := Instr.storeAt 41 p v
theorem iC (ρ : Operand → Value) (dst : Option Tmp) (x y : Operand) (ty : TypeId) (pos : String) (after : Array Edge) (guard : Option (Nat × Bool)) :
  execOp ρ { dst, op := .store 41 x y, type := ty, pos, after, guard } = (do Fg (ρ x) (ρ y); pure .skip) := rfl
theorem jg (w : World) (c : Array Value) (hc : c.size = 22) (li : Int) :
  (Fg (.pointer (some ⟨w.heap.size, 0, none⟩)) (.agg #[.int .i64 0, .int .i64 li, .string ⟨#[]⟩, .slice none 0 0, .slice none 0 0, .int .i64 0, .string ⟨#[]⟩, .int .i64 0, .slice none 0 0, .slice none 0 0, .string ⟨#[]⟩, .int .i64 0, .string ⟨#[]⟩, .int .i64 0, .slice none 0 0, .slice none 0 0, .int .i64 0, .string ⟨#[]⟩, .int .i64 0, .slice none 0 0, .slice none 0 0, .string ⟨#[]⟩])).run Tryz.prog ((w.alloc (.cells c 41)).drew) = .ok () ((w.alloc (.cells #[.int .i64 0, .int .i64 li, .string ⟨#[]⟩, .slice none 0 0, .slice none 0 0, .int .i64 0, .string ⟨#[]⟩, .int .i64 0, .slice none 0 0, .slice none 0 0, .string ⟨#[]⟩, .int .i64 0, .string ⟨#[]⟩, .int .i64 0, .slice none 0 0, .slice none 0 0, .int .i64 0, .string ⟨#[]⟩, .int .i64 0, .slice none 0 0, .slice none 0 0, .string ⟨#[]⟩] 41)).drew) := by
 have h := run_storeVar_row (P := Tryz.prog) ((w.alloc (.cells c 41)).drew) w.heap.size 41 41 c #[.int .i64 0, .int .i64 li, .string ⟨#[]⟩, .slice none 0 0, .slice none 0 0, .int .i64 0, .string ⟨#[]⟩, .int .i64 0, .slice none 0 0, .slice none 0 0, .string ⟨#[]⟩, .int .i64 0, .string ⟨#[]⟩, .int .i64 0, .slice none 0 0, .slice none 0 0, .int .i64 0, .string ⟨#[]⟩, .int .i64 0, .slice none 0 0, .slice none 0 0, .string ⟨#[]⟩] (heap_alloc_new w _) dJ (by rw [hc]; rfl) (by simp [Value.oneCell'])
 have e : ((w.alloc (.cells c 41)).drew).setRow w.heap.size #[.int .i64 0, .int .i64 li, .string ⟨#[]⟩, .slice none 0 0, .slice none 0 0, .int .i64 0, .string ⟨#[]⟩, .int .i64 0, .slice none 0 0, .slice none 0 0, .string ⟨#[]⟩, .int .i64 0, .string ⟨#[]⟩, .int .i64 0, .slice none 0 0, .slice none 0 0, .int .i64 0, .string ⟨#[]⟩, .int .i64 0, .slice none 0 0, .slice none 0 0, .string ⟨#[]⟩] = (w.alloc (.cells #[.int .i64 0, .int .i64 li, .string ⟨#[]⟩, .slice none 0 0, .slice none 0 0, .int .i64 0, .string ⟨#[]⟩, .int .i64 0, .slice none 0 0, .slice none 0 0, .string ⟨#[]⟩, .int .i64 0, .string ⟨#[]⟩, .int .i64 0, .slice none 0 0, .slice none 0 0, .int .i64 0, .string ⟨#[]⟩, .int .i64 0, .slice none 0 0, .slice none 0 0, .string ⟨#[]⟩] 41)).drew := congrArg World.drew (World.setRow_alloc_new w c #[.int .i64 0, .int .i64 li, .string ⟨#[]⟩, .slice none 0 0, .slice none 0 0, .int .i64 0, .string ⟨#[]⟩, .int .i64 0, .slice none 0 0, .slice none 0 0, .string ⟨#[]⟩, .int .i64 0, .string ⟨#[]⟩, .int .i64 0, .slice none 0 0, .slice none 0 0, .int .i64 0, .string ⟨#[]⟩, .int .i64 0, .slice none 0 0, .slice none 0 0, .string ⟨#[]⟩] 41)
 rw [e] at h
 unfold Fg
 simp only [Instr.storeAt, Instr.sureAddr, Sem.run_bind, Sem.run_pure, Result.andThen]
 exact h
theorem eU (w : World) {ops : Array Oper} {rest : List Oper} {o : Oper} {a : Act} {Q : Exit → Act → World → Prop} (hgd : o.guard = none) (hdst : o.dst = none) (x y : Operand) (ho : o.op = .store 41 x y)
  (g : Nat) (cells : Array Value) (hx : a.eval x = .pointer (some ⟨g, 0, none⟩)) (hy : a.eval y = .agg cells) (old : Array Value) (hg : w.heap[g]? = some (.cells old 41 (0, 0)))
  (hold : old.size = 22) (hc : cells.size = 22) (h1 : cells.all (·.oneCell') = true) (h : ∀ w', w'.heap[g]? = some (.cells cells 41 (0, 0)) → w.grownBy w' (some g) → wpList Tryz.prog ops Q rest a w') : wpList Tryz.prog ops Q (o :: rest) a w := by
 refine wpList_store_row hgd 41 x y ho g cells hx hy 41 old hg (by rw [hc]; exact dJ) (by rw [hold, hc]) h1 ?_
 rw [hdst]
 exact h _ (setRow_heap w g old cells _ _ hg) (kH w g cells)
theorem eD (w : World) {ops : Array Oper} {rest : List Oper} {o : Oper} {a : Act} {Q : Exit → Act → World → Prop} (hgd : o.guard = none) (x : Operand) (ho : o.op = .load 41 x)
  (g : Nat) (hx : a.eval x = .pointer (some ⟨g, 0, none⟩)) (cells : Array Value) (hg : w.heap[g]? = some (.cells cells 41 (0, 0))) (hc : cells.size = 22) (h : wpList Tryz.prog ops Q rest (a.put o.dst (.agg cells)) w) : wpList Tryz.prog ops Q (o :: rest) a w :=
 wpList_load_row hgd 41 x ho g hx 41 cells (0, 0) _ hg Tryz.underlying41 rfl (by rw [hc]; exact dJ) h
theorem lT {fn : Func} {slot : Nat} {R : Ending → World → Prop} {a : Act} {W : World} {r : Nat} {cells : Array Value} (hres : fn.results = #[.cell slot 41]) (hp : a.tmps.getD slot undef = .pointer (some ⟨r, 0, none⟩)) (hd : a.defers = [])
  (hblk : W.heap[r]? = some (.cells cells 41 (0, 0))) (hc : cells.size = 22) (hR : R (.returned (.agg cells)) W) : bodyPost Tryz.prog fn R .ret a W :=
 bodyPost_ret (results_cell_row hres a.tmps W r 41 cells (0, 0) _ hp hblk Tryz.underlying41 rfl (by rw [hc]; exact dJ)) hd hR
theorem gH (w : World) (S : Nat → Prop) : eG w S .zero (.agg #[.int .i64 0, .string ⟨#[]⟩, .int .i64 0, .slice none 0 0, .slice none 0 0]) := eG.named w S 0 (bs [])
theorem Bo {w : World} {S : Nat → Prop} {d : Dc} {nA fA : Option Addr} {nc fc : Nat} {t0 t1 t2 t3 t4 r0 r1 r2 r3 r4 w0 w1 w2 w3 w4 : Value}
  (h1 : aL w S 1 nA d.names.length (d.names.map Value.string)) (h2 : d.names.length ≤ nc) (h3 : aT (lm w S) w S 6 fA d.faults) (h4 : d.faults.length ≤ fc) (h5 : eG w S d.term (.agg #[t0, t1, t2, t3, t4])) (h6 : eG w S d.read (.agg #[r0, r1, r2, r3, r4])) (h7 : eG w S d.write (.agg #[w0, w1, w2, w3, w4])) :
  fo w S d (.agg #[.int .i64 d.kind, .int .i64 d.line, .string d.name, .slice nA d.names.length nc, .slice fA d.faults.length fc, t0, t1, t2, t3, t4, .string d.proto, r0, r1, r2, r3, r4, w0, w1, w2, w3, w4, .string d.use]) :=
 ⟨nA, nc, fA, fc, _, _, _, by simp [Value.cells], h1, h2, h3, h4, h5, h6, h7⟩

theorem body_site {L : aW} {x : Int} {d : Dc} {s : St} (h1 : isW L (⟨#[115, 105, 116, 101]⟩ : ByteArray) s = true) : iQ L x d s = pSite L d (taken L (⟨#[115, 105, 116, 101]⟩ : ByteArray) s) := by
 have e : taken L (⟨#[115, 105, 116, 101]⟩ : ByteArray) s = adv s := by unfold taken; rw [if_pos h1]
 rw [e]
 unfold iQ
 rw [if_pos h1]
theorem Js {L : aW} {x : Int} {d : Dc} {s : St} (h1 : isW L (⟨#[115, 105, 116, 101]⟩ : ByteArray) s = false) (h2 : isW L (⟨#[102, 97, 117, 108, 116, 115]⟩ : ByteArray) s = true) : iQ L x d s = vI L x d (taken L (⟨#[102, 97, 117, 108, 116, 115]⟩ : ByteArray) s) := by
 have e : taken L (⟨#[102, 97, 117, 108, 116, 115]⟩ : ByteArray) s = adv s := by unfold taken; rw [if_pos h2]
 rw [e]
 unfold iQ
 rw [h1, if_neg (by simp), if_pos h2]
theorem Jr {L : aW} {x : Int} {d : Dc} {s : St} (h1 : isW L (⟨#[115, 105, 116, 101]⟩ : ByteArray) s = false) (h2 : isW L (⟨#[102, 97, 117, 108, 116, 115]⟩ : ByteArray) s = false) (h3 : isW L (⟨#[113, 117, 111, 114, 117, 109]⟩ : ByteArray) s = true) : iQ L x d s = Dx L d (taken L (⟨#[113, 117, 111, 114, 117, 109]⟩ : ByteArray) s) := by
 have e : taken L (⟨#[113, 117, 111, 114, 117, 109]⟩ : ByteArray) s = adv s := by unfold taken; rw [if_pos h3]
 rw [e]
 unfold iQ
 rw [h1, if_neg (by simp), h2, if_neg (by simp), if_pos h3]
theorem AL {L : aW} {x : Int} {d : Dc} {s : St} (h1 : isW L (⟨#[115, 105, 116, 101]⟩ : ByteArray) s = false) (h2 : isW L (⟨#[102, 97, 117, 108, 116, 115]⟩ : ByteArray) s = false) (h3 : isW L (⟨#[113, 117, 111, 114, 117, 109]⟩ : ByteArray) s = false) (h4 : isW L (⟨#[99, 111, 110, 102, 105, 103]⟩ : ByteArray) s = true) : iQ L x d s = uD L d (taken L (⟨#[99, 111, 110, 102, 105, 103]⟩ : ByteArray) s) := by
 have e : taken L (⟨#[99, 111, 110, 102, 105, 103]⟩ : ByteArray) s = adv s := by unfold taken; rw [if_pos h4]
 rw [e]
 unfold iQ
 rw [h1, if_neg (by simp), h2, if_neg (by simp), h3, if_neg (by simp), if_pos h4]
theorem GR {L : aW} {x : Int} {d : Dc} {s : St} (h1 : isW L (⟨#[115, 105, 116, 101]⟩ : ByteArray) s = false) (h2 : isW L (⟨#[102, 97, 117, 108, 116, 115]⟩ : ByteArray) s = false) (h3 : isW L (⟨#[113, 117, 111, 114, 117, 109]⟩ : ByteArray) s = false) (h4 : isW L (⟨#[99, 111, 110, 102, 105, 103]⟩ : ByteArray) s = false) (h5 : isW L (⟨#[119, 105, 116, 110, 101, 115, 115]⟩ : ByteArray) s = true) : iQ L x d s = ({ d with kind := 5, names := (kS L (taken L (⟨#[119, 105, 116, 110, 101, 115, 115]⟩ : ByteArray) s)).1 }, (kS L (taken L (⟨#[119, 105, 116, 110, 101, 115, 115]⟩ : ByteArray) s)).2) := by
 have e : taken L (⟨#[119, 105, 116, 110, 101, 115, 115]⟩ : ByteArray) s = adv s := by unfold taken; rw [if_pos h5]
 rw [e]
 unfold iQ
 rw [h1, if_neg (by simp), h2, if_neg (by simp), h3, if_neg (by simp), h4, if_neg (by simp), if_pos h5]
theorem AO {L : aW} {x : Int} {d : Dc} {s : St} (h1 : isW L (⟨#[115, 105, 116, 101]⟩ : ByteArray) s = false) (h2 : isW L (⟨#[102, 97, 117, 108, 116, 115]⟩ : ByteArray) s = false) (h3 : isW L (⟨#[113, 117, 111, 114, 117, 109]⟩ : ByteArray) s = false) (h4 : isW L (⟨#[99, 111, 110, 102, 105, 103]⟩ : ByteArray) s = false) (h5 : isW L (⟨#[119, 105, 116, 110, 101, 115, 115]⟩ : ByteArray) s = false) (h6 : isW L (⟨#[99, 108, 105, 101, 110, 116]⟩ : ByteArray) s = true) : iQ L x d s = oZ L d (taken L (⟨#[99, 108, 105, 101, 110, 116]⟩ : ByteArray) s) := by
 have e : taken L (⟨#[99, 108, 105, 101, 110, 116]⟩ : ByteArray) s = adv s := by unfold taken; rw [if_pos h6]
 rw [e]
 unfold iQ
 rw [h1, if_neg (by simp), h2, if_neg (by simp), h3, if_neg (by simp), h4, if_neg (by simp), h5, if_neg (by simp), if_pos h6]
theorem MV {L : aW} {x : Int} {d : Dc} {s : St} (h1 : isW L (⟨#[115, 105, 116, 101]⟩ : ByteArray) s = false) (h2 : isW L (⟨#[102, 97, 117, 108, 116, 115]⟩ : ByteArray) s = false) (h3 : isW L (⟨#[113, 117, 111, 114, 117, 109]⟩ : ByteArray) s = false) (h4 : isW L (⟨#[99, 111, 110, 102, 105, 103]⟩ : ByteArray) s = false) (h5 : isW L (⟨#[119, 105, 116, 110, 101, 115, 115]⟩ : ByteArray) s = false) (h6 : isW L (⟨#[99, 108, 105, 101, 110, 116]⟩ : ByteArray) s = false) (h7 : isW L (⟨#[99, 104, 97, 105, 110]⟩ : ByteArray) s = true) : iQ L x d s = ({ d with kind := 7, names := (kS L (taken L (⟨#[99, 104, 97, 105, 110]⟩ : ByteArray) s)).1 }, (kS L (taken L (⟨#[99, 104, 97, 105, 110]⟩ : ByteArray) s)).2) := by
 have e : taken L (⟨#[99, 104, 97, 105, 110]⟩ : ByteArray) s = adv s := by unfold taken; rw [if_pos h7]
 rw [e]
 unfold iQ
 rw [h1, if_neg (by simp), h2, if_neg (by simp), h3, if_neg (by simp), h4, if_neg (by simp), h5, if_neg (by simp), h6, if_neg (by simp), if_pos h7]
theorem body_none {L : aW} {x : Int} {d : Dc} {s : St} (h1 : isW L (⟨#[115, 105, 116, 101]⟩ : ByteArray) s = false) (h2 : isW L (⟨#[102, 97, 117, 108, 116, 115]⟩ : ByteArray) s = false) (h3 : isW L (⟨#[113, 117, 111, 114, 117, 109]⟩ : ByteArray) s = false) (h4 : isW L (⟨#[99, 111, 110, 102, 105, 103]⟩ : ByteArray) s = false) (h5 : isW L (⟨#[119, 105, 116, 110, 101, 115, 115]⟩ : ByteArray) s = false) (h6 : isW L (⟨#[99, 108, 105, 101, 110, 116]⟩ : ByteArray) s = false) (h7 : isW L (⟨#[99, 104, 97, 105, 110]⟩ : ByteArray) s = false) : iQ L x d s = (d, fails 2 s) := by
 unfold iQ
 rw [h1, if_neg (by simp), h2, if_neg (by simp), h3, if_neg (by simp), h4, if_neg (by simp), h5, if_neg (by simp), h6, if_neg (by simp), h7, if_neg (by simp)]
theorem decl_eq {L : aW} {x : Int} {s : St} {li : Int} {r : Dc × St} (hl : (fU L s.pos : Int) = li) (h : iQ L x (.zero li) s = r) : jk L x s = (r.1, need L (⟨#[59]⟩ : ByteArray) r.2) := by
 unfold jk; rw [hl, h]

end Go.Proofs.YtbmglebipepdmaaGreatDoor
