/- The contract of the parser's method declaration: witness, chain, none. The contract of the parser's method declaration: site, quorum, config. The contract of the parser's method declaration: client. The contract of the parser's method declaration: faults; and all kinds together. -/
import Derived.Test.YtbmglebipepdmaaGreatDoorPkPara
namespace Go.Proofs.YtbmglebipepdmaaGreatDoor
open Go.RowKit

end Go.Proofs.YtbmglebipepdmaaGreatDoor
namespace Go.Proofs.YtbmglebipepdmaaGreatDoor
open Go.RowKit

end Go.Proofs.YtbmglebipepdmaaGreatDoor
namespace Go.Proofs.YtbmglebipepdmaaGreatDoor
open Go.RowKit

end Go.Proofs.YtbmglebipepdmaaGreatDoor
namespace Go.Proofs.YtbmglebipepdmaaGreatDoor
open Go.RowKit

def FlAt (w : World) (S : Nat → Prop) (A : Option Addr) (l : List Ft) : Prop := aT (lm w S) w S 6 A l
theorem FlAt.keep {w w' : World} {S : Nat → Prop} {A : Option Addr} {l : List Ft} (h : FlAt w S A l) (hk : Kept S w w') : FlAt w' S A l := aT.keep h hk (fun _ _ h => h.keep hk)
theorem FlAt.mono {w : World} {S S' : Nat → Prop} {A : Option Addr} {l : List Ft} (h : FlAt w S A l) (hS : ∀ g, S g → g < w.heap.size → S' g) : FlAt w S' A l := aT.mono h hS (by decide) (fun _ _ h => h.mono hS)
theorem Eb {L : aW} {x : Int} {f : Nat} {acc : List Ft} {s : St} (h : isW L (⟨#[124]⟩ : ByteArray) s = true) : gq L x (f + 1) acc s = gq L x f (acc ++ [(bX L x (taken L (⟨#[124]⟩ : ByteArray) s)).1]) (bX L x (taken L (⟨#[124]⟩ : ByteArray) s)).2 := by
 have e : taken L (⟨#[124]⟩ : ByteArray) s = adv s := by unfold taken; rw [if_pos h]
 rw [gq, if_pos h, e]
theorem Ea {L : aW} {x : Int} {f : Nat} {acc : List Ft} {s : St} (h : isW L (⟨#[124]⟩ : ByteArray) s = false) : gq L x f acc s = (acc, s) := by
 cases f with
 |zero => rfl
 |succ f => rw [gq, h]; rfl
theorem BG (w : World) {ops : Array Oper} {o : Oper} {a : Act} {K : Act → World → Prop} {Q : Exit → Act → World → Prop} {E : Prop} (hgd : o.guard = none) (s x : Operand)
  (ho : o.op = .call { callee := .builtin .append, args := #[s, x], argTypes := #[35, 35] })
  (base : Nat) (v : Value) (n : Nat) (xs : List Value) (hown : w.ownsRow base 82 6 v n xs) (hs : a.eval s = v)
  (g k : Nat) (op : Int) (f1 : ByteArray) (by_ cr : Int) (bA : Option Addr) (bn bc : Nat) (cA : Option Addr) (cn cc : Nat)
  (hblk : w.heap[g]? = some (.cells #[.int .i64 op, .string f1, .int .i64 by_, .int .i64 cr, .slice bA bn bc, .slice cA cn cc] 82 (0, 0))) (hx : a.eval x = .slice (some ⟨g, 0, none⟩) 1 k)
  (hlim : n ≤ 100000000000) (hbase : base ≤ w.heap.size)
  (h : ∀ v' w', w'.ownsRow base 82 6 v' (n + 1) (xs ++ [.int .i64 op, .string f1, .int .i64 by_, .int .i64 cr, .slice bA bn bc, .slice cA cn cc]) → w.grownBy w' v.ownBlock → (v'.ownBlock = v.ownBlock ∨ v'.ownBlock = some w.heap.size) → K (a.put o.dst v') w') :
  if Region.wanted o (yielded ops a.tmps) = true then Oper.wp Tryz.prog o a w K Q else E := by
 obtain ⟨i0, hi, hz0, hz1, hz2⟩ := info_parts Cb
 have hcell : ∀ j u, [Value.int .i64 op, .string f1, .int .i64 by_, .int .i64 cr, .slice bA bn bc, .slice cA cn cc][j]? = some u → w.cell? ((⟨g, 0, none⟩ : Addr).add j) = some u := by
  intro j u hu
  have hadd : (⟨g, 0, none⟩ : Addr).add j = ⟨g, j, none⟩ := by unfold Addr.add; split <;> simp_all
  rw [hadd, cell_of_row _ g j _ _ (0, 0) hblk]
  simpa using hu
 refine step_append_lies w hgd s x _ ho base 82 i0 _ 6 88 Tryz.underlying35 hi hz0 hz1 hz2 rfl (by decide) v n xs hs hown ⟨g, 0, none⟩ 1 k _ hx rfl hcell (by simp [Value.oneCell']) (by omega) (by unfold maxLen; omega) (by omega) hbase w.heap.size rfl ?_
 intro g' cap w' h2 h3 h4 _
 refine h _ w' h2 h3 ?_
 rcases h4 with h4 | h4
 ·exact Or.inl h4.symm
 ·exact Or.inr (by rw [h4]; rfl)
theorem jr.from {b d base : Nat} {w W W' : World} (h : jr b d w W) (hb : Below base W W') (hs : w.heap.size ≤ base) : jr b d w W' :=
 ⟨hb.os.trans h.os, hb.tape.trans h.tape, hb.output.trans h.output, Nat.le_trans h.size hb.size, fun k hk h1 h2 => (hb.block k (by omega)).trans (h.block k hk h1 h2)⟩

end Go.Proofs.YtbmglebipepdmaaGreatDoor
