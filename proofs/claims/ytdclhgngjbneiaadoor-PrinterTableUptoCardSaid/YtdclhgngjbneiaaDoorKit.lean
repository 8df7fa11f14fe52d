/- Small laws of my own for the walks: a slice that is read, one that the call owns, an element appended to it, and what stays as it was. No condition. -/
import Derived.WalkKit
import Derived.WalkLawsBesides
import Derived.Lib.Hide
import Derived.Maps.AppendAt
import Derived.Deep.Draws
import Derived.Deep.AppendLies
namespace Go.Proofs.YtdclhgngjbneiaaDoor
open Go.RowKit

/-- The slice with address A and n elements of so many cells each is read as the cells xs; it lies below block B. -/
def Sees (w : World) (B size : Nat) (A : Option Addr) (n : Nat) (xs : List Value) : Prop :=
  xs.length = n * size ∧ (0 < n → ∃ g o, A = some ⟨g, o, none⟩ ∧ g < B ∧ ∀ j u, xs[j]? = some u → w.cell? ⟨g, o + j, none⟩ = some u)

section
variable {w w' : World} {B B' size n : Nat} {A : Option Addr} {xs : List Value}

theorem Sees.empty (w : World) (B size : Nat) (A : Option Addr) : Sees w B size A 0 [] := ⟨by simp, fun h => absurd h (by omega)⟩
theorem Sees.cells (h : Sees w B size A n xs) (hn : 0 < n) : ∃ g o, A = some ⟨g, o, none⟩ ∧ g < B ∧ ∀ j u, xs[j]? = some u → w.cell? ⟨g, o + j, none⟩ = some u := h.2 hn
theorem Sees.keep (h : Sees w B size A n xs) (hk : ∀ g o, g < B → w'.cell? ⟨g, o, none⟩ = w.cell? ⟨g, o, none⟩) : Sees w' B size A n xs :=
  ⟨h.1, fun hn => by
    obtain ⟨g, o, e, hb, hc⟩ := h.2 hn
    exact ⟨g, o, e, hb, fun j u hu => (hk _ _ hb).trans (hc j u hu)⟩⟩
theorem Sees.below (h : Sees w B size A n xs) (hb : Below B' w w') (hB : B ≤ B') : Sees w' B size A n xs :=
  h.keep fun g o hg => hb.cell (p := ⟨g, o, none⟩) (Nat.lt_of_lt_of_le hg hB)
theorem Sees.mono (h : Sees w B size A n xs) (hB : B ≤ B') : Sees w B' size A n xs :=
  ⟨h.1, fun hn => by
    obtain ⟨g, o, e, hb, hc⟩ := h.2 hn
    exact ⟨g, o, e, Nat.lt_of_lt_of_le hb hB, hc⟩⟩
theorem Sees.alloc (h : Sees w B size A n xs) (hB : B ≤ w.heap.size) (x : Obj) : Sees (w.alloc x) B size A n xs :=
  h.below ((Below.refl B w).alloc hB x) (Nat.le_refl _)
theorem Sees.own {base e c : Nat} (h : w.ownsRow base e size (.slice A n c) n xs) : Sees w w.heap.size size A n xs := by
  refine ⟨h.1, fun hn => ?_⟩
  rcases h.2 with ⟨hv, h0⟩ | ⟨g, cap, cur, hv, hb, hh, r⟩
  · omega
  · have hA : A = some ⟨g, 0, none⟩ := by injection hv
    subst hA
    refine ⟨g, 0, rfl, (Array.getElem?_eq_some_iff.1 hh).1, fun j u hu => ?_⟩
    have := h.cells (g := g) rfl j u hu
    rw [← this]; congr 1
    unfold Addr.add; split <;> simp_all
end

/-- A row of the call's own stays so where all below block B stays, if it lies below. -/
theorem own_below {w w' : World} {base e size n B : Nat} {v : Value} {xs : List Value} (h : w.ownsRow base e size v n xs) (hb : Below B w w') (hB : w.heap.size ≤ B) : w'.ownsRow base e size v n xs := by
  obtain ⟨h1, h2⟩ := h
  refine ⟨h1, ?_⟩
  rcases h2 with h2 | ⟨g, cap, cur, hv, hg, hh, r⟩
  · exact Or.inl h2
  · have : g < w.heap.size := (Array.getElem?_eq_some_iff.1 hh).1
    exact Or.inr ⟨g, cap, cur, hv, hg, by rw [hb.block g (by omega)]; exact hh, r⟩
theorem own_base {w : World} {base base' e size n : Nat} {v : Value} {xs : List Value} (h : w.ownsRow base e size v n xs) (hB : base' ≤ base) : w.ownsRow base' e size v n xs := by
  obtain ⟨h1, h2⟩ := h
  refine ⟨h1, ?_⟩
  rcases h2 with h2 | ⟨g, cap, cur, hv, hg, r⟩
  · exact Or.inl h2
  · exact Or.inr ⟨g, cap, cur, hv, Nat.le_trans hB hg, r⟩
/-- The value of a row of the call's own is a slice. -/
theorem own_slice {w : World} {base e size n : Nat} {v : Value} {xs : List Value} (h : w.ownsRow base e size v n xs) : ∃ A c, v = .slice A n c ∧ n ≤ c := by
  rcases h.2 with ⟨rfl, h2⟩ | ⟨g, cap, cur, hv, hg, hh, hc, r⟩
  · subst h2; exact ⟨_, _, rfl, Nat.le_refl _⟩
  · exact ⟨_, _, hv, hc⟩

theorem own_form {w : World} {base e size n : Nat} {v : Value} {xs : List Value} (h : w.ownsRow base e size v n xs) (hn : 0 < n) : ∃ g c, v = .slice (some ⟨g, 0, none⟩) n c := by
  rcases h.2 with ⟨rfl, h2⟩ | ⟨g, cap, cur, hv, hg, hh, hc, r⟩
  · omega
  · exact ⟨_, _, hv⟩
theorem below_drewN {B : Nat} {a w : World} (h : Below B a w) (n : Nat) : Below B a (w.drewN n) := ⟨h.os, h.tape, h.output, h.size, h.block⟩
theorem own_drewN {w : World} {base e size n : Nat} {v : Value} {xs : List Value} (h : w.ownsRow base e size v n xs) (k : Nat) : (w.drewN k).ownsRow base e size v n xs := h
theorem Sees.drewN {w : World} {B size n : Nat} {A : Option Addr} {xs : List Value} (h : Sees w B size A n xs) (k : Nat) : Sees (w.drewN k) B size A n xs := h
theorem below_cells {B : Nat} {W w1 : World} (hb : Below B W w1) (hB : W.heap.size ≤ B) : (∀ b o, b < W.heap.size → w1.cell? ⟨b, o, none⟩ = W.cell? ⟨b, o, none⟩) ∧ (∀ b o, b < W.heap.size → w1.frozen? ⟨b, o, none⟩ = W.frozen? ⟨b, o, none⟩) :=
  ⟨fun b o h => hb.cell (p := ⟨b, o, none⟩) (by simp only; omega), fun b o h => hb.frozen (p := ⟨b, o, none⟩) (by simp only; omega)⟩

section
variable {P : Program}
/-- One element (of so many cells) appended to a row of the call's own: the element lies in a new block first. -/
theorem wpList_push (w : World) {ops : Array Oper} {rest : List Oper} {o : Oper} {a : Act} {Q : Exit → Act → World → Prop} (hgd : o.guard = none) (s x : Operand) (t : TypeId)
    (ho : o.op = .call { callee := .builtin .append, args := #[s, x], argTypes := #[t, t] })
    (base : Nat) (e : TypeId) (i : TypeInfo) (z : Value) (size bytes : Nat) (ht : P.underlying t = some (.slice e)) (hi : P.info? e = some i) (hz : i.zero = some z)
    (hsize : i.size = size) (hby : i.bytes = bytes) (hzs : z.cells.size = size) (hsz : 0 < size)
    (v : Value) (n : Nat) (xs : List Value) (hown : w.ownsRow base e size v n xs) (hs : a.eval s = v)
    (news : List Value) (hx : a.eval x = .slice (some ⟨w.heap.size, 0, none⟩) 1 1) (hl : news.length = size) (h1 : ∀ u ∈ news, u.oneCell' = true)
    (hlim : (n + 1) * bytes ≤ 140737488355328) (hlim2 : n ≤ 140737488355328) (hbase : base ≤ w.heap.size)
    (h : ∀ v' w', w'.ownsRow base e size v' (n + 1) (xs ++ news) → (∀ B, B ≤ base → Below B w w') → wpList P ops Q rest (a.put o.dst v') w') :
    wpList P ops Q (o :: rest) a (w.alloc (.cells news.toArray e)) := by
  have hcell : ∀ j u, news[j]? = some u → (w.alloc (.cells news.toArray e)).cell? ((⟨w.heap.size, 0, none⟩ : Addr).add j) = some u := by
    intro j u hu
    have hadd : (⟨w.heap.size, 0, none⟩ : Addr).add j = ⟨w.heap.size, j, none⟩ := by unfold Addr.add; split <;> simp_all
    rw [hadd, cell_of_row _ w.heap.size j news.toArray e (0, 0) (heap_alloc_new w _)]
    simpa using hu
  refine wpList_append_own_at _ hgd s x t ho base e i z size bytes ht hi hz hsize hby hzs hsz v n xs hs (hown.alloc _) ⟨w.heap.size, 0, none⟩ 1 1 news hx (by omega) hcell h1 (by unfold maxLen; omega) hlim (by simp; omega) ?_
  intro v' w' h2 h3 _ _
  refine h v' w' h2 fun B hB => ?_
  refine ((Below.refl B w).alloc (by omega) _).grown h3 (by simp; omega) ?_
  intro k hk
  have := (hown.lt k hk).1
  omega
/-- The same at a step of a region that draws its order: the element lies in block g. -/
theorem step_push (w : World) {ops : Array Oper} {o : Oper} {a : Act} {K : Act → World → Prop} {Q : Exit → Act → World → Prop} {E : Prop} (hgd : o.guard = none) (s x : Operand) (t : TypeId)
    (ho : o.op = .call { callee := .builtin .append, args := #[s, x], argTypes := #[t, t] })
    (base : Nat) (e : TypeId) (i : TypeInfo) (z : Value) (size bytes : Nat) (ht : P.underlying t = some (.slice e)) (hi : P.info? e = some i) (hz : i.zero = some z)
    (hsize : i.size = size) (hby : i.bytes = bytes) (hzs : z.cells.size = size) (hsz : 0 < size)
    (v : Value) (n : Nat) (xs : List Value) (hown : w.ownsRow base e size v n xs) (hs : a.eval s = v)
    (g cc : Nat) (news : List Value) (hblk : w.heap[g]? = some (.cells news.toArray e (0, 0))) (hx : a.eval x = .slice (some ⟨g, 0, none⟩) 1 cc) (hl : news.length = size) (h1 : ∀ u ∈ news, u.oneCell' = true)
    (hlim : (n + 1) * bytes ≤ 140737488355328) (hlim2 : n ≤ 140737488355328) (hbase : base ≤ w.heap.size)
    (h : ∀ v' w', w'.ownsRow base e size v' (n + 1) (xs ++ news) → (∀ B, B ≤ base → Below B w w') → K (a.put o.dst v') w') :
    if Region.wanted o (yielded ops a.tmps) = true then Oper.wp P o a w K Q else E := by
  have hcell : ∀ j u, news[j]? = some u → w.cell? ((⟨g, 0, none⟩ : Addr).add j) = some u := by
    intro j u hu
    have hadd : (⟨g, 0, none⟩ : Addr).add j = ⟨g, j, none⟩ := by unfold Addr.add; split <;> simp_all
    rw [hadd, cell_of_row _ g j news.toArray e (0, 0) hblk]
    simpa using hu
  refine step_append_lies w hgd s x t ho base e i z size bytes ht hi hz hsize hby hzs hsz v n xs hs hown ⟨g, 0, none⟩ 1 cc news hx (by omega) hcell h1 (by omega) (by unfold maxLen; omega) hlim hbase w.heap.size rfl ?_
  intro g' cap w' h2 h3 _ _
  refine h _ w' h2 fun B hB => ?_
  refine (Below.refl B w).grown h3 (by omega) ?_
  intro k hk
  have := (hown.lt k hk).1
  omega
end
end Go.Proofs.YtdclhgngjbneiaaDoor
