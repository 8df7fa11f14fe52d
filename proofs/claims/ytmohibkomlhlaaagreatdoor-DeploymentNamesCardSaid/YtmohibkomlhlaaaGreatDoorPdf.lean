/- The contracts of slices.SortFunc and Compact at faults that stand in order. Up to twelve faults; sets of twelve servers. The contract of fault.Threshold: the faults of so many Byzantine servers and so many that jc. Numbers in range. Condition: the table of math/bits lies in the world. The contracts of slices.Clone at faults, of fault.normal and of Normalize. Faults in order, up to twelve; sets of twelve servers. The contract of expanded at a declaration of faults that is one threshold, and of model where it has not been asked yet. Numbers in range. Condition: the table of math/bits lies in the world. -/
import Derived.Test.YtmohibkomlhlaaaGreatDoorPde
import Derived.Test.YtmohibkomlhlaaaGreatDoorPdc
import Derived.Test.YtmohibkomlhlaaaGreatDoorPkCl
set_option maxRecDepth 100000
set_option maxHeartbeats 4000000
namespace Go.Proofs.YtmohibkomlhlaaaGreatDoor
open Go.RowKit
open _root_.Go.Proofs.Tryz
def oL (l : List (Nat × Nat)) : Prop := ∀ j (h : j + 1 < l.length), 0 ≤ xD l[j + 1] l[j] ∧ l[j + 1] ≠ l[j]
def Hw (l : List (Nat × Nat)) : Prop := ∀ x ∈ l, x.1 < 4096 ∧ x.2 < 4096
theorem Gb (l : List (Nat × Nat)) (A : Option Addr) (c : Nat) (w : World) (S : Nat → Prop) (hl : ak w S 2 A l.length (bG l)) (hS : ∀ g, S g → g < w.heap.size) (h12 : l.length ≤ 12) (ho : oL l) (hf : Hw l) :
  Calls prog 223 #[.slice A l.length c, .int .i64 0, .int .i64 l.length, .func (.func 180) #[] #[]] w fun e w' => e = .returned (.tuple #[]) ∧ Below w.heap.size w w' := by
 obtain ⟨N, hN⟩ : ∃ N, N = l.length := ⟨_, rfl⟩
 have HN := Lib.hid hN
 have HL := Lib.hid hl
 have HO := Lib.hid ho
 have HF := Lib.hid hf
 rw [← hN] at h12 ⊢
 have he := enters_of (P := prog) func180 (by kernel_rfl) rfl
 clear hl ho hf hN
 go_enter func223, ntmps223
 go_wp2
 go_loopw [8] (fun x wr => ∃ k : Nat, (k ≤ N ∨ k = 1) ∧ 1 ≤ k ∧ x = .int .i64 k ∧ Below w.heap.size w wr) (fun x _ => N + 1 - (intOf x).toNat)
 case atStart => exact ⟨1, Or.inr rfl, by omega, rfl, Below.refl _ _⟩
 case round =>
  obtain ⟨k, hk, hk1, rfl, hb⟩ := hrel
  by_cases hlt : k < N
  ·have hkI : (k : Int) < (N : Int) := by omega
   obtain ⟨g, o, hA, hSg, x0, x1⟩ := jZ HL.out (k := k) (by have := HN.out; omega)
   have hkl : k - 1 + 1 < l.length := by have := HN.out; omega
   obtain ⟨g', o', hA', -, x2, x3⟩ := jZ HL.out (k := k - 1) (by omega)
   rw [hA] at hA'
   injection hA' with hA'
   injection hA' with h1 h2
   subst h1 h2 hA
   obtain ⟨ho1, -⟩ := HO.out (k - 1) hkl
   have hf1 := HF.out _ (List.getElem_mem (l := l) (n := k) (by omega))
   have hf2 := HF.out _ (List.getElem_mem (l := l) (n := k - 1) (by omega))
   obtain ⟨u, hu⟩ : ∃ u, u = l[k - 1] := ⟨_, rfl⟩
   obtain ⟨v, hv⟩ : ∃ v, v = l[k]'(by omega) := ⟨_, rfl⟩
   have hv2 : l[k - 1 + 1] = v := by rw [hv]; congr 1; omega
   rw [hv2, ← hu] at ho1
   rw [← hu] at x2 x3 hf2
   rw [← hv] at x0 x1 hf1
   obtain ⟨z, hz⟩ : ∃ z, z = xD v u := ⟨_, rfl⟩
   have HC := Lib.hid (fun W => Gr v u hf1 hf2 W)
   simp only [← hz] at HC
   rw [← hz] at ho1
   have hzI : ¬ z < 0 := by omega
   have hgs := hS g hSg
   have hk0 : (0 : Int) ≤ (k : Int) := by omega
   have hkp : (0 : Int) < (k : Int) := by omega
   have hkn : 0 < k := by omega
   obtain ⟨m, hm⟩ : ∃ m, m = k - 1 := ⟨_, rfl⟩
   rw [← hm] at x2 x3
   have hwk : IntKind.i64.wrap ((k : Int) - 1) = (m : Int) := by rw [IntWalk.i64_in _ (by omega)]; omega
   have hmI : (m : Int) < (N : Int) := by omega
   have hm0 : (0 : Int) ≤ (m : Int) := by omega
   have HX := Lib.hid (show ∀ X : World, Below w.heap.size w X → X.cell? ⟨g, o + k * 2, none⟩ = some (.int .u16 (v.1 : Nat)) ∧ X.cell? ⟨g, o + k * 2 + 1, none⟩ = some (.int .u16 (v.2 : Nat)) ∧ X.cell? ⟨g, o + m * 2, none⟩ = some (.int .u16 (u.1 : Nat)) ∧ X.cell? ⟨g, o + m * 2 + 1, none⟩ = some (.int .u16 (u.2 : Nat)) from
    fun X hX => ⟨(hX.cell (p := ⟨g, o + k * 2, none⟩) hgs).trans x0, (hX.cell (p := ⟨g, o + k * 2 + 1, none⟩) hgs).trans x1, (hX.cell (p := ⟨g, o + m * 2, none⟩) hgs).trans x2, (hX.cell (p := ⟨g, o + m * 2 + 1, none⟩) hgs).trans x3⟩)
   clear x0 x1 x2 x3 hu hv hv2 hz ho1 hf1 hf2 hkl hm
   unfold Gq at HC
   go_wp2
   rename World => w1
   go_loopw [9] (fun y wx => y = .int .i64 k ∧ wx = w1) (fun _ _ => 0)
   case atStart => exact ⟨rfl, rfl⟩
   case round =>
    obtain ⟨rfl, rfl⟩ := hrel
    go_upto_region 4 with fail
    refine ax.start (fun W' => Below w.heap.size w W') [] [0, 1, 2, 3, 4, 5, 6, 7, 8, 9, 10, 11, 12, 13] (by kernel_rfl) (below_drewN hb 1) (fun hHeld => ?_)
    repeat
     refine ax.take (v := ?_) rfl (by decide +kernel) (by rfl) (fun _ _ _ h => h) hHeld ?_ ?_
     rotate_left
     focus
      intro w9 h9
      obtain ⟨k0, k1, k2, k3⟩ := HX.out w9 h9
      go_simp
      (try with_reducible rfl)
      done
     simp only [Act.put, List.getElem_toArray, List.getElem_cons_succ, List.getElem_cons_zero, List.setIfInBounds_toArray, List.set_cons_zero, List.set_cons_succ]
    repeat'
     first
     |refine ax.one 14 rfl (by decide +kernel) (by rfl) (fun K hK => ?_)
     |refine ax.one 15 rfl (by decide +kernel) (by rfl) (fun K hK => ?_)
     |refine ax.one 16 rfl (by decide +kernel) (by rfl) (fun K hK => ?_)
     |go_simp
      first
      |go_at_call 180
       (with_reducible refine (HC.out _).mono ?_)
       rintro e Y1 ⟨rfl, hb2⟩
       have hHeld := hHeld.trans (hb2.mono hHeld.size)
       try go_simp
       refine hK.out _ _ (fun _ => hHeld) ?_
       clear hK K
      |refine hK.out _ _ (fun _ => hHeld) ?_
       clear hK K
    refine ax.done (by decide +kernel) ?_
    go_wp2_with fail
    exact ⟨⟨k + 1, by omega, by omega, by go_num, hHeld⟩, by simp [intOf]; omega⟩
  ·have hkI : ¬ (k : Int) < (N : Int) := by omega
   go_wp2
   go_end0
   exact ⟨rfl, hb⟩
theorem pdq_any (l : List (Nat × Nat)) (A : Option Addr) (c : Nat) (w : World) (S : Nat → Prop) (hl : ak w S 2 A l.length (bG l)) (hS : ∀ g, S g → g < w.heap.size) (h12 : l.length ≤ 12) (ho : oL l) (hf : Hw l) (lim : Int) :
  Calls prog 205 #[.slice A l.length c, .int .i64 0, .int .i64 l.length, .int .i64 lim, .func (.func 180) #[] #[]] w fun e w' => e = .returned (.tuple #[]) ∧ Below w.heap.size w w' := by
 have HC := Lib.hid (Gb l A c w S hl hS h12 ho hf)
 obtain ⟨N, hN⟩ : ∃ N, N = l.length := ⟨_, rfl⟩
 rw [← hN] at HC h12 ⊢
 have h12I : (N : Int) ≤ 12 := by omega
 clear hl hS ho hf hN
 go_enter func205, ntmps205
 go_wp2
 go_loopw [1, 2] (fun a b wx => a = .int .i64 0 ∧ b = .int .i64 (N : Nat) ∧ wx = w) (fun _ _ _ => 0)
 case atStart => exact ⟨rfl, rfl, rfl⟩
 case round =>
  obtain ⟨rfl, rfl, rfl⟩ := hrel
  go_wp2_with fail
  refine HC.out.mono ?_
  rintro e w2 ⟨rfl, hb⟩
  go_wp2
  refine bodyPost_ret (results_none rfl _ _ _) rfl ?_
  exact ⟨rfl, hb⟩
theorem sort_any (l : List (Nat × Nat)) (A : Option Addr) (c : Nat) (w : World) (S : Nat → Prop) (hl : ak w S 2 A l.length (bG l)) (hS : ∀ g, S g → g < w.heap.size) (h12 : l.length ≤ 12) (ho : oL l) (hf : Hw l) :
  Calls prog 179 #[.slice A l.length c, .func (.func 180) #[] #[]] w fun e w' => e = .returned (.tuple #[]) ∧ Below w.heap.size w w' := by
 have HC := Lib.hid (pdq_any l A c w S hl hS h12 ho hf)
 obtain ⟨N, hN⟩ : ∃ N, N = l.length := ⟨_, rfl⟩
 rw [← hN] at HC h12 ⊢
 have HB := Lib.hid (Tryz.bits_Len (N : Int) w (by omega) (by omega))
 have h18 : (N : Int) % 18446744073709551616 = (N : Int) := by omega
 clear hl hS ho hf hN
 go_enter func179, ntmps179
 go_wp2_with fail
 refine HB.out.mono ?_
 rintro e w2 ⟨rfl, rfl⟩
 go_wp2_with fail
 refine (HC.out _).mono ?_
 rintro e w3 ⟨rfl, hb⟩
 go_wp2
 go_end0
 exact ⟨rfl, hb⟩
theorem DK (l : List (Nat × Nat)) (A : Option Addr) (c : Nat) (w : World) (S : Nat → Prop) (hl : ak w S 2 A l.length (bG l)) (hS : ∀ g, S g → g < w.heap.size) (h12 : l.length ≤ 12) (ho : oL l) :
  Calls prog 181 #[.slice A l.length c] w fun e w' => e = .returned (.slice A l.length c) ∧ Below w.heap.size w w' := by
 obtain ⟨N, hN⟩ : ∃ N, N = l.length := ⟨_, rfl⟩
 have HN := Lib.hid hN
 have HL := Lib.hid hl
 have HO := Lib.hid ho
 rw [← hN] at h12 ⊢
 clear hl ho hN
 by_cases h2 : N < 2
 ·have h2I : (N : Int) < 2 := by omega
  go_enter func181, ntmps181
  go_wp2
  go_ret
  exact ⟨rfl, Below.refl _ _⟩
 have h2I : ¬ (N : Int) < 2 := by omega
 go_enter func181, ntmps181
 go_wp2
 go_loopw [3] (fun x wr => ∃ k : Nat, k ≤ N ∧ 1 ≤ k ∧ x = .int .i64 k ∧ Below w.heap.size w wr) (fun x _ => N - (intOf x).toNat)
 case atStart => exact ⟨1, by omega, by omega, rfl, Below.refl _ _⟩
 case round =>
  obtain ⟨k, hk, hk1, rfl, hb⟩ := hrel
  by_cases hlt : k < N
  ·have hkI : (k : Int) < (N : Int) := by omega
   obtain ⟨g, o, hA, hSg, x0, x1⟩ := jZ HL.out (k := k) (by have := HN.out; omega)
   have hkl : k - 1 + 1 < l.length := by have := HN.out; omega
   obtain ⟨g', o', hA', -, x2, x3⟩ := jZ HL.out (k := k - 1) (by omega)
   rw [hA] at hA'
   injection hA' with hA'
   injection hA' with h1 h2
   subst h1 h2 hA
   obtain ⟨-, ho1⟩ := HO.out (k - 1) hkl
   obtain ⟨u, hu⟩ : ∃ u, u = l[k - 1] := ⟨_, rfl⟩
   obtain ⟨v, hv⟩ : ∃ v, v = l[k]'(by omega) := ⟨_, rfl⟩
   have hv2 : l[k - 1 + 1] = v := by rw [hv]; congr 1; omega
   rw [hv2, ← hu] at ho1
   rw [← hu] at x2 x3
   rw [← hv] at x0 x1
   have hgs := hS g hSg
   have hk0 : (0 : Int) ≤ (k : Int) := by omega
   obtain ⟨m, hm⟩ : ∃ m, m = k - 1 := ⟨_, rfl⟩
   rw [← hm] at x2 x3
   have hwk : IntKind.i64.wrap ((k : Int) - 1) = (m : Int) := by rw [IntWalk.i64_in _ (by omega)]; omega
   have hmI : (m : Int) < (N : Int) := by omega
   have hm0 : (0 : Int) ≤ (m : Int) := by omega
   have k0 := (hb.cell (p := ⟨g, o + k * 2, none⟩) hgs).trans x0
   have k1 := (hb.cell (p := ⟨g, o + k * 2 + 1, none⟩) hgs).trans x1
   have k2 := (hb.cell (p := ⟨g, o + m * 2, none⟩) hgs).trans x2
   have k3 := (hb.cell (p := ⟨g, o + m * 2 + 1, none⟩) hgs).trans x3
   clear x0 x1 x2 x3 hu hv hv2 hkl hm
   by_cases e1 : v.1 = u.1
   ·have e2 : v.2 ≠ u.2 := fun e => ho1 (Prod.ext e1 e)
    have f1 : (((v.1 : Nat) : Int) == ((u.1 : Nat) : Int)) = true := by rw [e1]; simp
    have f2 : (((v.2 : Nat) : Int) == ((u.2 : Nat) : Int)) = false := by rw [beq_eq_false_iff_ne]; omega
    clear e1 e2 ho1
    go_upto_region 6 with fail
    go_quiet (fail)
    go_wp2_with fail
    exact ⟨⟨k + 1, by omega, by omega, by go_num, below_drewN hb nq⟩, by simp [intOf]; omega⟩
   ·have f1 : (((v.1 : Nat) : Int) == ((u.1 : Nat) : Int)) = false := by rw [beq_eq_false_iff_ne]; omega
    clear e1 ho1
    go_upto_region 6 with fail
    go_quiet (fail)
    go_wp2_with fail
    exact ⟨⟨k + 1, by omega, by omega, by go_num, below_drewN hb nq⟩, by simp [intOf]; omega⟩
  ·have hkI : ¬ (k : Int) < (N : Int) := by omega
   go_wp2
   go_ret
   exact ⟨rfl, hb⟩
end Go.Proofs.YtmohibkomlhlaaaGreatDoor
namespace Go.Proofs.YtmohibkomlhlaaaGreatDoor
open Go.RowKit
open _root_.Go.Proofs.Tryz
attribute [local go_sem] Oper.semAt_some
def ER (all c y : Nat) : List (Nat × Nat) := (gL (uK all y) c).map fun x => (y, x)
def Cb (all c : Nat) (l : List Nat) : List (Nat × Nat) := l.flatMap (ER all c)
def tJ (n b c : Nat) : List (Nat × Nat) × Nat := if 100 < (Cb (2 ^ n - 1) c (gL (2 ^ n - 1) b)).length then ([], 3) else (Cb (2 ^ n - 1) c (gL (2 ^ n - 1) b), 0)
theorem zS (all c : Nat) (l : List Nat) (y : Nat) : Cb all c (l ++ [y]) = Cb all c l ++ ER all c y := by
 unfold Cb
 rw [List.flatMap_append, List.flatMap_cons, List.flatMap_nil, List.append_nil]
theorem thrL_len (all c : Nat) {pre l : List Nat} (h : pre <+: l) : (Cb all c pre).length ≤ (Cb all c l).length := by
 obtain ⟨r, rfl⟩ := h
 unfold Cb
 rw [List.flatMap_append, List.length_append]
 omega
theorem rP (l : List (Nat × Nat)) (p : Nat × Nat) : bG (l ++ [p]) = bG l ++ [.int .u16 (p.1 : Nat), .int .u16 (p.2 : Nat)] := by
 unfold bG
 rw [List.flatMap_append, List.flatMap_cons, List.flatMap_nil, List.append_nil]
def qD (l : List (Nat × Nat)) (er : Nat) (w : World) (e : Ending) (w' : World) : Prop := ∃ A c, e = .returned (.tuple #[.slice A l.length c, .int .i64 (er : Nat)]) ∧ ak w' (w.heap.size ≤ ·) 2 A l.length (bG l) ∧ l.length ≤ c ∧ Below w.heap.size w w'
theorem yN {β : Type} {S : Nat → Prop} {B : Nat} (W : World) (hS : ∀ g, S g → g < B) : OwnFrom B (fun (_ : β) W' => fI S W W') := fun s X Y row hs hg hr => by
 refine ⟨fun g o hSg hgo => ?_, fun g cs fr hgo => ?_⟩
 ·have h1 := hs.1 g o hSg hgo
  exact (hg.block g (Array.getElem?_eq_some_iff.1 h1).1 (fun e => by have := (hr g e.symm).1; have := hS g hSg; omega)).trans h1
 ·have h1 := hs.2 g cs fr hgo
  exact (hg.block g (Array.getElem?_eq_some_iff.1 h1).1 (fun e => by obtain ⟨-, o, ho, hc⟩ := hr g e.symm; rw [h1] at ho; cases ho; cases hc)).trans h1
def ThF (w : World) (N3 : Nat) (all c : Nat) (L : List (Nat × Nat)) (W : World) : Prop :=
 ((W.heap[w.heap.size]? = some (.cells #[.int .i64 (c : Nat)] 3 (0, 0)) ∧ W.heap[w.heap.size + 1]? = some (.cells #[.slice none 0 0] 52 (0, 0)) ∧ W.heap[w.heap.size + 1 + 1]? = some (.cells #[.int .i64 0] 39 (0, 0)) ∧ W.heap[w.heap.size + 1 + 1 + 1]? = some (.cells #[.int .u16 (all : Nat)] 28 (0, 0))) ∧
  ∃ v, Boxed W (w.heap.size + 1 + 1 + 1 + 1) 52 v ∧ W.ownsRow N3 148 2 v L.length (bG L) ∧ L.length ≤ 100) ∧ Below w.heap.size w W ∧ N3 ≤ W.heap.size
theorem alloc_at (W : World) (o : Obj) {g : Nat} (h : g = W.heap.size) : (W.alloc o).heap[g]? = some o := by subst h; exact heap_alloc_new _ _
theorem ThF.later {w : World} {N3 all c : Nat} {L : List (Nat × Nat)} {W W' : World} (h : ThF w N3 all c L W) (hb : Below W.heap.size W W') : ThF w N3 all c L W' := by
 obtain ⟨⟨⟨c0, c1, c2, c3⟩, v, hv, hrow, h100⟩, hB, hW3⟩ := h
 have hk := fun {g : Nat} {o : Obj} (h : W.heap[g]? = some o) => (hb.block g (Array.getElem?_eq_some_iff.1 h).1).trans h
 exact ⟨⟨⟨hk c0, hk c1, hk c2, hk c3⟩, v, hk hv, own_below hrow hb (Nat.le_refl _), h100⟩, hB.trans (hb.mono hB.size), Nat.le_trans hW3 hb.size⟩
theorem thF_own {β : Type} (w : World) (N3 N : Nat) (all c : Nat) (f : β → List (Nat × Nat)) (hN : w.heap.size ≤ N) : OwnFrom N (fun s W => ThF w N3 all c (f s) W) :=
 (((bB N _ _ _ _).and ((bB N _ _ _ _).and ((bB N _ _ _ _).and (bB N _ _ _ _)))).and
  (Own.from (holdsRow_own N3 (w.heap.size + 1 + 1 + 1 + 1) 52 148 2 (fun s => (f s).length) (fun s => bG (f s)) (fun s _ => (f s).length ≤ 100)) N)).and ((ownFrom_below (Nat.le_refl _) hN).and (fun _ _ _ _ hs hg _ => Nat.le_trans hs hg.size))
def ThX (w : World) (W : World) : Prop := W.heap[w.heap.size + 1]? = some (.cells #[.slice none 0 0] 52 (0, 0)) ∧ W.heap[w.heap.size + 1 + 1]? = some (.cells #[.int .i64 3] 39 (0, 0)) ∧ Below w.heap.size w W
theorem thX_own {β : Type} (w : World) (N : Nat) (hN : w.heap.size ≤ N) : OwnFrom N (fun (_ : β) W => ThX w W) := (bB N _ _ _ _).and ((bB N _ _ _ _).and (ownFrom_below (Nat.le_refl _) hN))
theorem yU : (prog.info? 148).map (fun i => (i.zero, i.size, i.bytes)) = some (some (.agg #[.int .u16 0, .int .u16 0]), 2, 4) := by kernel_rfl
theorem wY {F : Fence} {m : Nat} (w : World) {ops : Array Oper} {rest : List Oper} {o : Oper} {a : Act} {Q : Exit → Act → World → Prop} (hgd : o.guard = none) (s x : Operand)
  (ho : o.op = .call { callee := .builtin .append, args := #[s, x], argTypes := #[52, 52] })
  (base : Nat) (v : Value) (n : Nat) (xs : List Value) (hown : w.ownsRow base 148 2 v n xs) (hs : a.eval s = v)
  (y z : Nat) (hx : a.eval x = .slice (some ⟨w.heap.size, 0, none⟩) 1 1) (hlim : n ≤ 10000000000) (hbase : base ≤ w.heap.size)
  (h : ∀ v' w', w'.ownsRow base 148 2 v' (n + 1) (xs ++ [.int .u16 (y : Nat), .int .u16 (z : Nat)]) → (w.alloc (.cells #[.int .u16 (y : Nat), .int .u16 (z : Nat)] 148)).grownBy w' v.ownBlock → wpListIn F m prog ops Q rest (a.put o.dst v') w') :
  wpListIn F m prog ops Q (o :: rest) a (w.alloc (.cells #[.int .u16 (y : Nat), .int .u16 (z : Nat)] 148)) := by
 obtain ⟨i0, hi, hz0, hz1, hz2⟩ := info_parts yU
 exact wpListIn_append_own _ hgd s x 52 ho base 148 i0 _ 2 4 underlying52 hi hz0 hz1 hz2 rfl (by decide) v n xs hs (hown.alloc _) ⟨w.heap.size, 0, none⟩ 1 1 [.int .u16 (y : Nat), .int .u16 (z : Nat)] hx rfl
  (fun j u hu => by
   have hadd : (⟨w.heap.size, 0, none⟩ : Addr).add j = ⟨w.heap.size, j, none⟩ := by unfold Addr.add; split <;> simp_all
   rw [hadd, cell_of_row _ _ j _ _ _ (heap_alloc_new w _)]
   simpa using hu) (by simp [Value.oneCell']) (Nat.le_trans (show n + 1 ≤ 10000000001 by omega) (by decide)) (by omega) (by simp; omega) (fun v' w' h1 h2 _ => h v' w' h1 h2)
theorem thrF_any (n b c : Nat) (hn : n ≤ 12) (hbc : b + c ≤ n) (w : World) (hz : Tz w) :
  Calls prog 103 #[.int .i64 n, .int .i64 b, .int .i64 c] w (qD (tJ n b c).1 (tJ n b c).2 w) := by
 have hbA : ∀ (W : World) (o : Obj), Below W.heap.size W (W.alloc o) := fun W o => (Below.refl _ _).alloc (Nat.le_refl _) o
 obtain ⟨fo, hfo⟩ : ∃ fo, fo = tJ n b c := ⟨_, rfl⟩
 rw [← hfo]
 unfold tJ at hfo
 obtain ⟨all, hall⟩ : ∃ all, all = 2 ^ n - 1 := ⟨_, rfl⟩
 rw [← hall] at hfo
 have hp1 : 1 ≤ 2 ^ n := Nat.one_le_two_pow
 have hp2 : 2 ^ n ≤ 4096 := Nat.pow_le_pow_right (by decide) hn
 have hall12 : all < 4096 := by omega
 have hallI : IntKind.u16.wrap (IntKind.u16.wrap (2 ^ n) - 1) = (all : Int) := by
  show ((2 : Int) ^ n % 65536 - 1) % 65536 = (all : Int)
  rw [show ((2 : Int) ^ n) = ((2 ^ n : Nat) : Int) by simp, hall]
  omega
 have HFO := Lib.hid hfo
 have HZ := Lib.hid hz
 have h1 : ¬ (n : Int) < 0 := by omega
 have h2 : ¬ (12 : Int) < (n : Int) := by omega
 have h3 : ¬ (b : Int) < 0 := by omega
 have h4 : ¬ (c : Int) < 0 := by omega
 have h5 : ¬ (n : Int) < (b : Int) := by omega
 have h6 : ¬ (n : Int) - (b : Int) < (c : Int) := by omega
 have h7 : IntKind.i64.wrap ((n : Int) - (b : Int)) = (n : Int) - (b : Int) := IntWalk.i64_in _ (by omega)
 have hn0 : (0 : Int) ≤ (n : Int) := by omega
 clear hfo hz hp1 hp2 hall
 refine (callsIn_wide (n := 9)).1 ?_
 refine callsIn_of_wp_marks func103 rfl trivial ?_ rfl
 simp only [ntmps103, List.size_toArray, List.length_cons, List.length_nil, Nat.reduceAdd, Nat.reduceSub, Array.replicate_succ, Array.replicate_zero, List.push_toArray, List.append_toArray, List.nil_append, List.cons_append]
 gi_wp2_with fail
 obtain ⟨wq, hwq⟩ : ∃ wq : World, wq = ((((w.alloc (.cells #[.int .i64 c] 3)).alloc (.cells #[.slice none 0 0] 52)).alloc (.cells #[.int .i64 0] 39)).alloc (.cells #[.int .u16 all] 28)).alloc (.cells #[.slice none 0 0] 52) := ⟨_, rfl⟩
 have hsq : wq.heap.size = w.heap.size + 5 := by rw [hwq]; simp
 have hbq : Below w.heap.size w wq := by rw [hwq]; exact ((((hbA _ _).alloc (by simp) _).alloc (by simp; omega) _).alloc (by simp; omega) _).alloc (by simp; omega) _
 have HSQ := Lib.hid hsq
 have q0 : wq.heap[w.heap.size]? = some (.cells #[.int .i64 (c : Nat)] 3 (0, 0)) := by rw [hwq, heap_alloc_old _ _ (by simp <;> omega), heap_alloc_old _ _ (by simp <;> omega), heap_alloc_old _ _ (by simp <;> omega), heap_alloc_old _ _ (by simp <;> omega)]; exact alloc_at _ _ (by simp)
 have q1 : wq.heap[w.heap.size + 1]? = some (.cells #[.slice none 0 0] 52 (0, 0)) := by rw [hwq, heap_alloc_old _ _ (by simp <;> omega), heap_alloc_old _ _ (by simp <;> omega), heap_alloc_old _ _ (by simp <;> omega)]; exact alloc_at _ _ (by simp)
 have q2 : wq.heap[w.heap.size + 1 + 1]? = some (.cells #[.int .i64 0] 39 (0, 0)) := by rw [hwq, heap_alloc_old _ _ (by simp <;> omega), heap_alloc_old _ _ (by simp <;> omega)]; exact alloc_at _ _ (by simp)
 have q3 : wq.heap[w.heap.size + 1 + 1 + 1]? = some (.cells #[.int .u16 all] 28 (0, 0)) := by rw [hwq, heap_alloc_old _ _ (by simp <;> omega)]; exact alloc_at _ _ (by simp)
 have q4 : wq.heap[w.heap.size + 1 + 1 + 1 + 1]? = some (.cells #[.slice none 0 0] 52 (0, 0)) := by rw [hwq]; exact alloc_at _ _ (by simp)
 have HQ0 := Lib.hid q0
 have HQ1 := Lib.hid q1
 have HQ2 := Lib.hid q2
 have HQ3 := Lib.hid q3
 have HQ4 := Lib.hid q4
 have HWQ := Lib.hid hwq
 clear q0 q1 q2 q3 q4 hwq hsq
 rw [← HWQ.out]
 refine ⟨trivial, (callsIn_wide.2 (vI all b wq)).mono ?_⟩
 rintro e w3 ⟨rfl, hw3⟩
 have hs3 : wq.heap.size + 1 < w3.heap.size := by rw [hw3]; simp
 have hb3 : Below wq.heap.size wq w3 := by rw [hw3]; exact (hbA _ _).alloc (by simp) _
 have hr3 : w3.heap[wq.heap.size]? = some (.cells #[.int .u16 all] 28 (0, 0)) := by rw [hw3]; exact heap_alloc2_old _ _ _
 have hr4 : w3.heap[wq.heap.size + 1]? = some (.cells #[.int .i64 b] 3 (0, 0)) := by rw [hw3]; exact heap_alloc2_new _ _ _
 clear hw3
 gi_wp2_with fail
 --LOOP
 have hKS : ∀ g, (g = 2 ∨ g = wq.heap.size ∨ g = wq.heap.size + 1) → g < w3.heap.size ∧ g ≠ w.heap.size + 1 + 1 + 1 + 1 := by
  have := HSQ.out
  have := HZ.out.1
  rintro g (rfl | rfl | rfl) <;> exact ⟨by omega, by omega⟩
 have jw : Below w.heap.size w w3 := hbq.trans (hb3.mono hbq.size)
 have hl := fun {g : Nat} {o : Obj} (h : wq.heap[g]? = some o) => (hb3.block g (Array.getElem?_eq_some_iff.1 h).1).trans h
 refine wpIn_rangeFunc_ownH rfl (by decide) (gf := 177) (lb := #[.pointer (some ⟨wq.heap.size, 0, none⟩), .pointer (some ⟨wq.heap.size + 1, 0, none⟩)]) rfl trivial (enters_of func177 (by kernel_rfl) rfl)
  (rU 8 wq.heap.size (wq.heap.size + 1) 28 3 (fun g => g = 2 ∨ g = wq.heap.size ∨ g = wq.heap.size + 1) (Or.inl rfl) all b hall12 (by omega) w3 (HZ.out.below jw (Nat.le_refl _)) hr3 hr4)
  fI.trans (uP (fun g hg => (hKS g hg).1)) (Below.refl _ _) (fun _ => rfl)
  (fun pre W => ThF w w3.heap.size all c (Cb all c (pre.map Subtype.val)) W)
  (fun c' pre W => (c' = .ret ∧ 100 < (Cb all c (pre.map Subtype.val)).length) ∧ ThX w W)
  (thF_own w w3.heap.size w3.heap.size all c (fun pre : List U16 => Cb all c (pre.map Subtype.val)) jw.size)
  (fun c' => (ownFrom_pure _ _).and (thX_own w w3.heap.size jw.size))
  ⟨⟨⟨hl HQ0.out, hl HQ1.out, hl HQ2.out, hl HQ3.out⟩, _, hl HQ4.out, World.ownsRow_nil _ _ _ _, Nat.zero_le _⟩, jw, Nat.le_refl _⟩
  (fun y a' W => ∃ Bx, w3.heap.size ≤ Bx ∧ Boxed W Bx 28 (.int .u16 (y.1 : Nat)) ∧ a' = { tmps := #[.int .i64 n, .int .i64 b, .int .i64 c, undef, undef, .pointer (some ⟨w.heap.size, 0, none⟩), .pointer (some ⟨w.heap.size + 1, 0, none⟩), .pointer (some ⟨w.heap.size + 1 + 1, 0, none⟩), .pointer (some ⟨w.heap.size + 1 + 1 + 1, 0, none⟩), .pointer (some ⟨w.heap.size + 1 + 1 + 1 + 1, 0, none⟩), .pointer (some ⟨Bx, 0, none⟩), undef, .int .i64 n, .bool false, .bool false, .int .i64 n, .bool false, .bool false, .bool false, .int .i64 b, .bool false, .bool false, .bool false, .int .i64 c, .bool false, .bool false, .bool false, .int .i64 b, .int .i64 n, .bool false, .bool false, .bool false, .int .i64 c, .int .i64 n, .int .i64 b, .int .i64 ((n : Int) - (b : Int)), .bool false, .bool false, .int .i64 n, .int .u16 (IntKind.u16.wrap (2 ^ n)), .int .u16 all, .int .u16 all, .int .i64 b, .func (.func 177) #[] #[.pointer (some ⟨wq.heap.size, 0, none⟩), .pointer (some ⟨wq.heap.size + 1, 0, none⟩)], .int .u16 (y.1 : Nat), undef, undef, undef, undef, undef, undef, undef, undef, undef, undef, undef, undef, undef, undef, undef, undef], defers := [] })
  (fun y a' _ X Y row hs hg hr => by obtain ⟨Bx, e1, e2, e3⟩ := hs; exact ⟨Bx, e1, boxed_own Bx 28 (fun (_ : Unit) => Value.int .u16 (y.1 : Nat)) () X Y row e2 hg (fun r e => (hr r e).2), e3⟩)
  ?assign ?body ?done ?stop
 case assign =>
  rintro l pre y W K hI hK
  gi_wp2
  have hbW := hbA W (.cells #[.int .u16 (y.1 : Nat)] 28)
  exact hK _ _ ((KeepsOthers.alloc _ _).from _) (fI.of_below hbW) (hI.later hbW) ⟨W.heap.size, hI.2.2, Boxed.new W 28 _, rfl⟩
 case body =>
  rintro l pre y a' W hl2 ⟨r, hr⟩ hI ⟨Bx, hBx, bX, rfl⟩ hlt
  have hI0 := hI
  obtain ⟨⟨⟨c0, c1, c2, c3⟩, v, hv, hrow, h100⟩, hB, hW3⟩ := hI0
  have x0 := cell_of_row W _ 0 _ _ _ c0
  have x3 := cell_of_row W _ 0 _ _ _ c3
  have xB := bX.cell
  have hI := Lib.hid hI
  clear c0 c1 c2 c3 hv hrow h100
  obtain ⟨ls, hls⟩ : ∃ ls, ls = uK all y.1 := ⟨_, rfl⟩
  have hless := pW all y.1 (by omega) y.2
  rw [← hls] at hless
  have hls12 : ls < 4096 := by rw [hls]; exact Nat.lt_of_le_of_lt Nat.and_le_left hall12
  have HLS := Lib.hid hls
  clear hls
  gi_wp2_with fail
  refine ⟨trivial, (CallsIn.inRound l (callsIn_wide.2 (vI ls c W))).mono ?_⟩
  rintro e w5 ⟨rfl, hw5⟩
  have hb5 : Below W.heap.size W w5 := by rw [hw5]; exact (hbA _ _).alloc (by simp) _
  have hr5 : w5.heap[W.heap.size]? = some (.cells #[.int .u16 ls] 28 (0, 0)) := by rw [hw5]; exact heap_alloc2_old _ _ _
  have hr6 : w5.heap[W.heap.size + 1]? = some (.cells #[.int .i64 c] 3 (0, 0)) := by rw [hw5]; exact heap_alloc2_new _ _ _
  clear hw5
  gi_wp2_with fail
  obtain ⟨Lo, hLo⟩ : ∃ Lo, Lo = Cb all c (pre.map Subtype.val) := ⟨_, rfl⟩
  rw [← hLo] at hI
  have HLO := Lib.hid hLo
  clear hLo
  have hsW := hb5.size
  have hl5 := lt_of_block hr6
  have hww5 : w.heap.size ≤ w5.heap.size := Nat.le_trans hB.size hsW
  have hB5 : w.heap.size + 1 + 1 + 1 + 1 < w3.heap.size := by have := HSQ.out; omega
  have hSo : ∀ g, (g = 2 ∨ g = wq.heap.size ∨ g = wq.heap.size + 1) → g < W.heap.size := fun g hg => by have := (hKS g hg).1; omega
  have hSi : ∀ g, (g = 2 ∨ g = W.heap.size ∨ g = W.heap.size + 1) → g < w5.heap.size := by
   have := HZ.out.1
   have := jw.size
   rintro g (rfl | rfl | rfl) <;> omega
  have hr' : w5.heap[l]? = some (.loop r) := (hb5.block _ (Array.getElem?_eq_some_iff.1 hr).1).trans hr
  refine wpIn_rangeFunc_ownN (l₀ := l) (r₀ := r) rfl hr' (by decide) (gf := 177) (lb := #[.pointer (some ⟨W.heap.size, 0, none⟩), .pointer (some ⟨W.heap.size + 1, 0, none⟩)]) rfl trivial (enters_of func177 (by kernel_rfl) rfl)
   ((rU _ W.heap.size (W.heap.size + 1) 28 3 (fun g => g = 2 ∨ g = W.heap.size ∨ g = W.heap.size + 1) (Or.inl rfl) ls c hls12 (by omega) w5 (HZ.out.below (hB.trans (hb5.mono hB.size)) (Nat.le_refl _)) hr5 hr6).inRound l)
   fI.trans (uP hSi) (Below.refl _ _) (fun _ => rfl)
   (fun pre' W' => (ThF w w3.heap.size all c (Lo ++ pre'.map fun z => (y.1, z.1)) W' ∧ (W'.heap[Bx]? = some (.cells #[.int .u16 (y.1 : Nat)] 28 (0, 0)) ∧ W'.heap[W.heap.size]? = some (.cells #[.int .u16 ls] 28 (0, 0)) ∧ W'.heap[W.heap.size + 1]? = some (.cells #[.int .i64 c] 3 (0, 0)))) ∧ (fI (fun g => g = 2 ∨ g = wq.heap.size ∨ g = wq.heap.size + 1) W W' ∧ KeepsFrom w3.heap.size W W'))
   (fun c' pre' W' => ((c' = .ret ∧ 100 < (Lo ++ pre'.map fun z => (y.1, z.1)).length) ∧ ThX w W') ∧ KeepsFrom w3.heap.size W W')
   (((thF_own w w3.heap.size w5.heap.size all c (fun pre' : List U16 => Lo ++ pre'.map fun z => (y.1, z.1)) (by omega)).and ((bB w5.heap.size Bx _ _ _).and ((bB w5.heap.size W.heap.size _ _ _).and (bB w5.heap.size (W.heap.size + 1) _ _ _)))).and ((yN W (fun g hg => by have := hSo g hg; omega)).and (ownFrom_keepsFrom hsW)))
   (fun c' => ((ownFrom_pure _ _).and (thX_own w w5.heap.size (by omega))).and (ownFrom_keepsFrom hsW))
   ⟨⟨by rw [List.map_nil, List.append_nil]; exact hI.out.later hb5, (hb5.block _ bX.lt).trans bX, hr5, hr6⟩, fI.of_below hb5, (gH hb5).from _⟩
   (fun z a'' _ => a'' = { tmps := #[.int .i64 n, .int .i64 b, .int .i64 c, undef, undef, .pointer (some ⟨w.heap.size, 0, none⟩), .pointer (some ⟨w.heap.size + 1, 0, none⟩), .pointer (some ⟨w.heap.size + 1 + 1, 0, none⟩), .pointer (some ⟨w.heap.size + 1 + 1 + 1, 0, none⟩), .pointer (some ⟨w.heap.size + 1 + 1 + 1 + 1, 0, none⟩), .pointer (some ⟨Bx, 0, none⟩), .int .u16 (z.1 : Nat), .int .i64 n, .bool false, .bool false, .int .i64 n, .bool false, .bool false, .bool false, .int .i64 b, .bool false, .bool false, .bool false, .int .i64 c, .bool false, .bool false, .bool false, .int .i64 b, .int .i64 n, .bool false, .bool false, .bool false, .int .i64 c, .int .i64 n, .int .i64 b, .int .i64 ((n : Int) - (b : Int)), .bool false, .bool false, .int .i64 n, .int .u16 (IntKind.u16.wrap (2 ^ n)), .int .u16 all, .int .u16 all, .int .i64 b, .func (.func 177) #[] #[.pointer (some ⟨wq.heap.size, 0, none⟩), .pointer (some ⟨wq.heap.size + 1, 0, none⟩)], .int .u16 (y.1 : Nat), .int .u16 all, .int .u16 (y.1 : Nat), .int .u16 (ls : Nat), .int .i64 c, .func (.func 177) #[] #[.pointer (some ⟨W.heap.size, 0, none⟩), .pointer (some ⟨W.heap.size + 1, 0, none⟩)], .int .u16 (z.1 : Nat), undef, undef, undef, undef, undef, undef, undef, undef, undef, undef], defers := [] })
   (fun _ _ _ _ _ _ hs _ _ => hs)
   ?assign2 ?body2 ?done2 ?stop2
  case assign2 =>
   rintro l2 pre' z W' K hi hK
   gi_wp2
   exact hK _ _ (KeepsFrom.refl _ _) fI.refl hi rfl
  case body2 =>
   rintro l2 pre' z a'' W' _ _ ⟨⟨⟨⟨⟨c0, c1, c2, c3⟩, v, hv, hrow, h100⟩, hB2, hW32⟩, hBx2, hi1, hi2⟩, hKN, hKF⟩ rfl hlt2
   obtain ⟨L2, hL2⟩ : ∃ L2, L2 = Lo ++ pre'.map fun z => (y.1, z.1) := ⟨_, rfl⟩
   rw [← hL2] at hrow h100
   have hL3 : (Lo ++ (pre' ++ [z]).map fun z => (y.1, z.1)) = L2 ++ [(y.1, z.1)] := by rw [hL2]; simp
   obtain ⟨A5, c5, rfl, hc5⟩ := aJ hrow
   have y9 := cell_of_row W' _ 0 _ _ _ hv
   have y10 := cell_of_row W' _ 0 _ _ _ hBx2
   have hSoi : ∀ g, ((g = 2 ∨ g = wq.heap.size ∨ g = wq.heap.size + 1) ∨ g = 2 ∨ g = W.heap.size ∨ g = W.heap.size + 1) → g ≠ w.heap.size + 1 + 1 + 1 + 1 ∧ (Value.slice A5 L2.length c5).ownBlock ≠ some g := by
    have hlow : ∀ g, (g = 2 ∨ g = wq.heap.size ∨ g = wq.heap.size + 1) → g ≠ w.heap.size + 1 + 1 + 1 + 1 ∧ (Value.slice A5 L2.length c5).ownBlock ≠ some g := fun g hg => ⟨(hKS g hg).2, fun e => by have := (hrow.lt g e).1; have := (hKS g hg).1; omega⟩
    rintro g (hg | rfl | rfl | rfl)
    ·exact hlow g hg
    ·exact hlow _ (Or.inl rfl)
    ·exact ⟨by omega, ownBlock_ne hrow hi1 (by decide)⟩
    ·exact ⟨by omega, ownBlock_ne hrow hi2 (by decide)⟩
   have hbx9 : Bx ≠ w.heap.size + 1 + 1 + 1 + 1 ∧ (Value.slice A5 L2.length c5).ownBlock ≠ some Bx := ⟨by omega, ownBlock_ne hrow hBx2 (by decide)⟩
   have hlBx := lt_of_block hBx2
   have hli2 := lt_of_block hi2
   have vU := Lib.hid hrow
   have HV := Lib.hid hv
   have C0 := Lib.hid c0
   have C1 := Lib.hid c1
   have C2 := Lib.hid c2
   have C3 := Lib.hid c3
   have HI1 := Lib.hid hi1
   have HI2 := Lib.hid hi2
   have HBX := Lib.hid hBx2
   have HL3 := Lib.hid hL3
   clear c0 c1 c2 c3 hv hi1 hi2 hBx2 hrow hL2 hL3
   by_cases hfull : 100 < L2.length + 1
   ·have hfI : (100 : Int) < (L2.length : Int) + 1 := by omega
    gi_wp2_with (gi_at_builtin; refine wY W' rfl (.tmp 51) (.tmp 55) rfl w3.heap.size (.slice A5 L2.length c5) L2.length _ vU.out rfl y.1 z.1 rfl (by omega) hW32 ?_; intro v' w8 hown' hgrow; have hst := Cz v' (Below.refl _ _) hW32 HV.out hB5 vU.out hgrow (by decide) (by decide) hSoi (show w.heap.size ≤ w.heap.size + 1 + 1 + 1 + 1 by omega); obtain ⟨g', cap', rfl⟩ := ownsRow_succ hown'; have k1 := cell_of_row w8 _ 0 _ _ _ hst.box; have k2 := frozen_of_row w8 _ 0 _ _ hst.box; have k3 := cell_of_row w8 _ 0 _ _ _ ((hst.mid _ (by omega)).trans C1.out); have k4 := frozen_of_row w8 _ 0 _ _ ((hst.mid _ (by omega)).trans C1.out); have k5 := cell_of_row w8 _ 0 _ _ _ ((hst.mid _ (by omega)).trans C2.out); have k6 := frozen_of_row w8 _ 0 _ _ ((hst.mid _ (by omega)).trans C2.out))
    have hN : ∀ g, g < w3.heap.size → g ≠ w.heap.size + 1 + 1 + 1 + 1 → (w8.setCell ⟨w.heap.size + 1 + 1 + 1 + 1, 0, none⟩ (.slice (some ⟨g', 0, none⟩) (L2.length + 1) cap')).heap[g]? = W'.heap[g]? := hst.old
    have hne2 : w.heap.size + 1 ≠ w.heap.size + 1 + 1 := by omega
    have hlen : 100 < (Lo ++ (pre' ++ [z]).map fun z => (y.1, z.1)).length := by rw [HL3.out, List.length_append, List.length_singleton]; omega
    refine ⟨(hst.others.trans ((KeepsOthers.setCell _ _ _).trans (KeepsOthers.setCell _ _ _))).from _, ⟨⟨rfl, hlen⟩, ?_, ?_, ?_⟩, hKF.trans ((hst.others.trans ((KeepsOthers.setCell _ _ _).trans (KeepsOthers.setCell _ _ _))).from _)⟩
    ·rw [Below.heap_setCell _ _ _ _ (show w.heap.size + 1 ≠ w.heap.size + 1 + 1 from hne2)]
     exact aC ((hN _ (by omega) (by omega)).trans C1.out) (.slice none 0 0)
    ·refine aC ((Below.heap_setCell _ ⟨w.heap.size + 1, 0, none⟩ (.slice none 0 0) _ (show w.heap.size + 1 + 1 ≠ w.heap.size + 1 from hne2.symm)).trans ((hN _ (by omega) (by omega)).trans C2.out)) (.int .i64 3)
    ·exact ((hB2.trans hst.below).setCell (p := ⟨w.heap.size + 1, 0, none⟩) (Nat.le_succ _) _).setCell (p := ⟨w.heap.size + 1 + 1, 0, none⟩) (by show w.heap.size ≤ w.heap.size + 1 + 1; omega) _
   ·have hfI : ¬ (100 : Int) < (L2.length : Int) + 1 := by omega
    gi_wp2_with (gi_at_builtin; refine wY W' rfl (.tmp 51) (.tmp 55) rfl w3.heap.size (.slice A5 L2.length c5) L2.length _ vU.out rfl y.1 z.1 rfl (by omega) hW32 ?_; intro v' w8 hown' hgrow; have hst := Cz v' (Below.refl _ _) hW32 HV.out hB5 vU.out hgrow (by decide) (by decide) hSoi (show w.heap.size ≤ w.heap.size + 1 + 1 + 1 + 1 by omega); obtain ⟨g', cap', rfl⟩ := ownsRow_succ hown'; have k1 := cell_of_row w8 _ 0 _ _ _ hst.box; have k2 := frozen_of_row w8 _ 0 _ _ hst.box)
    have hN : ∀ g, g < w3.heap.size → g ≠ w.heap.size + 1 + 1 + 1 + 1 → (w8.setCell ⟨w.heap.size + 1 + 1 + 1 + 1, 0, none⟩ (.slice (some ⟨g', 0, none⟩) (L2.length + 1) cap')).heap[g]? = W'.heap[g]? := hst.old
    refine ⟨hst.others.from _, hst.keep.less (fun g hg => Or.inr hg), ⟨?_, ?_⟩, (hKN.trans (hst.keep.less (fun g hg => Or.inl hg))), hKF.trans (hst.others.from _)⟩
    ·have hfin : ∀ l, l = L2 ++ [(y.1, z.1)] → ThF w w3.heap.size all c l (w8.setCell ⟨w.heap.size + 1 + 1 + 1 + 1, 0, none⟩ (.slice (some ⟨g', 0, none⟩) (L2.length + 1) cap')) := by
      rintro l rfl
      refine ⟨⟨⟨(hN _ (by omega) (by omega)).trans C0.out, (hN _ (by omega) (by omega)).trans C1.out, (hN _ (by omega) (by omega)).trans C2.out, (hN _ (by omega) (by omega)).trans C3.out⟩, _, hst.box9, ?_, by rw [List.length_append, List.length_singleton]; omega⟩, hB2.trans hst.below, Nat.le_trans hW32 hst.others.size⟩
      rw [List.length_append, rP]
      exact ji hown' (fun g e => Below.heap_setCell _ _ _ g (by have := (hown'.lt g e).1; show g ≠ w.heap.size + 1 + 1 + 1 + 1; omega))
     exact hfin _ (by rw [← HL3.out]; try simp)
    ·exact ⟨(hst.old2 _ hlBx hbx9.1 hbx9.2).trans HBX.out, (hst.old2 _ (by omega) (hSoi _ (Or.inr (Or.inr (Or.inl rfl)))).1 (hSoi _ (Or.inr (Or.inr (Or.inl rfl)))).2).trans HI1.out, (hst.old2 _ hli2 (hSoi _ (Or.inr (Or.inr (Or.inr rfl)))).1 (hSoi _ (Or.inr (Or.inr (Or.inr rfl)))).2).trans HI2.out⟩
  case done2 =>
   rintro ys W' hys ⟨⟨hTh, -⟩, hKN, hKF⟩
   have e9 : Cb all c ((pre ++ [y]).map Subtype.val) = Lo ++ ys.map fun z => (y.1, z.1) := by
    rw [List.map_append, List.map_cons, List.map_nil, zS, ← HLO.out, ER, ← HLS.out, ← hys, List.map_map]
    rfl
   gi_wp2
   exact ⟨hKF, hKN, by show ThF w w3.heap.size all c (Cb all c ((pre ++ [y]).map Subtype.val)) W'; rw [e9]; exact hTh⟩
  case stop2 =>
   rintro c' pre' W' hpre ⟨⟨⟨rfl, hlen⟩, hX⟩, hKF⟩
   have e9 : 100 < (Cb all c ((pre ++ [y]).map Subtype.val)).length := by
    rw [List.map_append, List.map_cons, List.map_nil, zS, ← HLO.out, ER, ← HLS.out]
    have := hpre.length_le
    rw [List.length_map] at this
    rw [List.length_append, List.length_map] at hlen ⊢
    omega
   gi_wp2
   exact ⟨hKF, ⟨rfl, e9⟩, hX⟩
 case done =>
  rintro D ys W hD hys ⟨⟨⟨c0, c1, c2, c3⟩, v, hv, hrow, h100⟩, hB, hW3⟩ hK
  rw [hys] at hrow h100
  obtain ⟨A5, c5, rfl, hc5⟩ := aJ hrow
  obtain ⟨L, hL⟩ : ∃ L, L = Cb all c (gL all b) := ⟨_, rfl⟩
  rw [← hL] at hrow h100 hv hc5
  have h9 := HFO.out
  rw [← hL, if_neg (by omega)] at h9
  have H9 := Lib.hid h9
  have x2 := cell_of_row W _ 0 _ _ _ c1
  have x3 := frozen_of_row W _ 0 _ _ c1
  have x4 := cell_of_row W _ 0 _ _ _ c2
  have x5 := frozen_of_row W _ 0 _ _ c2
  have y2 := cell_of_row W _ 0 _ _ _ hv
  have vU := Lib.hid hrow
  have HC1 := Lib.hid c1
  have HC2 := Lib.hid c2
  have HK := Lib.hid hK
  clear hrow hL h9 hys c0 c1 c2 c3 hv hK
  gi_wp2
  have hK9 := (((KeepsOthers.setCell W ⟨w.heap.size + 1, 0, none⟩ (.slice A5 L.length c5)).trans (KeepsOthers.setCell _ ⟨w.heap.size + 1 + 1, 0, none⟩ (.int .i64 0))).same D _ HK.out rfl)
  refine ⟨by simp, .inl ⟨_, _, rfl, run_takeDeferred hK9, ?_⟩⟩
  have hne2 : w.heap.size + 1 ≠ w.heap.size + 1 + 1 := by omega
  have hb9 : Below w.heap.size w ((W.setCell ⟨w.heap.size + 1, 0, none⟩ (.slice A5 L.length c5)).setCell ⟨w.heap.size + 1 + 1, 0, none⟩ (.int .i64 0)) := (hB.setCell (p := ⟨w.heap.size + 1, 0, none⟩) (Nat.le_succ _) _).setCell (p := ⟨w.heap.size + 1 + 1, 0, none⟩) (by show w.heap.size ≤ w.heap.size + 1 + 1; omega) _
  have hD1 : w.heap.size + 1 + 1 < D := by have := HSQ.out; omega
  refine ⟨_, EH rfl rfl rfl (A := A5) (n := L.length) (c := c5) (er := 0) (T := 52) (T' := 39) ?_ ?_, ?_⟩
  ·rw [fJ _ (by omega), Below.heap_setCell _ _ _ _ (show w.heap.size + 1 ≠ w.heap.size + 1 + 1 from hne2)]
   exact aC HC1.out (.slice A5 L.length c5)
  ·rw [fJ _ (by omega)]
   exact aC ((Below.heap_setCell W ⟨w.heap.size + 1, 0, none⟩ (.slice A5 L.length c5) _ (show w.heap.size + 1 + 1 ≠ w.heap.size + 1 from hne2.symm)).trans HC2.out) (.int .i64 0)
  ·rw [H9.out]
   refine ⟨A5, c5, rfl, ?_, hc5, hb9.trans (belowK_b (w := w) (Nat.le_refl _) _ D _ _ (by omega) hK9 rfl rfl)⟩
   refine (ak.own (ji vU.out (fun g e => ?_))).mono (fun g hg _ => by have := jw.size; omega) (by decide)
   have hg := vU.out.lt g e
   have hgD : g ≠ D := fun e9 => by
    have h1 := HK.out
    rw [← e9] at h1
    rcases vU.out.2 with ⟨h2, -⟩ | ⟨g1, c1, cur1, h2, -, h3, -⟩
    ·rw [h2] at e; cases e
    ·rw [h2] at e
     simp only [Value.ownBlock, Option.some.injEq] at e
     rw [e, h1] at h3
     cases h3
   have := HSQ.out
   rw [fJ _ hgD, Below.heap_setCell _ _ _ g (show g ≠ w.heap.size + 1 + 1 by omega), Below.heap_setCell _ _ _ g (show g ≠ w.heap.size + 1 by omega)]
 case stop =>
  rintro D c' pre W hD hpre ⟨⟨rfl, hlen⟩, c1, c2, hB⟩ hK
  have h9 := HFO.out
  rw [if_pos (by have := thrL_len all c hpre; omega)] at h9
  have H9 := Lib.hid h9
  have HC1 := Lib.hid c1
  have HC2 := Lib.hid c2
  have HK := Lib.hid hK
  clear h9 hpre c1 c2 hK hlen
  gi_wp2
  refine ⟨by simp, .inl ⟨_, _, rfl, run_takeDeferred HK.out, ?_⟩⟩
  have hD1 : w.heap.size + 1 + 1 < D := by have := HSQ.out; omega
  refine ⟨_, EH rfl rfl rfl (A := none) (n := 0) (c := 0) (er := 3) ((fJ _ (by omega)).trans HC1.out) ((fJ _ (by omega)).trans HC2.out), ?_⟩
  rw [H9.out]
  exact ⟨none, 0, rfl, .empty _ _ _ _, Nat.le_refl _, hB.trans (belowK_b (w := w) (Nat.le_refl _) _ D _ _ (by omega) HK.out rfl rfl)⟩
end Go.Proofs.YtmohibkomlhlaaaGreatDoor
namespace Go.Proofs.YtmohibkomlhlaaaGreatDoor
open Go.RowKit
open _root_.Go.Proofs.Tryz
theorem oD (l : List (Nat × Nat)) : (bG l).length = l.length * 2 := by
 induction l with
 |nil => rfl
 |cons x r ih => rw [show bG (x :: r) = [.int .u16 (x.1 : Nat), .int .u16 (x.2 : Nat)] ++ bG r from rfl, List.length_append, ih, List.length_cons]; simp; omega
theorem ve (l : List (Nat × Nat)) : ∀ u ∈ bG l, u.oneCell' = true := by
 intro u hu
 obtain ⟨x, -, hu⟩ := List.mem_flatMap.1 hu
 simp only [List.mem_cons, List.not_mem_nil, or_false] at hu
 rcases hu with rfl | rfl <;> rfl
theorem wp_flts (w : World) {ops : Array Oper} {rest : List Oper} {o : Oper} {a : Act} {Q : Exit → Act → World → Prop} (hgd : o.guard = none) (s x : Operand)
  (ho : o.op = .call { callee := .builtin .append, args := #[s, x], argTypes := #[52, 52] })
  (base : Nat) (v : Value) (n : Nat) (xs : List Value) (hown : w.ownsRow base 148 2 v n xs) (hs : a.eval s = v)
  (g off m c : Nat) (news : List Value) (hx : a.eval x = .slice (some ⟨g, off, none⟩) m c) (hl : news.length = m * 2) (hcells : ∀ j u, news[j]? = some u → w.cell? ⟨g, off + j, none⟩ = some u) (h1 : ∀ u ∈ news, u.oneCell' = true)
  (hlim : n + m ≤ 100000000) (hbase : base ≤ w.heap.size)
  (h : ∀ v' w', w'.ownsRow base 148 2 v' (n + m) (xs ++ news) → w.grownBy w' v.ownBlock → (v'.ownBlock = v.ownBlock ∨ v'.ownBlock = some w.heap.size) → wpList prog ops Q rest (a.put o.dst v') w') :
  wpList prog ops Q (o :: rest) a w := by
 obtain ⟨i0, hi, hz0, hz1, hz2⟩ := info_parts yU
 refine wpList_plain hgd fun _ hK => ?_
 obtain ⟨v', w', h1', h2, h3, _, h5⟩ := run_append_own_at (P := prog) w base 52 o.type 148 i0 _ 2 4 underlying52 hi hz0 hz1 hz2 rfl (by decide) v n xs hown ⟨g, off, none⟩ m c news hl (fun j u hu => by rw [Go.WideShapes.add_plain]; exact hcells j u hu) h1 (by unfold maxLen; omega) (by omega) hbase
 unfold Oper.wp execOp
 simp only [ho, resolve, invoke, builtin, Sem.run_bind, Sem.run_pure, Result.andThen_ok, List.map_toArray, List.map_cons, List.map_nil, hs, hx, h1']
 exact hK _ _ (h v' w' h2 h3 h5)
theorem xR (l : List (Nat × Nat)) (g o c : Nat) (w : World) (hg : g < w.heap.size) (hc : ∀ j u, (bG l)[j]? = some u → w.cell? ⟨g, o + j, none⟩ = some u) (hll : l.length ≤ 10000000) :
  Calls prog 78 #[.slice (some ⟨g, o, none⟩) l.length c] w fun e w' => ∃ v, e = .returned v ∧ w'.ownsRow w.heap.size 148 2 v l.length (bG l) ∧ Below w.heap.size w w' := by
 obtain ⟨X, hX⟩ : ∃ X : World, X = w.alloc (.cells #[] 148 (0, 0)) := ⟨_, rfl⟩
 have hbX : Below w.heap.size w X := by rw [hX]; exact (Below.refl _ _).alloc (Nat.le_refl _) _
 have hzX : w.heap.size ≤ X.heap.size := hbX.size
 have hoX : X.ownsRow w.heap.size 148 2 (.slice (some ⟨w.heap.size, 0, none⟩) 0 0) 0 [] := by rw [hX]; exact World.ownsRow_lit (base := w.heap.size) (e := 148) (size := 2) w #[] 0 (Nat.le_refl _) (by decide) rfl
 have hcX : ∀ j u, (bG l)[j]? = some u → X.cell? ⟨g, o + j, none⟩ = some u := fun j u hu => (hbX.cell (p := ⟨g, o + j, none⟩) hg).trans (hc j u hu)
 have HX := Lib.hid hX
 have HC := Lib.hid hcX
 obtain ⟨N, hN⟩ : ∃ N, N = l.length := ⟨_, rfl⟩
 have HN := Lib.hid hN
 have HLEN := Lib.hid (show (bG l).length = N * 2 by rw [hN]; exact oD l)
 rw [← hN] at hll ⊢
 clear hX hcX hc hN
 have heq := fun (W : World) => Lib.run_eql_slice_nil (P := prog) W 52 148 (some (⟨g, o, none⟩ : Addr)) N c 0 0 underlying52
 go_enter func78, ntmps78
 go_upto_region 3 with fail
 go_wp2_with (rw [← HX.out]; refine wp_flts X rfl (.tmp 5) (.tmp 6) rfl w.heap.size _ 0 [] hoX rfl g o N c (bG l) rfl HLEN.out HC.out (ve l) (by omega) hzX ?_; intro v3 X3 hown3 hg3 hv3)
 go_ret
 refine ⟨_, rfl, ?_, hbX.trans (aM hoX hg3 hzX)⟩
 rw [Nat.zero_add, List.nil_append] at hown3
 exact hown3
def qV (l : List (Nat × Nat)) : List (Nat × Nat) := l.filter fun a => !l.any (lq a)
theorem F7 (l p : List (Nat × Nat)) (a : Nat × Nat) : (p ++ [a]).filter (fun a => !l.any (lq a)) = if l.any (lq a) then p.filter (fun a => !l.any (lq a)) else p.filter (fun a => !l.any (lq a)) ++ [a] := by
 rw [List.filter_append]
 cases h : l.any (lq a) <;> simp [h]
theorem push_flt (w : World) {ops : Array Oper} {rest : List Oper} {o : Oper} {a : Act} {Q : Exit → Act → World → Prop} (hgd : o.guard = none) (s x : Operand)
  (ho : o.op = .call { callee := .builtin .append, args := #[s, x], argTypes := #[52, 52] })
  (base : Nat) (v : Value) (n : Nat) (xs : List Value) (hown : w.ownsRow base 148 2 v n xs) (hs : a.eval s = v)
  (y z : Nat) (hx : a.eval x = .slice (some ⟨w.heap.size, 0, none⟩) 1 1)
  (hlim : n ≤ 100000000000) (hbase : base ≤ w.heap.size)
  (h : ∀ v' w', w'.ownsRow base 148 2 v' (n + 1) (xs ++ [.int .u16 (y : Nat), .int .u16 (z : Nat)]) → w.grownBy w' v.ownBlock → (v'.ownBlock = v.ownBlock ∨ v'.ownBlock = some (w.heap.size + 1)) → wpList prog ops Q rest (a.put o.dst v') w') :
  wpList prog ops Q (o :: rest) a (w.alloc (.cells #[.int .u16 (y : Nat), .int .u16 (z : Nat)] 148)) := by
 obtain ⟨i0, hi, hz0, hz1, hz2⟩ := info_parts yU
 exact dY w hgd s x _ ho base 148 i0 _ 2 4 underlying52 hi hz0 hz1 hz2 rfl (by decide) v n xs hown hs [.int .u16 (y : Nat), .int .u16 (z : Nat)] hx rfl (by simp [Value.oneCell']) (by omega) (by omega) hbase h
theorem FQ (l : List (Nat × Nat)) (A : Option Addr) (c : Nat) (w : World) (S : Nat → Prop) (hl : ak w S 2 A l.length (bG l)) (hS : ∀ g, S g → g < w.heap.size) (hl0 : 0 < l.length) (h12 : l.length ≤ 12) (ho : oL l) (hf : Hw l) :
  Calls prog 142 #[.slice A l.length c] w (qD (qV l) 0 w) := by
 have hbA : ∀ (W : World) (o : Obj), Below W.heap.size W (W.alloc o) := fun W o => (Below.refl _ _).alloc (Nat.le_refl _) o
 obtain ⟨g, o, rfl, hSg, hc⟩ := hl.cells (by omega)
 have HC := Lib.hid (xR l g o c w (hS g hSg) hc (by omega))
 have HO := Lib.hid ho
 have HF := Lib.hid hf
 obtain ⟨N, hN⟩ : ∃ N, N = l.length := ⟨_, rfl⟩
 have HN := Lib.hid hN
 rw [← hN] at HC h12 ⊢
 clear hl hS ho hf hN hc hl0
 go_enter func142, ntmps142
 go_wp2_with fail
 refine HC.out.mono ?_
 rintro e w1 ⟨v, rfl, hown, hb1⟩
 obtain ⟨A1, c1, rfl, hc1⟩ := aJ hown
 have hsees := ak.own hown
 have HS1 := Lib.hid (hsees.mono (S' := (· < w1.heap.size)) (fun g _ hl => hl) (by decide))
 have HSO := Lib.hid (show Calls prog 179 #[.slice A1 N c1, .func (.func 180) #[] #[]] w1 fun e w' => e = .returned (.tuple #[]) ∧ Below w1.heap.size w1 w' from by
  have := HN.out
  rw [HN.out]
  exact sort_any l A1 c1 w1 (· < w1.heap.size) (by rw [← HN.out]; exact HS1.out) (fun g hg => hg) (by omega) HO.out HF.out)
 clear hown hsees
 go_wp2_with fail
 refine HSO.out.mono ?_
 rintro e w2 ⟨rfl, hb2⟩
 have HS2 := Lib.hid ((HS1.out.keep (ai hb2 (fun g hg => hg))).mono (S' := (· < w2.heap.size)) (fun g _ hl => hl) (by decide))
 have HCO := Lib.hid (show Calls prog 181 #[.slice A1 N c1] w2 fun e w' => e = .returned (.slice A1 N c1) ∧ Below w2.heap.size w2 w' from by
  have := HN.out
  rw [HN.out]
  exact DK l A1 c1 w2 (· < w2.heap.size) (by rw [← HN.out]; exact HS2.out) (fun g hg => hg) (by omega) HO.out)
 go_wp2_with fail
 refine HCO.out.mono ?_
 rintro e w3 ⟨rfl, hb3⟩
 have HS3 := Lib.hid ((HS2.out.keep (ai hb3 (fun g hg => hg))).mono (S' := (· < w3.heap.size)) (fun g _ hl => hl) (by decide))
 have jw : Below w.heap.size w w3 := hb1.trans ((hb2.trans (hb3.mono hb2.size)).mono hb1.size)
 clear HC HSO HCO hb1 hb2 hb3
 go_wp2
 go_loopw [4, 15] (fun y x wr => ∃ (k : Nat) (L : List (Nat × Nat)), k ≤ N ∧ x = .int .i64 k ∧ Hid (L = (l.take k).filter (fun a => !l.any (lq a))) ∧ L.length ≤ k ∧ Below w3.heap.size w3 wr ∧ wr.ownsRow w3.heap.size 148 2 y L.length (bG L)) (fun _ x _ => N - (intOf x).toNat)
 case atStart => exact ⟨0, [], Nat.zero_le _, rfl, Lib.hid rfl, Nat.le_refl _, Below.refl _ _, World.ownsRow_nil _ _ _ _⟩
 case round =>
  obtain ⟨k, L, hk, rfl, hL, hLk, hb, hown⟩ := hrel
  obtain ⟨A5, c5, hv5, hc5⟩ := aJ hown
  have hv5' := hv5.symm
  clear hv5
  subst hv5'
  have hsr := hb.size
  by_cases hlt : k < N
  ·have hkI : (k : Int) < (N : Int) := by omega
   have hk0 : (0 : Int) ≤ (k : Int) := by omega
   have hlt2 : k < l.length := by have := HN.out; omega
   have hS9 := HS3.out.keep (ai hb (fun g hg => hg))
   obtain ⟨g1, o1, hA1, hSg1, x0, x1⟩ := jZ (by rw [← HN.out]; exact hS9) (k := k) hlt2
   subst hA1
   obtain ⟨a, ha⟩ : ∃ a, a = l[k] := ⟨_, rfl⟩
   have hfa := HF.out l[k] (List.getElem_mem hlt2)
   rw [← ha] at x0 x1 hfa
   have hsn := F7 l (l.take k) l[k]
   rw [← mD l k hlt2, ← ha, ← hL.out] at hsn
   have HSN := Lib.hid hsn
   have hgs : g1 < wr.heap.size := by have := hSg1; omega
   obtain ⟨wa, hwa⟩ : ∃ wa : World, wa = wr.alloc (.cells #[.int .u16 (a.1 : Nat), .int .u16 (a.2 : Nat)] 148) := ⟨_, rfl⟩
   have hba : Below wr.heap.size wr wa := by rw [hwa]; exact hbA _ _
   have hra : wa.heap[wr.heap.size]? = some (.cells #[.int .u16 (a.1 : Nat), .int .u16 (a.2 : Nat)] 148 (0, 0)) := by rw [hwa]; exact heap_alloc_new _ _
   have HX := Lib.hid (show Calls prog 182 #[.slice (some ⟨g1, o1, none⟩) N c1, .func (.func 183) #[] #[.pointer (some ⟨wr.heap.size, 0, none⟩)]] wa fun e w' => e = .returned (.bool (l.any (lq a))) ∧ Below wa.heap.size wa w' from by
    have := HN.out
    rw [HN.out]
    refine cx_flt l (· < wa.heap.size) (some ⟨g1, o1, none⟩) c1 wa (by rw [← HN.out]; exact (hS9.keep (ai hba (fun g hg => by have := hg; omega))).mono (fun g _ hl => hl) (by decide)) (fun g hg => hg) (by omega) 183 (enters_of func183 (by kernel_rfl) rfl) (.pointer (some ⟨wr.heap.size, 0, none⟩)) (lq a) (fun x hx v W hv hW => ?_)
    subst hv
    have hfx := HF.out x hx
    exact over_any a x ⟨by omega, by omega⟩ ⟨by omega, by omega⟩ wr.heap.size W ((hW.block _ (lt_of_block hra)).trans hra))
   have HRA := Lib.hid hra
   have HOWN := Lib.hid hown
   have HWA := Lib.hid hwa
   have hsa := hba.size
   obtain ⟨ov, hov⟩ : ∃ ov, ov = l.any (lq a) := ⟨_, rfl⟩
   rw [← hov] at HX HSN
   clear hS9 hsn hra hown hwa hov ha hlt2
   go_wp2_with fail
   rw [← HWA.out]
   refine HX.out.mono ?_
   rintro e w6 ⟨rfl, hb6⟩
   have hb36 : Below w3.heap.size w3 w6 := hb.trans ((hba.trans (hb6.mono hsa)).mono hsr)
   have wo := own_below HOWN.out (hba.trans (hb6.mono hsa)) (Nat.le_refl _)
   have hra6 := (hb6.block _ (lt_of_block HRA.out)).trans HRA.out
   obtain ⟨y0, y1⟩ := ay hra6
   have hl6 := lt_of_block hra6
   have hs36 := hb36.size
   clear hra6
   cases ov
   ·have h9 := HSN.out
    rw [if_neg (by decide)] at h9
    have H9 := Lib.hid h9
    clear h9
    go_wp2_with (at_builtin; refine push_flt w6 rfl (.tmp 23) (.tmp 25) rfl w3.heap.size _ _ _ wo rfl a.1 a.2 rfl (by omega) (by omega) ?_; intro v' w7 hown' hg' hv')
    go_roundw
    case rel =>
     refine ⟨k + 1, L ++ [a], by omega, by go_num, Lib.hid (by rw [H9.out]), by rw [List.length_append, List.length_singleton]; omega, hb36.grown hg' (by omega) (fun j e => by have := (wo.lt j e).1; omega), ?_⟩
     rw [List.length_append, List.length_singleton, rP]
     exact hown'
    case measure => simp [intOf]; omega
   ·have h9 := HSN.out
    rw [if_pos rfl] at h9
    have H9 := Lib.hid h9
    clear h9
    go_wp2
    go_roundw
    case rel => exact ⟨k + 1, L, by omega, by go_num, Lib.hid (by rw [H9.out]), by omega, hb36, wo⟩
    case measure => simp [intOf]; omega
  ·obtain rfl : k = N := by omega
   have hkI : ¬ (k : Int) < (k : Int) := by omega
   have hL9 : L = qV l := by rw [hL.out, HN.out, List.take_length]; rfl
   have h100 : ¬ (100 : Int) < (L.length : Int) := by omega
   have HOWN := Lib.hid hown
   have HL9 := Lib.hid hL9
   clear hL hL9 hown
   go_wp2
   go_ret2
   rw [← HL9.out]
   exact ⟨A5, c5, rfl, (ak.own HOWN.out).mono (fun g hg _ => by have := jw.size; omega) (by decide), hc5, jw.trans (hb.mono jw.size)⟩
theorem yO (l : List (Nat × Nat)) (A : Option Addr) (c : Nat) (w : World) (S : Nat → Prop) (hl : ak w S 2 A l.length (bG l)) (hS : ∀ g, S g → g < w.heap.size) (hl0 : 0 < l.length) (h12 : l.length ≤ 12) (ho : oL l) (hf : Hw l) (he : ∀ x ∈ l, fltE x = 0) :
  Calls prog 104 #[.slice A l.length c] w (qD (qV l) 0 w) := by
 have hbA : ∀ (W : World) (o : Obj), Below W.heap.size W (W.alloc o) := fun W o => (Below.refl _ _).alloc (Nat.le_refl _) o
 obtain ⟨N, hN⟩ : ∃ N, N = l.length := ⟨_, rfl⟩
 have HN := Lib.hid hN
 have HC := Lib.hid (fun (W : World) (hW : Below w.heap.size w W) => show Calls prog 142 #[.slice A N c] W (qD (qV l) 0 W) from by
  rw [hN]
  exact FQ l A c W S (hl.keep (ai hW hS)) (fun g hg => by have := hS g hg; have := hW.size; omega) hl0 h12 ho hf)
 have HL := Lib.hid hl
 have HF := Lib.hid hf
 have HE := Lib.hid he
 rw [← hN] at h12 hl0 ⊢
 have hN0 : ((N : Int) == 0) = false := kI (show ¬ N = 0 by omega)
 clear hl ho hf he hN
 go_enter func104, ntmps104
 go_wp2
 go_loopw [12] (fun x wr => ∃ k : Nat, k ≤ N ∧ x = .int .i64 k ∧ Below w.heap.size w wr) (fun x _ => N - (intOf x).toNat)
 case atStart => exact ⟨0, Nat.zero_le _, rfl, Below.refl _ _⟩
 case round =>
  obtain ⟨k, hk, rfl, hb⟩ := hrel
  by_cases hlt : k < N
  ·have hkI : (k : Int) < (N : Int) := by omega
   have hk0 : (0 : Int) ≤ (k : Int) := by omega
   have hlt2 : k < l.length := by have := HN.out; omega
   obtain ⟨g1, o1, rfl, hSg1, x0, x1⟩ := jZ (HL.out.keep (ai hb hS)) (k := k) hlt2
   obtain ⟨a, ha⟩ : ∃ a, a = l[k] := ⟨_, rfl⟩
   have hfa := HF.out l[k] (List.getElem_mem hlt2)
   have hea := HE.out l[k] (List.getElem_mem hlt2)
   rw [← ha] at x0 x1 hfa hea
   have hgs : g1 < wr.heap.size := by have := hS g1 hSg1; have := hb.size; omega
   have HX := Lib.hid (show ∀ W, Calls prog 141 #[.agg #[.int .u16 (a.1 : Nat), .int .u16 (a.2 : Nat)]] W fun e w' => e = .returned (.int .i64 0) ∧ Below W.heap.size W w' from fun W => (Bf a (by omega) (by omega) W).mono (fun e w' h => ⟨by rw [h.1, hea]; rfl, h.2⟩))
   clear ha hea hlt2
   go_wp2_with fail
   refine (HX.out _).mono ?_
   rintro e w6 ⟨rfl, hb6⟩
   go_wp2
   go_roundw
   case rel => exact ⟨k + 1, by omega, by go_num, hb.trans (((hbA _ _).trans (hb6.mono (by simp))).mono hb.size)⟩
   case measure => simp [intOf]; omega
  ·obtain rfl : k = N := by omega
   have hkI : ¬ (k : Int) < (k : Int) := by omega
   go_wp2_with fail
   refine (HC.out wr hb).mono ?_
   rintro e w6 ⟨A6, c6, rfl, hs6, hc6, hb6⟩
   go_wp2
   go_ret2
   exact ⟨A6, c6, rfl, hs6.mono (fun g hg _ => by have := hb.size; omega) (by decide), hc6, hb.trans (hb6.mono hb.size)⟩
theorem dc_flts {w : World} {S : Nat → Prop} {d : Dc} {v : Value} (h : dx w S d v) : ∃ (cs : List Value) (fA : Option Addr) (fc : Nat), cs.length = 22 ∧ cs.toArray.all (·.oneCell') = true ∧ v = .agg cs.toArray ∧ cs[4]? = some (.slice fA d.faults.length fc) ∧ aL (lY w S) w S 6 fA d.faults := by
 obtain ⟨nA, nc, fA, fc, vt, vr, vw, hv, h1, h2, h3, h4, h5, h6, h7⟩ := h
 obtain ⟨o1, m1, d1, wA1, wn1, wc1, kA1, kn1, kc1, rfl⟩ := h5.form
 obtain ⟨o2, m2, d2, wA2, wn2, wc2, kA2, kn2, kc2, rfl⟩ := h6.form
 obtain ⟨o3, m3, d3, wA3, wn3, wc3, kA3, kn3, kc3, rfl⟩ := h7.form
 clear h5 h6 h7
 simp only [Value.cells, List.append_toArray, List.cons_append, List.nil_append] at hv
 refine ⟨[.int .i64 d.kind, .int .i64 d.line, .string d.name, .slice nA d.names.length nc, .slice fA d.faults.length fc, .int .i64 o1, .string m1, .int .i64 d1, .slice wA1 wn1 wc1, .slice kA1 kn1 kc1, .string d.proto, .int .i64 o2, .string m2, .int .i64 d2, .slice wA2 wn2 wc2, .slice kA2 kn2 kc2, .int .i64 o3, .string m3, .int .i64 d3, .slice wA3 wn3 wc3, .slice kA3 kn3 kc3, .string d.use], fA, fc, rfl, all_oneCell_toArray ?_, hv, rfl, h3⟩
 intro u hu
 simp only [List.mem_cons, List.not_mem_nil, or_false] at hu
 rcases hu with rfl | rfl | rfl | rfl | rfl | rfl | rfl | rfl | rfl | rfl | rfl | rfl | rfl | rfl | rfl | rfl | rfl | rfl | rfl | rfl | rfl | rfl <;> rfl
structure FOk (F : List (Nat × Nat)) : Prop where
 pos : 0 < F.length
 le : F.length ≤ 12
 ord : oL F
 flt : Hw F
 can : ∀ x ∈ F, fltE x = 0
theorem Bt {b sb mb c : Nat} {A : Option Addr} {l : List Dc} (w : World) (S : Nat → Prop) (hw : Wd w b sb mb A c l) (hls : aL (dx w S) w S 22 A l) (hS : ∀ g, S g → g < w.heap.size) (hll : l.length ≤ 1000000000) (hn : (aj l).length ≤ 12)
  (x : ByteArray) (d : Dc) (hd : ql l 2 x = some d) (nm : ByteArray) (bz cr : Nat) (bn cn : List ByteArray) (hft : d.faults = [⟨2, nm, bz, cr, bn, cn⟩]) (hsum : bz + cr ≤ (aj l).length) (hz : Tz w) (F : List (Nat × Nat)) (hF : tJ (aj l).length bz cr = (F, 0)) (ho : FOk F) :
  Calls prog 77 #[.pointer (some ⟨b, 0, none⟩), .string x] w (qD (qV F) 0 w) := by
 have hbA : ∀ (W : World) (o : Obj), Below W.heap.size W (W.alloc o) := fun W o => (Below.refl _ _).alloc (Nat.le_refl _) o
 have HFD := Lib.hid (tC w S hw hls hS hll 2 x d hd)
 have HW := Lib.hid hw
 have HFT := Lib.hid hft
 have HZ := Lib.hid hz
 have HO := Lib.hid ho
 obtain ⟨N, hN⟩ : ∃ N, N = (aj l).length := ⟨_, rfl⟩
 have HN := Lib.hid hN
 rw [← hN] at hn hsum hF
 have HT := Lib.hid (fun (W : World) (hW : Tz W) => thrF_any N bz cr hn hsum W hW)
 rw [hF] at HT
 clear hw hls hd hft hz ho hN hF
 go_enter func77, ntmps77
 go_wp2_with fail
 refine HFD.out.mono ?_
 rintro e w3 ⟨v3, rfl, hp3, hb3⟩
 obtain ⟨cs, fA, fc, hcl, hone, rfl, q4, hfl⟩ := dc_flts hp3
 rw [HFT.out] at q4 hfl
 have hcs2 : cs.toArray.size = 22 := by simpa using hcl
 have sZ := Lib.hid hone
 have HCS := Lib.hid hcs2
 have C4 := Lib.hid q4
 have HFL := Lib.hid hfl
 have hbB : ∀ o, Below w3.heap.size w3 (w3.alloc o) := fun o => (Below.refl _ _).alloc (Nat.le_refl _) o
 have hSw3 : ∀ g, S g → g < w3.heap.size := fun g hg => by have := hS g hg; have := hb3.size; omega
 have HS3 := Lib.hid hSw3
 clear hp3 hcl hone hcs2 q4 hfl hSw3
 go_wp2_with (with_reducible refine dJ _ rfl rfl (.tmp 6) (.tmp 17) rfl w3.heap.size cs.toArray rfl rfl _ (heap_alloc_new w3 _) rfl HCS.out sZ.out ?_; intro W5 hr5 hg5; have p4 := eH hr5 C4.out; have hb5 : Below w3.heap.size w3 W5 := (hbB _).trans (below_grown hg5 (Nat.le_refl _) (by simp)); clear hr5 hg5)
 have zI : Below w.heap.size w W5 := hb3.trans (hb5.mono hb3.size)
 have hw5 := HW.out.below zI
 obtain ⟨g, o, v, rfl, hSg, hp, hc⟩ := dL (fun x v h => by obtain ⟨_, _, _, _, rfl, -⟩ := h; rfl) (HFL.out.keep (P' := lY W5 S) (ai hb5 HS3.out) (fun _ _ h => h.keep (ai hb5 HS3.out))) (i := 0) (by simp)
 obtain ⟨bA, bc, cA, cc, rfl, -, -, -, -⟩ := hp
 have k0 := hc 0 _ rfl
 have k1 := hc 1 _ rfl
 have k2 := hc 2 _ rfl
 have k3 := hc 3 _ rfl
 have k4 := hc 4 _ rfl
 have k5 := hc 5 _ rfl
 have hgs : g < W5.heap.size := by have := HS3.out g hSg; have := hb5.size; omega
 clear hc
 simp only [Nat.zero_mul, Nat.add_zero] at k0 k1 k2 k3 k4 k5
 have HW5 := Lib.hid hw5
 have HB5 := Lib.hid zI
 have hsz5 := zI.size
 clear hw5 zI
 go_loopw [8, 22] (fun y x wr => ((x = .int .i64 0 ∧ y = .slice none 0 0 ∧ wr = W5) ∨ (x = .int .i64 1 ∧ ∃ A5 c5, y = .slice A5 F.length c5 ∧ Hid (wr.ownsRow W5.heap.size 148 2 (.slice A5 F.length c5) F.length (bG F)) ∧ Hid (Below W5.heap.size W5 wr)))) (fun _ x _ => 1 - (intOf x).toNat)
 case atStart => exact Or.inl ⟨rfl, rfl, rfl⟩
 case round =>
  rcases hrel with ⟨rfl, rfl, rfl⟩ | ⟨rfl, A5, c5, rfl, hown, hb⟩
  ·go_upto_region 12 with fail
   obtain ⟨W6, hW6⟩ : ∃ W6 : World, W6 = wr.alloc (.cells #[.int .i64 2, .string nm, .int .i64 bz, .int .i64 cr, .slice bA bn.length bc, .slice cA cn.length cc] 68) := ⟨_, rfl⟩
   have hb6 : Below wr.heap.size wr W6 := by rw [hW6]; exact hbA _ _
   have hr6 : W6.heap[wr.heap.size]? = some (.cells #[.int .i64 2, .string nm, .int .i64 bz, .int .i64 cr, .slice bA bn.length bc, .slice cA cn.length cc] 68 (0, 0)) := by rw [hW6]; exact heap_alloc_new _ _
   have HR6 := Lib.hid hr6
   have HW6 := Lib.hid (HW5.out.below hb6)
   rw [← hW6]
   have hlt6 := lt_of_block hr6
   clear hW6 hr6 k0 k1 k2 k3 k4 k5
   refine ax.start (fun W' => Below W6.heap.size W6 W') [] [0, 1, 2, 3, 4, 5, 6, 7, 8, 10, 11, 12, 13, 14] (by kernel_rfl) (below_drewN (Below.refl _ _) 1) (fun hHeld => ?_)
   repeat
    refine ax.take (v := ?_) rfl (by decide +kernel) (by rfl) (fun _ _ _ h => h) hHeld ?_ ?_
    rotate_left
    focus
     intro w9 h9
     have hW9 := HW6.out.below h9
     obtain ⟨z0, z1, z2⟩ := hW9.cells
     have hr9 := (h9.block _ hlt6).trans HR6.out
     have z3 := ah hr9 2 _ rfl
     have z4 := ah hr9 3 _ rfl
     have hlen := hW9.map.len underlying117 3
     rw [← HN.out] at hlen
     go_simp
     (try with_reducible rfl)
     done
    simp only [Act.put, List.getElem_toArray, List.getElem_cons_succ, List.getElem_cons_zero, List.setIfInBounds_toArray, List.set_cons_zero, List.set_cons_succ]
   repeat'
    first
    |refine ax.pure (v := ?_) rfl (by decide +kernel) (by rfl) (fun _ _ _ h => h) (fun _ => hHeld) ?_ ?_
     rotate_left
     focus
      intro w9
      go_simp
      (try with_reducible rfl)
      done
     simp only [Act.put, List.getElem_toArray, List.getElem_cons_succ, List.getElem_cons_zero, List.setIfInBounds_toArray, List.set_cons_zero, List.set_cons_succ]
    |refine ax.one 9 rfl (by decide +kernel) (by rfl) (fun K hK => ?_)
    |go_simp
     go_at_call 103
     refine (HT.out _ (HZ.out.below (HB5.out.trans ((hb6.trans (hHeld.mono hb6.size)).mono hsz5)) (Nat.le_refl _))).mono ?_
     rintro e Y1 ⟨A7, c7, rfl, hsf, hc7, hb7⟩
     have HSF := Lib.hid hsf
     clear hsf
     have hHeld := hHeld.trans (hb7.mono hHeld.size)
     try go_simp
     refine hK.out _ _ (fun _ => hHeld) ?_
     clear hK K
   refine ax.done (by decide +kernel) ?_
   have hpos := HO.out.pos
   have hle := HO.out.le
   obtain ⟨g7, o7, rfl, hg7, hc7'⟩ := HSF.out.cells (by omega)
   have hbY : Below wr.heap.size wr Y1 := hb6.trans (hHeld.mono hb6.size)
   have HC7 := Lib.hid hc7'
   obtain ⟨Fn, hFn⟩ : ∃ Fn, Fn = F.length := ⟨_, rfl⟩
   have HFN := Lib.hid hFn
   have HLF := Lib.hid (show (bG F).length = Fn * 2 by rw [hFn]; exact oD F)
   have HSF2 := HSF
   rw [← hFn] at hle hpos hc7
   clear hc7' HSF HSF2
   rw [← hFn]
   clear hFn
   have hszY := hbY.size
   go_wp2_with (refine wp_flts Y1 rfl (.tmp 87) (.tmp 88) rfl wr.heap.size _ 0 [] (World.ownsRow_nil _ _ _ _) rfl g7 o7 Fn c7 (bG F) rfl HLF.out HC7.out (ve F) (by omega) hszY ?_; intro v8 X8 mo hg8 hv8)
   obtain ⟨A5, c5, rfl, -⟩ := aJ mo
   have Gf : X8.ownsRow wr.heap.size 148 2 (.slice A5 Fn c5) Fn (bG F) := by
    rw [Nat.zero_add, List.nil_append] at mo
    exact mo
   rw [HFN.out] at Gf
   exact ⟨Or.inr ⟨rfl, A5, c5, by rw [Nat.zero_add, HFN.out], Lib.hid Gf, Lib.hid (hbY.trans (aM (World.ownsRow_nil Y1 wr.heap.size 148 2) hg8 hszY))⟩, by simp [intOf]⟩
  ·have HC := Lib.hid (yO F A5 c5 wr (· < wr.heap.size) ((ak.own hown.out).mono (fun g _ hl => hl) (by decide)) (fun g hg => hg) HO.out.pos HO.out.le HO.out.ord HO.out.flt HO.out.can)
   go_wp2_with fail
   refine HC.out.mono ?_
   rintro e w6 ⟨A6, c6, rfl, hs6, hc6, hb6⟩
   go_wp2
   go_ret2
   exact ⟨A6, c6, rfl, hs6.mono (fun g hg _ => by have := hb.out.size; omega) (by decide), hc6, HB5.out.trans ((hb.out.trans (hb6.mono hb.out.size)).mono hsz5)⟩
end Go.Proofs.YtmohibkomlhlaaaGreatDoor
