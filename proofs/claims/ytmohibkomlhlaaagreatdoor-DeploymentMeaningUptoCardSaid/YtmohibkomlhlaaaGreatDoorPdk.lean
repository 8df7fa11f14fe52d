/- The contract of the aU Holds of a term: the servers of a site. Terms that are typed. The contract of the aU Holds of a term: any term. Terms that are typed. The contract of the aU Holds: all terms that are typed and that expand. Declarations that the check finds good, of a size up to a bound. The contract of the aU used: the names that a declaration uses, in its own order. The contract of the aU Short: it answers. Declarations of a size up to a bound. The contract of slices.Clone at declarations, with the ownership of the row: lists of any length up to a bound. -/
import Derived.Test.YtmohibkomlhlaaaGreatDoorPdj
import Derived.Test.YtmohibkomlhlaaaGreatDoorPdh
import Derived.Test.YtmohibkomlhlaaaGreatDoorPkCl
import Derived.Deep.DeepCutAuto
set_option maxRecDepth 100000
set_option maxHeartbeats 8000000
namespace Go.Proofs.YtmohibkomlhlaaaGreatDoor
open Go.RowKit
open _root_.Go.Proofs.Tryz
theorem Fx {A : Option Addr} {c : Nat} {l pre : List Dc} {env : ByteArray → Ex × Nat} (hp : Plain l pre) (hL : RLim l) (hks : sD l) (op : Int) (name : ByteArray) (need : Int) (ws : List Int) (kids : List Tm) (ht : Typed pre (.mk op name need ws kids))
  (hkl : kids.length ≤ 10000000) (hwl : ws.length ≤ 10000000) (uX : ∀ x, aT (tab pre) x = 4 → (env x).2 = 0 → iI A c l (iH l x).term (env x).1) (yV : ∀ x, aT (tab pre) x = 4 → (env x).2 = 0 → nQ (env x).1)
  (ih : ∀ k ∈ kids, (fw l env k).2 = 0 → iI A c l k (fw l env k).1) (he : (fw l env (.mk op name need ws kids)).2 = 0)
  (hca : (op = 6 ∨ op = 7 ∨ op = 8) ∧ ws = [] ∧ kids = [] ∧ (name = (⟨#[115, 101, 114, 118, 101, 114, 115]⟩ : ByteArray) ∨ name ≠ (⟨#[115, 101, 114, 118, 101, 114, 115]⟩ : ByteArray) ∧ aT (tab pre) name = 1)) : iI A c l (.mk op name need ws kids) (fw l env (.mk op name need ws kids)).1 := by
 intro v w S s hls hv hS hs0
 have HCAS := Lib.hid hca
 clear hca
 have hbA : ∀ (W : World) (o : Obj), Below W.heap.size W (W.alloc o) := fun W o => (Below.refl _ _).alloc (Nat.le_refl _) o
 cases hv with
 |mk _ _ _ _ _ wA kA wc kc vs hvw hwc hvk hkc hvl hvh =>
 have HKI := Lib.hid (show aL (dN w S) w S 5 kA kids from ⟨vs, hvl, hvk, hvh⟩)
 have HVW := Lib.hid hvw
 obtain ⟨-, h2, h3⟩ := jP he
 have hwk : ∀ x ∈ kids.map (fun t => (fw l env t).1), nQ x := fun x hx => by
  obtain ⟨t, htm, rfl⟩ := List.mem_map.1 hx
  exact oH hp yV _ t (Nat.le_refl _) (ht.parts.2.2.2 t htm) (h3 t htm)
 rw [h2] at he ⊢
 obtain ⟨rb, hrb⟩ : ∃ rb, rb = bY (gF l env op name need ws (kids.map fun t => (fw l env t).1)).1 s := ⟨_, rfl⟩
 rw [← hrb]
 have HRB := Lib.hid hrb
 clear hrb
 have HIH := Lib.hid (fun k hk => ih k hk (h3 k hk))
 have hLS := fun (W : World) (hW : Below w.heap.size w W) => (⟨hls.keep (P' := dx W S) (ai hW hS) (fun _ _ h => h.keep (ai hW hS)), fun g hg => by have := hS g hg; have := hW.size; omega⟩ : aL (dx W S) W S 22 A l ∧ ∀ g, S g → g < W.heap.size)
 have HLS := Lib.hid hLS
 have HG := Lib.hid (fun (W : World) (hW : Below w.heap.size w W) => ng A c W S (hLS W hW).1 (hLS W hW).2 hL.len hL.nd hL.sv name hL.names)
 have HKD := Lib.hid (fun (W : World) (hW : Below w.heap.size w W) => pX l A c name W S (hLS W hW).1 (hLS W hW).2 hL.tab hL.len)
 have HSET := Lib.hid (fun (W : World) (hW : Below w.heap.size w W) (nA : Option Addr) (T : Nat → Prop) (hn : ak W T 1 nA 1 (aA [name])) (hT : ∀ g, T g → g < W.heap.size) => pF A c W S (hLS W hW).1 (hLS W hW).2 hL.len hL.nd hL.sv [name] nA 1 T hn hT (by simp))
 have HFI := Lib.hid (fun (W : World) (hW : Below w.heap.size w W) => mG A c W S (hLS W hW).1 (hLS W hW).2 (by have := hL.len; omega) name)
 have hG12 := pK hL.sv name
 obtain ⟨W0, hW0⟩ : ∃ W0 : World, W0 = w.alloc (.cells #[.int .i64 op, .string name, .int .i64 need, .slice wA ws.length wc, .slice kA kids.length kc] 26) := ⟨_, rfl⟩
 have hb0 : Below w.heap.size w W0 := by rw [hW0]; exact hbA _ _
 have hr0 : W0.heap[w.heap.size]? = some (.cells #[.int .i64 op, .string name, .int .i64 need, .slice wA ws.length wc, .slice kA kids.length kc] 26 (0, 0)) := by rw [hW0]; exact heap_alloc_new _ _
 have HR0 := Lib.hid hr0
 have vS := lt_of_block hr0
 have H0 := Lib.hid hW0
 have HP := Lib.hid hp
 have HT := Lib.hid ht
 have HHE := Lib.hid he
 have HWK := Lib.hid hwk
 have HEN := Lib.hid uX
 have HLM := Lib.hid hL
 have HKS := Lib.hid hks
 clear hW0 hr0 hls hvw hvk hvl hvh ih he ht uX yV hwk h2 h3 hLS hL hks hp
 go_enter func11, ntmps11
 go_wp2_with fail
 rw [← H0.out]
 refine (HG.out W0 hb0).mono ?_
 rintro e w1 ⟨rfl, hb1⟩
 have gW := hb0.trans (hb1.mono hb0.size)
 have hr1 := (hb1.block _ vS).trans HR0.out
 have HR1 := Lib.hid hr1
 obtain ⟨z0, z1, z2, z3, z4⟩ := aO hr1
 obtain ⟨G, hG⟩ : ∃ G, G = jT l name := ⟨_, rfl⟩
 rw [← hG] at hG12 ⊢
 have HGE := Lib.hid hG
 have HB1 := Lib.hid gW
 have hlt1 := lt_of_block hr1
 have hgs := u16_and_nat G s (by omega) (by omega)
 have uY : G &&& s < 65536 := Nat.lt_of_le_of_lt Nat.and_le_left (by omega)
 obtain ⟨GS, hGS⟩ : ∃ GS, GS = G &&& s := ⟨_, rfl⟩
 rw [← hGS] at hgs uY
 have HGS := Lib.hid hGS
 clear hG hr1 hGS hb1 gW hb0 H0 HR0 vS HG
 go_wp2
 go_loop [8, 9, 10] (fun a b i => ∃ k : Nat, k ≤ 12 ∧ i = .int .i64 k ∧ a = .int .i64 (gI k G : Nat) ∧ b = .int .i64 (gI k GS : Nat)) (fun _ _ i => 12 - (intOf i).toNat)
 case atStart => exact ⟨0, Nat.zero_le _, rfl, rfl, rfl⟩
 case round =>
  obtain ⟨k, hk, rfl, rfl, rfl⟩ := hrel
  have hc1 := ku k G
  have hc2 := ku k GS
  by_cases hlt : k < 12
  ·have hb1 := bitN G k (by omega)
   have hb2 := bitN GS k uY
   have e1 := dP k G
   have e2 := dP k GS
   have hn1 : (if G.testBit k then 1 else 0 : Nat) ≤ 1 := by split <;> omega
   have hn2 : (if GS.testBit k then 1 else 0 : Nat) ≤ 1 := by split <;> omega
   generalize (if G.testBit k then 1 else 0 : Nat) = B1 at hb1 e1 hn1
   generalize (if GS.testBit k then 1 else 0 : Nat) = B2 at hb2 e2 hn2
   generalize gI k G = C1 at hc1 e1 ⊢
   generalize gI k GS = C2 at hc2 e2 ⊢
   have E1 := Lib.hid e1
   have E2 := Lib.hid e2
   have hkI : (k : Int) < 12 := by omega
   have hk0 : (0 : Int) ≤ (k : Int) := by omega
   clear e1 e2
   go_wp2
   go_round
   case rel => exact ⟨k + 1, by omega, by go_num, by rw [E1.out]; go_num, by rw [E2.out]; go_num⟩
   case measure => simp [intOf]; omega
  ·obtain rfl : k = 12 := by omega
   have hkI : ¬ ((12 : Nat) : Int) < 12 := by decide
   obtain ⟨hop, rfl, rfl, hnm⟩ := HCAS.out
   have hge : G = gK l name := by
    rw [HGE.out]
    exact rGroup_eq HP.out.once HKS.out (by
     rcases hnm with h | ⟨h1, h2⟩
     ·exact Or.inl h
     ·exact Or.inr ⟨h1, by rw [HP.out.sub name (by rw [h2]; decide)]; exact h2⟩)
   have hG2 : G < 2 ^ (aj l).length := by rw [hge]; exact Dt name
   obtain ⟨c1, c2⟩ := Ct HLM.out.sv hG2 s
   rw [← HGS.out] at c2
   have hle := cntTo_and 12 G s
   rw [← HGS.out] at hle
   have hwx := zV (G := G) HLM.out.sv
   have he := HHE.out
   unfold gF at he
   rw [if_neg (by omega), if_neg (by omega), if_neg (by omega), if_neg (by omega), if_neg (by omega)] at he
   have hx0 : (List.map (fun t => (fw l env t).1) ([] : List Tm)) ++ gU (gK l name) (aj l).length = gU G (aj l).length := by rw [List.map_nil, List.nil_append, ← hge]
   simp only [hx0, c1] at he
   have hE := oZ he hwx s
   rw [c2] at hE
   have HE := Lib.hid (show rb = decide ((if op = 6 then ((gI 12 G / 2 + 1 : Nat) : Int) else if op = 7 then ((gI 12 G : Nat) : Int) else if op = 8 then 1 else 0) ≤ ((gI 12 GS : Nat) : Int)) by
    rw [HRB.out]
    unfold gF
    rw [if_neg (by omega), if_neg (by omega), if_neg (by omega), if_neg (by omega), if_neg (by omega)]
    simp only [hx0, c1]
    exact hE)
   clear he hE hge hG2 hwx hx0
   generalize gI 12 G = C1 at hc1 c1 hle HE ⊢
   generalize gI 12 GS = C2 at hc2 c2 hle HE ⊢
   clear c1 c2
   rcases hop with rfl | rfl | rfl
   ·have HE2 := Lib.hid (show rb = decide (((C1 / 2 : Nat) : Int) < (C2 : Int)) by rw [HE.out, if_pos rfl, Bool.eq_iff_iff, decide_eq_true_eq, decide_eq_true_eq]; omega)
    have hq : (C1 : Int).tdiv 2 = ((C1 / 2 : Nat) : Int) := by rw [Int.tdiv_eq_ediv_of_nonneg (by omega)]; omega
    go_wp2
    go_ret
    exact ⟨by rw [HE2.out]; rfl, HB1.out⟩
   ·have HE2 := Lib.hid (show rb = ((C2 : Int) == (C1 : Int)) by rw [HE.out, if_neg (by decide), if_pos rfl, Bool.eq_iff_iff, decide_eq_true_eq, beq_iff_eq]; omega)
    go_wp2
    go_ret
    exact ⟨by rw [HE2.out]; rfl, HB1.out⟩
   ·have HE2 := Lib.hid (show rb = decide (0 < C2) by rw [HE.out, if_neg (by decide), if_neg (by decide), if_pos rfl, Bool.eq_iff_iff, decide_eq_true_eq, decide_eq_true_eq]; omega)
    go_wp2
    go_ret
    exact ⟨by rw [HE2.out]; rfl, HB1.out⟩
theorem CF {A : Option Addr} {c : Nat} {l pre : List Dc} {env : ByteArray → Ex × Nat} (hp : Plain l pre) (hL : RLim l) (hks : sD l) (op : Int) (name : ByteArray) (need : Int) (ws : List Int) (kids : List Tm) (ht : Typed pre (.mk op name need ws kids))
  (hkl : kids.length ≤ 10000000) (hwl : ws.length ≤ 10000000) (uX : ∀ x, aT (tab pre) x = 4 → (env x).2 = 0 → iI A c l (iH l x).term (env x).1) (yV : ∀ x, aT (tab pre) x = 4 → (env x).2 = 0 → nQ (env x).1)
  (ih : ∀ k ∈ kids, (fw l env k).2 = 0 → iI A c l k (fw l env k).1) (he : (fw l env (.mk op name need ws kids)).2 = 0) : iI A c l (.mk op name need ws kids) (fw l env (.mk op name need ws kids)).1 := by
 rcases ht.cases with ⟨h1, h2, h3, -, hf⟩ | ⟨h1, -⟩ | ⟨hop, -⟩ | ⟨h1, -, h2, hl1⟩ | ⟨hop, h2, h3, hnm⟩
 ·exact CG hp hL hks op name need ws kids ht hkl hwl uX yV ih he ⟨h1, h2, h3, hf⟩
 ·exact wX hp hL hks op name need ws kids ht hkl hwl uX yV ih he (Or.inl h1)
 ·exact wX hp hL hks op name need ws kids ht hkl hwl uX yV ih he (Or.inr hop)
 ·exact CJ hp hL hks op name need ws kids ht hkl hwl uX yV ih he ⟨h1, h2, hl1⟩
 ·exact Fx hp hL hks op name need ws kids ht hkl hwl uX yV ih he ⟨hop, h2, h3, hnm⟩
theorem Ae {A : Option Addr} {c : Nat} {l pre : List Dc} {env : ByteArray → Ex × Nat} (hp : Plain l pre) (hL : RLim l) (hks : sD l)
  (uX : ∀ x, aT (tab pre) x = 4 → (env x).2 = 0 → iI A c l (iH l x).term (env x).1) (yV : ∀ x, aT (tab pre) x = 4 → (env x).2 = 0 → nQ (env x).1) :
  ∀ (n : Nat) (t : Tm), av t ≤ n → av t ≤ 1550000 → Typed pre t → (fw l env t).2 = 0 → iI A c l t (fw l env t).1 := by
 intro n
 induction n with
 |zero => intro t ht; cases t; simp [av] at ht
 |succ n ih =>
  intro t hs hs2 ht he
  cases t with
  |mk op name need ws kids =>
   have h1 : av (.mk op name need ws kids) = 1 + name.size + ws.length + dm kids := gq (.mk op name need ws kids)
   have h2 := kS kids
   refine CF hp hL hks op name need ws kids ht (by omega) (by omega) uX yV (fun k hk h => ?_) he
   have h3 := d9 (l := kids) hk
   exact ih k (by omega) (by omega) (ht.parts.2.2.2 k hk) h
theorem tab_le (l : List Dc) : (tab l).length ≤ (l.map aZ).sum := by
 induction l with
 |nil => decide
 |cons d r ih =>
  have h : (oM d).length ≤ d.names.length + 1 := by
   unfold oM
   repeat' split
   all_goals simp
  have e1 : aZ d = d.name.size + bI d.names + (d.faults.map dS).sum + av d.term + d.proto.size + av d.read + av d.write + d.use.size + 1 := rfl
  have h2 := dH d.names
  have e : tab (d :: r) = oM d ++ tab r := List.flatMap_cons ..
  rw [e, List.length_append, List.map_cons, List.sum_cons]
  omega
theorem rlim_of {l : List Dc} (hc : (bH l).2 = 0) (hsz : (l.map aZ).sum ≤ 1100000) : RLim l :=
 ⟨by have := iB l; omega, (lN l).nodup (iL hc).1, by have := (iL hc).2; omega, fun d hd => by
  have h1 := lH hd
  have e1 : aZ d = d.name.size + bI d.names + (d.faults.map dS).sum + av d.term + d.proto.size + av d.read + av d.write + d.use.size + 1 := rfl
  have h2 := dH d.names
  omega, by have := tab_le l; omega⟩
theorem rholds_q {A : Option Addr} {c : Nat} {l : List Dc} (hc : (bH l).2 = 0) (hsz : (l.map aZ).sum ≤ 1100000) : ∀ x, aT (tab l) x = 4 → (iM (qGo l l) x).2 = 0 → iI A c l (iH l x).term (iM (qGo l l) x).1 := by
 have hks := (jd hc).2
 have hL := rlim_of hc hsz
 intro x hx h
 refine (yD hc (fun x r => r.2 = 0 → iI A c l (iH l x).term r.1 ∧ nQ r.1) (fun i hi hk ht ih h => ?_) x hx h).1
 have e : iH l l[i].name = l[i] := by
  unfold iH
  rw [EI (iL hc).1 hks (List.getElem_mem hi) (by rw [hk]; decide)]
  rfl
 rw [e]
 exact ⟨Ae (kW hc i) hL hks (fun x hx h => (ih x hx h).1) (fun x hx h => (ih x hx h).2) _ _ (Nat.le_refl _) (wJ hsz (List.getElem_mem hi)).1 ht h,
  oH (kW hc i) (fun x hx h => (ih x hx h).2) _ _ (Nat.le_refl _) ht h⟩
theorem Fy {A : Option Addr} {c : Nat} {l : List Dc} (hc : (bH l).2 = 0) (hsz : (l.map aZ).sum ≤ 1100000) {t : Tm} (hst : av t ≤ 1550000) (ht : Typed l t) (he : (fH l t).2 = 0) : iI A c l t (fH l t).1 :=
 Ae (uj hc) (rlim_of hc hsz) (jd hc).2 (rholds_q hc hsz) (Ag hc) _ _ (Nat.le_refl _) hst ht he
def fu (f : Ft) : List ByteArray := f.aI ++ f.aD ++ [f.name]
def lK (d : Dc) : List ByteArray := d.faults.flatMap fu ++ fF d.term ++ fF d.read ++ fF d.write ++ [d.use] ++ (if d.kind = 5 ∨ d.kind = 7 then d.names else [])
theorem fresh_lit {w W : World} (hb : Below w.heap.size w W) (s : ByteArray) : ∃ (X : World) (b : Nat), X = W.alloc (.cells #[.string s] 9) ∧ b = W.heap.size ∧ ak X (fun g => g = b) 1 (some ⟨b, 0, none⟩) 1 (aA [s]) ∧ Below w.heap.size w X ∧ Below W.heap.size W X ∧ b < X.heap.size :=
 ⟨_, _, rfl, rfl, ⟨by simp [aA], fun _ => ⟨W.heap.size, 0, rfl, rfl, fun j u hu => by rw [cell_of_row _ _ (0 + j) _ _ _ (heap_alloc_new W _)]; simpa [aA] using hu⟩⟩, hb.alloc hb.size _, (Below.refl _ _).alloc (Nat.le_refl _) _, by simp⟩
theorem step_strs (w : World) {ops : Array Oper} {o : Oper} {a : Act} {K : Act → World → Prop} {Q : Exit → Act → World → Prop} {E : Prop} (hgd : o.guard = none) (s x : Operand)
  (ho : o.op = .call { callee := .builtin .append, args := #[s, x], argTypes := #[32, 32] })
  (base : Nat) (v : Value) (n : Nat) (xs : List Value) (hown : w.ownsRow base 9 1 v n xs) (hs : a.eval s = v)
  (S : Nat → Prop) (A : Option Addr) (m c : Nat) (ss : List ByteArray) (hx : a.eval x = .slice A m c) (hmm : m = ss.length) (hr : ak w S 1 A ss.length (aA ss))
  (hn : n ≤ 1000000000000) (hm : ss.length ≤ 1000000000000) (hbase : base ≤ w.heap.size)
  (h : ∀ v' w', w'.ownsRow base 9 1 v' (n + ss.length) (xs ++ aA ss) → w.grownBy w' v.ownBlock → (v'.ownBlock = v.ownBlock ∨ v'.ownBlock = some w.heap.size) → K (a.put o.dst v') w') :
  if Region.wanted o (yielded ops a.tmps) = true then Oper.wp prog o a w K Q else E := by
 subst hmm
 have hw : Region.wanted o (yielded ops a.tmps) = true := by unfold Region.wanted; rw [hgd]
 rw [if_pos hw]
 obtain ⟨v', w', h1, h2, h3, h4⟩ := Em w o.type base v n xs hown S A c ss hr hn hm hbase
 unfold Oper.wp execOp
 simp only [ho, resolve, invoke, builtin, Sem.run_bind, Sem.run_pure, Result.andThen_ok, List.map_toArray, List.map_cons, List.map_nil, hs, hx, h1]
 exact h v' w' h2 h3 h4
theorem own_lt {w w' : World} {base e size n B : Nat} {v : Value} {xs : List Value} (h : w.ownsRow base e size v n xs) (hb : Below B w w') (hlt : ∀ g, v.ownBlock = some g → g < B) : w'.ownsRow base e size v n xs := by
 obtain ⟨h1, h2⟩ := h
 refine ⟨h1, ?_⟩
 rcases h2 with h2 | ⟨g, cap, cur, hv, hg, hh, r⟩
 ·exact Or.inl h2
 ·exact Or.inr ⟨g, cap, cur, hv, hg, by rw [hb.block g (hlt g (by rw [hv]; rfl))]; exact hh, r⟩
theorem qO (w : World) {o : Oper} {a : Act} {K : Act → World → Prop} {Q : Exit → Act → World → Prop} (hgd : o.guard = none) (s x : Operand)
  (ho : o.op = .call { callee := .builtin .append, args := #[s, x], argTypes := #[32, 32] })
  (base : Nat) (v : Value) (n : Nat) (xs : List Value) (hown : w.ownsRow base 9 1 v n xs) (hs : a.eval s = v)
  (S : Nat → Prop) (A : Option Addr) (m c : Nat) (ss : List ByteArray) (hx : a.eval x = .slice A m c) (hmm : m = ss.length) (hr : ak w S 1 A ss.length (aA ss))
  (hn : n ≤ 1000000000000) (hm : ss.length ≤ 1000000000000) (hbase : base ≤ w.heap.size)
  (h : ∀ v' w', w'.ownsRow base 9 1 v' (n + ss.length) (xs ++ aA ss) → w.grownBy w' v.ownBlock → (v'.ownBlock = v.ownBlock ∨ v'.ownBlock = some w.heap.size) → K (a.put o.dst v') w') : Oper.wp prog o a w K Q := by
 have := step_strs (ops := #[]) (Q := Q) (E := True) w hgd s x ho base v n xs hown hs S A m c ss hx hmm hr hn hm hbase h
 rwa [if_pos (by unfold Region.wanted; rw [hgd])] at this
theorem lit_of {w W : World} (hb : Below w.heap.size w W) (s : ByteArray) : ak (W.alloc (.cells #[.string s] 9)) (w.heap.size ≤ ·) 1 (some ⟨W.heap.size, 0, none⟩) 1 (aA [s]) :=
 ak.own (World.ownsRow_lit (base := w.heap.size) (e := 9) (size := 1) W #[.string s] 1 hb.size (by decide) rfl)
theorem size_le {W : World} (o : Obj) : W.heap.size ≤ (W.alloc o).heap.size := ((Below.refl _ W).alloc (Nat.le_refl _) o).size
theorem fresh_nil {w W : World} (hb : Below w.heap.size w W) : ∃ (X : World) (b : Nat), X = W.alloc (.cells #[] 9) ∧ b = W.heap.size ∧ X.ownsRow w.heap.size 9 1 (.slice (some ⟨b, 0, none⟩) 0 0) 0 [] ∧ Below w.heap.size w X ∧ Below W.heap.size W X :=
 ⟨_, _, rfl, rfl, World.ownsRow_lit (base := w.heap.size) (e := 9) (size := 1) W #[] 0 hb.size (by decide) rfl, hb.alloc hb.size _, (Below.refl _ _).alloc (Nat.le_refl _) _⟩
theorem used_ref (d : Dc) (v : Value) (w : World) (S : Nat → Prop) (hd : dx w S d v) (hS : ∀ g, S g → g < w.heap.size) (hlim : av d.term ≤ 100000000 ∧ av d.read ≤ 100000000 ∧ av d.write ≤ 100000000) (hfl : (d.faults.flatMap fu).length ≤ 100000000) (hnl : d.names.length ≤ 100000000) (hff : d.faults.length ≤ 100000000) :
  Calls prog 26 #[v] w fun e w' => ∃ v', e = .returned v' ∧ w'.ownsRow w.heap.size 9 1 v' (lK d).length (aA (lK d)) ∧ Below w.heap.size w w' := by
 obtain ⟨nA, nc', fA, fc, vt, vr, vw, hv, hnA, hnc, hfA, hfc, h5, h6, h7⟩ := hd
 have HT5 := Lib.hid h5
 have HT6 := Lib.hid h6
 have HT7 := Lib.hid h7
 obtain ⟨o1, m1, d1, wA1, wn1, wc1, kA1, kn1, kc1, rfl⟩ := h5.form
 obtain ⟨o2, m2, d2, wA2, wn2, wc2, kA2, kn2, kc2, rfl⟩ := h6.form
 obtain ⟨o3, m3, d3, wA3, wn3, wc3, kA3, kn3, kc3, rfl⟩ := h7.form
 clear h5 h6 h7
 simp only [Value.cells, List.append_toArray, List.cons_append, List.nil_append] at hv
 rw [hv]
 have n1 := iV d.term
 have n2 := iV d.read
 have n3 := iV d.write
 obtain ⟨l1, l2, l3⟩ := hlim
 obtain ⟨w0, hw0⟩ : ∃ w0 : World, w0 = w.alloc (.cells (vT d.kind d.line d.name nA d.names.length nc' fA d.faults.length fc o1 m1 d1 wA1 wn1 wc1 kA1 kn1 kc1 d.proto o2 m2 d2 wA2 wn2 wc2 kA2 kn2 kc2 o3 m3 d3 wA3 wn3 wc3 kA3 kn3 kc3 d.use) 35 (0, 0)) := ⟨_, rfl⟩
 have hb0 : Below w.heap.size w w0 := by rw [hw0]; exact (Below.refl _ _).alloc (Nat.le_refl _) _
 have hz0 : w0.heap.size = w.heap.size + 1 := by rw [hw0]; simp
 have hr0 : w0.heap[w.heap.size]? = some (.cells (vT d.kind d.line d.name nA d.names.length nc' fA d.faults.length fc o1 m1 d1 wA1 wn1 wc1 kA1 kn1 kc1 d.proto o2 m2 d2 wA2 wn2 wc2 kA2 kn2 kc2 o3 m3 d3 wA3 wn3 wc3 kA3 kn3 kc3 d.use) 35 (0, 0)) := by rw [hw0]; exact heap_alloc_new w _
 have HB := Lib.hid (show ∀ W', Below w0.heap.size w0 W' → W'.heap[w.heap.size]? = some (.cells (vT d.kind d.line d.name nA d.names.length nc' fA d.faults.length fc o1 m1 d1 wA1 wn1 wc1 kA1 kn1 kc1 d.proto o2 m2 d2 wA2 wn2 wc2 kA2 kn2 kc2 o3 m3 d3 wA3 wn3 wc3 kA3 kn3 kc3 d.use) 35 (0, 0)) from fun W' hW => (hW.block _ (by omega)).trans hr0)
 have hS2 : ∀ W', Below w0.heap.size w0 W' → ∀ g, S g → g < W'.heap.size := fun W' hW g hg => by have := hS g hg; have := hW.size; omega
 have hk2 : ∀ W', Below w0.heap.size w0 W' → Kept S w W' := fun W' hW => ai (hb0.trans (hW.mono hb0.size)) hS
 have HN1 := Lib.hid (fun (W : World) (hW : Below w0.heap.size w0 W) => uG d.term _ W S (HT5.out.keep (hk2 W hW)) (hS2 W hW) (by omega))
 have HN2 := Lib.hid (fun (W : World) (hW : Below w0.heap.size w0 W) => uG d.read _ W S (HT6.out.keep (hk2 W hW)) (hS2 W hW) (by omega))
 have HN3 := Lib.hid (fun (W : World) (hW : Below w0.heap.size w0 W) => uG d.write _ W S (HT7.out.keep (hk2 W hW)) (hS2 W hW) (by omega))
 have HW0 := Lib.hid hw0
 have HNA := Lib.hid hnA
 have HFA := Lib.hid hfA
 have HBW := Lib.hid hb0
 obtain ⟨us, hus⟩ : ∃ us, us = lK d := ⟨_, rfl⟩
 rw [← hus]
 have HUS := Lib.hid hus
 clear hw0 hr0 hnA hfA hv hus
 go_enter func26, ntmps26
 go_upto_region 1 with fail
 rw [← HW0.out]
 clear HW0
 go_wp2_with fail
 go_loopw [3, 4] (fun v x wr => ∃ k : Nat, k ≤ d.faults.length ∧ x = .int .i64 k ∧ wr.ownsRow w0.heap.size 9 1 v ((d.faults.take k).flatMap fu).length (aA ((d.faults.take k).flatMap fu)) ∧ Below w0.heap.size w0 wr) (fun _ x _ => d.faults.length - (intOf x).toNat)
 case atStart => exact ⟨0, Nat.zero_le _, rfl, World.ownsRow_nil _ _ _ _, Below.refl _ _⟩
 case round =>
  obtain ⟨k, hk, rfl, hown, hb⟩ := hrel
  have hsr := hb.size
  have hbw : Below w.heap.size w wr := HBW.out.trans (hb.mono HBW.out.size)
  obtain ⟨vA, vc, rfl, hvc⟩ := aJ hown
  have q4 : wr.cell? ⟨w.heap.size, 4, none⟩ = some (.slice fA d.faults.length fc) := ah (HB.out wr hb) 4 _ rfl
  by_cases hlt : k < d.faults.length
  ·obtain ⟨g, o, op, nm, x, y, bA, bn, bc, cA, cn, cc, rfl, hSg, hft, k0, k1, k2, k3, k4, k5⟩ := lX (HFA.out.keep (P' := lY wr S) (ai hbw hS) (fun _ _ h => h.keep (ai hbw hS))) hlt
   have hgs : g < wr.heap.size := World.block_lt_of_cell? wr _ k0
   have hkI : (k : Int) < (d.faults.length : Int) := by omega
   have hk0 : (0 : Int) ≤ (k : Int) := by omega
   obtain ⟨f, hf⟩ : ∃ f, f = d.faults[k] := ⟨_, rfl⟩
   rw [← hf] at hft
   have htk : d.faults.take (k + 1) = d.faults.take k ++ [f] := by rw [hf]; exact List.take_succ_eq_append_getElem hlt
   obtain ⟨bA', bc', cA', cc', hv, hs4, -, hs5, -⟩ := hft
   simp only [Value.agg.injEq, Array.mk.injEq, List.cons.injEq, Value.int.injEq, Value.string.injEq, Value.slice.injEq, true_and, and_true] at hv
   obtain ⟨rfl, rfl, rfl, rfl, ⟨rfl, rfl, rfl⟩, ⟨rfl, rfl, rfl⟩⟩ := hv
   obtain ⟨cur, hcur⟩ : ∃ cur, cur = (d.faults.take k).flatMap fu := ⟨_, rfl⟩
   have hcn : (d.faults.take (k + 1)).flatMap fu = cur ++ fu f := by rw [htk, hcur, List.flatMap_append, List.flatMap_cons, List.flatMap_nil, List.append_nil]
   have hcl : cur.length + (fu f).length ≤ 100000000 := by
    rw [← List.length_append, ← hcn]
    have h1 : ((d.faults.take (k + 1)).flatMap fu).length ≤ (d.faults.flatMap fu).length := by
     conv => rhs; rw [← List.take_append_drop (k + 1) d.faults, List.flatMap_append, List.length_append]
     omega
    omega
   have hfu : (fu f).length = f.aI.length + f.aD.length + 1 := by unfold fu; simp only [List.length_append, List.length_cons, List.length_nil]
   rw [← hcur] at hown hvc ⊢
   obtain ⟨Wv, hWv⟩ : ∃ Wv : World, Wv = wr.alloc (.cells #[.int .i64 f.op, .string f.name, .int .i64 f.byz, .int .i64 f.jc, .slice bA f.aI.length bc, .slice cA f.aD.length cc] 68 (0, 0)) := ⟨_, rfl⟩
   have hbv : Below wr.heap.size wr Wv := by rw [hWv]; exact (Below.refl _ _).alloc (Nat.le_refl _) _
   have hzv : Wv.heap.size = wr.heap.size + 1 := by rw [hWv]; simp
   have hrv : Wv.heap[wr.heap.size]? = some (.cells #[.int .i64 f.op, .string f.name, .int .i64 f.byz, .int .i64 f.jc, .slice bA f.aI.length bc, .slice cA f.aD.length cc] 68 (0, 0)) := by rw [hWv]; exact heap_alloc_new wr _
   have hbf : wr.heap.size < Wv.heap.size := by omega
   have hovl := hown.lt
   have HOV := Lib.hid (fun (W : World) (hW : Below Wv.heap.size Wv W) => own_lt (own_below hown hbv (Nat.le_refl _)) hW (fun g hg => by have := (hovl g hg).2; omega))
   have HNE := Lib.hid (show (Value.slice vA cur.length vc).ownBlock ≠ some wr.heap.size from fun h => by have := (hovl _ h).2; omega)
   have HS4 := Lib.hid (fun (W : World) (hW : Below Wv.heap.size Wv W) => show ak W S 1 bA f.aI.length (aA f.aI) from (hs4.keep (aH hbv)).keep (fun g hg _ => hW.block g (by have := hS g hg; have := hbw.size; omega)))
   have HS5 := Lib.hid (fun (W : World) (hW : Below Wv.heap.size Wv W) => show ak W S 1 cA f.aD.length (aA f.aD) from (hs5.keep (aH hbv)).keep (fun g hg _ => hW.block g (by have := hS g hg; have := hbw.size; omega)))
   have HF := Lib.hid hrv
   have HWV := Lib.hid hWv
   have HZ := Lib.hid (show w0.heap.size ≤ Wv.heap.size by omega)
   have HB0 := Lib.hid (show Below w0.heap.size w0 Wv from hb.trans (hbv.mono hsr))
   have HCN := Lib.hid hcn
   have HPT := Lib.hid (fun (W : World) (u : Value) (h : W.ownsRow Wv.heap.size 9 1 u (0 + f.aI.length + f.aD.length + [f.name].length) ([] ++ aA f.aI ++ aA f.aD ++ aA [f.name])) => show W.ownsRow Wv.heap.size 9 1 u (fu f).length (aA (fu f)) by
    have e1 : (0 + f.aI.length + f.aD.length + [f.name].length) = (fu f).length := by rw [hfu]; simp
    have e2 : ([] ++ aA f.aI ++ aA f.aD ++ aA [f.name] : List Value) = aA (fu f) := by unfold fu aA; simp
    rw [e1, e2] at h; exact h)
   have HPE := Lib.hid (fun (W : World) (u : Value) (h : W.ownsRow w0.heap.size 9 1 u (cur.length + (fu f).length) (aA cur ++ aA (fu f))) => show W.ownsRow w0.heap.size 9 1 u ((d.faults.take (k + 1)).flatMap fu).length (aA ((d.faults.take (k + 1)).flatMap fu)) by
    rw [hcn, List.length_append, oh]; exact h)
   clear hWv hrv hcur hcn htk hf hs4 hs5 hovl hown hfl
   go_upto_region 6 with fail
   rw [← HWV.out]
   refine ax.start (fun W' => W'.heap[wr.heap.size]? = some (.cells #[.int .i64 f.op, .string f.name, .int .i64 f.byz, .int .i64 f.jc, .slice bA f.aI.length bc, .slice cA f.aD.length cc] 68 (0, 0))) [] [0, 2, 3, 5, 6, 8, 9] (by kernel_rfl) HF.out (fun hHeld => ?_)
   have bx : Below Wv.heap.size Wv Wv.drew := (Below.refl _ _).drew
   obtain ⟨X0, hX0⟩ : ∃ X0 : World, X0 = Wv.drew := ⟨_, rfl⟩
   rw [← hX0] at bx hHeld ⊢
   clear hX0 hzv
   repeat
    refine ax.take (v := ?_) rfl (by decide +kernel) (by rfl) (fun _ _ _ h => h) hHeld ?_ ?_
    rotate_left
    focus
     intro w9 h9
     try dsimp only at h9
     have z1 := ah h9 1 _ rfl
     have z4 := ah h9 4 _ rfl
     have z5 := ah h9 5 _ rfl
     clear h9
     go_simp
     (try with_reducible rfl)
     done
    try simp only [Act.put, List.getElem_toArray, List.getElem_cons_succ, List.getElem_cons_zero, List.setIfInBounds_toArray, List.set_cons_zero, List.set_cons_succ]
   repeat'
    first
    |refine ax.two 1 10 rfl rfl (by decide +kernel) (by rfl) (by rfl) (fun K hK => ?_) (fun K hK => ?_)
    |refine ax.two 4 10 rfl rfl (by decide +kernel) (by rfl) (by rfl) (fun K hK => ?_) (fun K hK => ?_)
    |refine ax.two 7 10 rfl rfl (by decide +kernel) (by rfl) (by rfl) (fun K hK => ?_) (fun K hK => ?_)
    |refine ax.one 1 rfl (by decide +kernel) (by rfl) (fun K hK => ?_)
    |refine ax.one 4 rfl (by decide +kernel) (by rfl) (fun K hK => ?_)
    |refine ax.one 7 rfl (by decide +kernel) (by rfl) (fun K hK => ?_)
    |refine ax.one 10 rfl (by decide +kernel) (by rfl) (fun K hK => ?_)
    |refine ax.one 11 rfl (by decide +kernel) (by rfl) (fun K hK => ?_)
    |refine ax.one 12 rfl (by decide +kernel) (by rfl) (fun K hK => ?_)
    |refine ax.one 13 rfl (by decide +kernel) (by rfl) (fun K hK => ?_)
    |refine qO _ rfl (.tmp 19) (.tmp 21) rfl Wv.heap.size _ _ _ own rfl S bA _ bc f.aI rfl rfl (HS4.out _ bx) (by omega) (by omega) bx.size ?_
     intro v2 X2 o2 g2 q2
     have bn := aM own g2 bx.size
     have bx := bx.trans bn
     try have hlit := hlit.keep (fun g hg hl => g2.block g hl (by rw [hg]; exact fun h => hne h.symm))
     try have hne : v2.ownBlock = some bl → False := fun h => q2.elim (fun e => hne (e.symm.trans h)) (fun e => by rw [e] at h; injection h; omega)
     try have hbl := Nat.lt_of_lt_of_le hbl g2.size
     have own := o2
     refine hK.out _ _ (fun _ => (bx.block _ hbf).trans HF.out) ?_
     clear hK K
    |refine qO _ rfl (.tmp 22) (.tmp 24) rfl Wv.heap.size _ _ _ own rfl S cA _ cc f.aD rfl rfl (HS5.out _ bx) (by omega) (by omega) bx.size ?_
     intro v3 X3 o3 g3 q3
     have bx := bx.trans (aM own g3 bx.size)
     try have hlit := hlit.keep (fun g hg hl => g3.block g hl (by rw [hg]; exact fun h => hne h.symm))
     try have hne : v3.ownBlock = some bl → False := fun h => q3.elim (fun e => hne (e.symm.trans h)) (fun e => by rw [e] at h; injection h; omega)
     try have hbl := Nat.lt_of_lt_of_le hbl g3.size
     have own := o3
     refine hK.out _ _ (fun _ => (bx.block _ hbf).trans HF.out) ?_
     clear hK K
    |refine qO _ rfl (.tmp 25) (.tmp 28) rfl Wv.heap.size _ _ _ own rfl _ _ _ 1 [f.name] rfl rfl hlit (by omega) (by simp) bx.size ?_
     intro v5 X5 o5 g5 q5
     have bx := bx.trans (aM own g5 bx.size)
     refine hK.out _ _ (fun _ => (bx.block _ hbf).trans HF.out) ?_
     have HO5 := Lib.hid (HPT.out _ _ o5)
     obtain ⟨At, ct, rfl, hct⟩ := aJ HO5.out
     clear hK K
    |refine qO _ rfl (.tmp 18) (.tmp 29) rfl w0.heap.size _ _ _ (HOV.out _ bx) rfl (fun g => Wv.heap.size ≤ g) At _ ct (fu f) rfl rfl (ak.own HO5.out) (by omega) (by omega) (Nat.le_trans HZ.out bx.size) ?_
     intro v6 X6 o6 g6 q6
     have b6 := aM (HOV.out _ bx) g6 (Nat.le_trans HZ.out bx.size)
     have wo := (g6.block wr.heap.size (Nat.lt_of_lt_of_le hbf bx.size) (fun h => HNE.out h.symm)).trans ((bx.block _ hbf).trans HF.out)
     refine hK.out _ _ (fun _ => wo) ?_
     clear hK K
    |go_simp
     first
     |obtain ⟨X, b, hX, hb, ow, bn, bw⟩ := fresh_nil bx
      refine hK.out _ (World.alloc _ (.cells #[] 9)) (fun _ => by rw [← hX]; exact (bn.block _ hbf).trans HF.out) ?_
      rw [← hX, ← hb]
      have own := ow
      have bx := bn
      try have hlit := hlit.keep (aH bw)
      try have hne : (Value.slice (some ⟨b, 0, none⟩) 0 0).ownBlock = some bl → False := fun h => by have h9 : some b = some bl := h; injection h9; omega
      try have hbl := Nat.lt_of_lt_of_le hbl bw.size
      clear hK K hX hb bn ow
     |obtain ⟨X, bl, hX, hb, hlit, bn, bw, hbl⟩ := fresh_lit bx f.name
      refine hK.out _ (World.alloc _ (.cells #[.string f.name] 9)) (fun _ => by rw [← hX]; exact (bn.block _ hbf).trans HF.out) ?_
      rw [← hX, ← hb]
      try have hne := fun h => Nat.lt_irrefl _ (Nat.lt_of_lt_of_eq (own.lt bl h).2 hb.symm)
      try have own := own_below own bw (Nat.le_refl _)
      have bx := bn
      clear hK K hX hb bn
     |refine hK.out _ _ (fun _ => wo) ?_
      clear hK K
   all_goals
    refine ax.done (by decide +kernel) ?_
    go_wp2
    go_roundw
    case rel => exact ⟨k + 1, by omega, by go_num, HPE.out _ _ o6, HB0.out.trans ((bx.mono HZ.out).trans b6)⟩
    case measure => simp [intOf]; omega
  ·obtain rfl : k = d.faults.length := by omega
   have hkI : ¬ (d.faults.length : Int) < (d.faults.length : Int) := by omega
   rw [List.take_length] at hown hvc ⊢
   obtain ⟨cur, hcur⟩ : ∃ cur, cur = d.faults.flatMap fu := ⟨_, rfl⟩
   have HU2 := Lib.hid (show us = cur ++ fF d.term ++ fF d.read ++ fF d.write ++ [d.use] ++ (if d.kind = 5 ∨ d.kind = 7 then d.names else []) by rw [HUS.out, hcur]; rfl)
   rw [← hcur] at hown hvc hfl ⊢
   obtain ⟨N1, hN1⟩ : ∃ N1, N1 = fF d.term := ⟨_, rfl⟩
   obtain ⟨N2, hN2⟩ : ∃ N2, N2 = fF d.read := ⟨_, rfl⟩
   obtain ⟨N3, hN3⟩ : ∃ N3, N3 = fF d.write := ⟨_, rfl⟩
   rw [← hN1] at HU2 HN1 n1
   rw [← hN2] at HU2 HN2 n2
   rw [← hN3] at HU2 HN3 n3
   clear hcur hN1 hN2 hN3
   have a5 : wr.cell? ⟨w.heap.size, 5, none⟩ = some (.int .i64 o1) := ah (HB.out wr hb) 5 _ rfl
   have a6 : wr.cell? ⟨w.heap.size, 6, none⟩ = some (.string m1) := ah (HB.out wr hb) 6 _ rfl
   have a7 : wr.cell? ⟨w.heap.size, 7, none⟩ = some (.int .i64 d1) := ah (HB.out wr hb) 7 _ rfl
   have a8 : wr.cell? ⟨w.heap.size, 8, none⟩ = some (.slice wA1 wn1 wc1) := ah (HB.out wr hb) 8 _ rfl
   have a9 : wr.cell? ⟨w.heap.size, 9, none⟩ = some (.slice kA1 kn1 kc1) := ah (HB.out wr hb) 9 _ rfl
   go_wp2_with fail
   refine (HN1.out wr hb).mono ?_
   rintro e W2 ⟨A2, c2, rfl, -, hs2, hb2⟩
   have hown2 := own_below hown hb2 (Nat.le_refl _)
   have Dq := hb.trans (hb2.mono hsr)
   have hz2 := Dq.size
   clear a5 a6 a7 a8 a9 q4
   go_wp2_with (at_builtin; refine jy W2 rfl (.tmp 31) (.tmp 34) rfl w0.heap.size _ _ _ hown2 rfl _ A2 _ c2 N1 rfl rfl hs2 (by omega) (by omega) hz2 ?_; intro v3 W3 hown3 hg3 hv3; have hb03 := Dq.trans (aM hown2 hg3 hz2); have b11 : W3.cell? ⟨w.heap.size, 11, none⟩ = some (.int .i64 o2) := ah (HB.out W3 hb03) 11 _ rfl; have b12 : W3.cell? ⟨w.heap.size, 12, none⟩ = some (.string m2) := ah (HB.out W3 hb03) 12 _ rfl; have b13 : W3.cell? ⟨w.heap.size, 13, none⟩ = some (.int .i64 d2) := ah (HB.out W3 hb03) 13 _ rfl; have b14 : W3.cell? ⟨w.heap.size, 14, none⟩ = some (.slice wA2 wn2 wc2) := ah (HB.out W3 hb03) 14 _ rfl; have b15 : W3.cell? ⟨w.heap.size, 15, none⟩ = some (.slice kA2 kn2 kc2) := ah (HB.out W3 hb03) 15 _ rfl)
   refine (HN2.out W3 hb03).mono ?_
   rintro e W4 ⟨A4, c4, rfl, -, hs4, hb4⟩
   have jJ := own_below hown3 hb4 (Nat.le_refl _)
   have hb04 := hb03.trans (hb4.mono hb03.size)
   have hz4 := hb04.size
   clear b11 b12 b13 b14 b15
   go_wp2_with (at_builtin; refine jy W4 rfl (.tmp 36) (.tmp 39) rfl w0.heap.size _ _ _ jJ rfl _ A4 _ c4 N2 rfl rfl hs4 (by omega) (by omega) hz4 ?_; intro v5 W5 hown5 hg5 hv5; have hb05 := hb04.trans (aM jJ hg5 hz4); have b16 : W5.cell? ⟨w.heap.size, 16, none⟩ = some (.int .i64 o3) := ah (HB.out W5 hb05) 16 _ rfl; have b17 : W5.cell? ⟨w.heap.size, 17, none⟩ = some (.string m3) := ah (HB.out W5 hb05) 17 _ rfl; have b18 : W5.cell? ⟨w.heap.size, 18, none⟩ = some (.int .i64 d3) := ah (HB.out W5 hb05) 18 _ rfl; have b19 : W5.cell? ⟨w.heap.size, 19, none⟩ = some (.slice wA3 wn3 wc3) := ah (HB.out W5 hb05) 19 _ rfl; have b20 : W5.cell? ⟨w.heap.size, 20, none⟩ = some (.slice kA3 kn3 kc3) := ah (HB.out W5 hb05) 20 _ rfl)
   refine (HN3.out W5 hb05).mono ?_
   rintro e W6 ⟨A6, c6, rfl, -, hs6, hb6⟩
   have hown6 := own_below hown5 hb6 (Nat.le_refl _)
   have hb06 := hb05.trans (hb6.mono hb05.size)
   have hz6 := hb06.size
   clear b16 b17 b18 b19 b20
   have HFN := Lib.hid (fun (W : World) (u : Value) (n : Nat) (xs : List Value) (h : W.ownsRow w0.heap.size 9 1 u n xs) (e1 : n = us.length) (e2 : xs = aA us) => show W.ownsRow w.heap.size 9 1 u us.length (aA us) by subst e1 e2; exact yM h HBW.out.size)
   by_cases hk5 : d.kind = 5
   ·have b5 : (d.kind == (5 : Int)) = true := by rw [hk5]; rfl
    have HU := Lib.hid (show us = cur ++ N1 ++ N2 ++ N3 ++ [d.use] ++ d.names by rw [HU2.out, if_pos (Or.inl hk5)])
    clear hk5
    go_wp2_with (first | (at_builtin; refine jy W6 rfl (.tmp 41) (.tmp 44) rfl w0.heap.size _ _ _ hown6 rfl _ A6 _ c6 N3 rfl rfl hs6 (by omega) (by omega) hz6 ?_; intro v7 W7 gB hg7 hv7; have hb07 := hb06.trans (aM hown6 hg7 hz6); have hz7 := hb07.size; have e21 : W7.cell? ⟨w.heap.size, 21, none⟩ = some (.string d.use) := ah (HB.out W7 hb07) 21 _ rfl) | (at_builtin; refine fT W7 rfl (.tmp 46) (.tmp 49) rfl w0.heap.size _ _ _ gB rfl d.use rfl (by omega) hz7 ?_; intro v8 W8 mo hg8 hv8; have Dp := hb07.trans (aM gB hg8 hz7); have hz8 := Dp.size; have e0 : W8.cell? ⟨w.heap.size, 0, none⟩ = some (.int .i64 d.kind) := ah (HB.out W8 Dp) 0 _ rfl; have e3 : W8.cell? ⟨w.heap.size, 3, none⟩ = some (.slice nA d.names.length nc') := ah (HB.out W8 Dp) 3 _ rfl) | (at_builtin; refine jy W8 rfl (.tmp 59) (.tmp 61) rfl w0.heap.size _ _ _ mo rfl S nA _ nc' d.names rfl rfl (HNA.out.keep (hk2 W8 Dp)) (by simp; omega) (by omega) hz8 ?_; intro v9 W9 Gf hg9 hv9; have hb09 := Dp.trans (aM mo hg9 hz8)))
    go_ret
    refine ⟨v9, rfl, HFN.out _ _ _ _ Gf ?_ ?_, HBW.out.trans (hb09.mono HBW.out.size)⟩
    ·rw [HU.out]; simp only [List.length_append, List.length_cons, List.length_nil]
    ·rw [HU.out]; simp [aA]
   have b5 : (d.kind == (5 : Int)) = false := by rw [beq_eq_false_iff_ne]; exact hk5
   by_cases hk7 : d.kind = 7
   ·have b7 : (d.kind == (7 : Int)) = true := by rw [hk7]; rfl
    have HU := Lib.hid (show us = cur ++ N1 ++ N2 ++ N3 ++ [d.use] ++ d.names by rw [HU2.out, if_pos (Or.inr hk7)])
    clear hk5 hk7
    go_wp2_with (first | (at_builtin; refine jy W6 rfl (.tmp 41) (.tmp 44) rfl w0.heap.size _ _ _ hown6 rfl _ A6 _ c6 N3 rfl rfl hs6 (by omega) (by omega) hz6 ?_; intro v7 W7 gB hg7 hv7; have hb07 := hb06.trans (aM hown6 hg7 hz6); have hz7 := hb07.size; have e21 : W7.cell? ⟨w.heap.size, 21, none⟩ = some (.string d.use) := ah (HB.out W7 hb07) 21 _ rfl) | (at_builtin; refine fT W7 rfl (.tmp 46) (.tmp 49) rfl w0.heap.size _ _ _ gB rfl d.use rfl (by omega) hz7 ?_; intro v8 W8 mo hg8 hv8; have Dp := hb07.trans (aM gB hg8 hz7); have hz8 := Dp.size; have e0 : W8.cell? ⟨w.heap.size, 0, none⟩ = some (.int .i64 d.kind) := ah (HB.out W8 Dp) 0 _ rfl; have e3 : W8.cell? ⟨w.heap.size, 3, none⟩ = some (.slice nA d.names.length nc') := ah (HB.out W8 Dp) 3 _ rfl) | (at_builtin; refine jy W8 rfl (.tmp 59) (.tmp 61) rfl w0.heap.size _ _ _ mo rfl S nA _ nc' d.names rfl rfl (HNA.out.keep (hk2 W8 Dp)) (by simp; omega) (by omega) hz8 ?_; intro v9 W9 Gf hg9 hv9; have hb09 := Dp.trans (aM mo hg9 hz8)))
    go_ret
    refine ⟨v9, rfl, HFN.out _ _ _ _ Gf ?_ ?_, HBW.out.trans (hb09.mono HBW.out.size)⟩
    ·rw [HU.out]; simp only [List.length_append, List.length_cons, List.length_nil]
    ·rw [HU.out]; simp [aA]
   have b7 : (d.kind == (7 : Int)) = false := by rw [beq_eq_false_iff_ne]; exact hk7
   have HU := Lib.hid (show us = cur ++ N1 ++ N2 ++ N3 ++ [d.use] by rw [HU2.out, if_neg (fun h => h.elim hk5 hk7), List.append_nil])
   clear hk5 hk7
   go_wp2_with (first | (at_builtin; refine jy W6 rfl (.tmp 41) (.tmp 44) rfl w0.heap.size _ _ _ hown6 rfl _ A6 _ c6 N3 rfl rfl hs6 (by omega) (by omega) hz6 ?_; intro v7 W7 gB hg7 hv7; have hb07 := hb06.trans (aM hown6 hg7 hz6); have hz7 := hb07.size; have e21 : W7.cell? ⟨w.heap.size, 21, none⟩ = some (.string d.use) := ah (HB.out W7 hb07) 21 _ rfl) | (at_builtin; refine fT W7 rfl (.tmp 46) (.tmp 49) rfl w0.heap.size _ _ _ gB rfl d.use rfl (by omega) hz7 ?_; intro v8 W8 mo hg8 hv8; have Dp := hb07.trans (aM gB hg8 hz7); have hz8 := Dp.size; have e0 : W8.cell? ⟨w.heap.size, 0, none⟩ = some (.int .i64 d.kind) := ah (HB.out W8 Dp) 0 _ rfl))
   go_ret
   refine ⟨v8, rfl, HFN.out _ _ _ _ mo ?_ ?_, HBW.out.trans (Dp.mono HBW.out.size)⟩
   ·rw [HU.out]; simp only [List.length_append, List.length_cons, List.length_nil]
   ·rw [HU.out]; simp [aA]
end Go.Proofs.YtmohibkomlhlaaaGreatDoor
namespace Go.Proofs.YtmohibkomlhlaaaGreatDoor
open Go.RowKit
open _root_.Go.Proofs.Tryz
theorem EG {α : Type} (f : α → Nat) {l : List α} {x : α} (h : x ∈ l) : f x ≤ (l.map f).sum := by
 induction l with
 |nil => cases h
 |cons a r ih =>
  rw [List.map_cons, List.sum_cons]
  rcases List.mem_cons.1 h with rfl | h
  ·omega
  ·have := ih h; omega
theorem AO {α : Type} (f : α → Nat) (h : ∀ x, 1 ≤ f x) (l : List α) : l.length ≤ (l.map f).sum := by
 induction l with
 |nil => simp
 |cons a r ih => have := h a; rw [List.map_cons, List.sum_cons, List.length_cons]; omega
theorem jI (l : List ByteArray) : l.length ≤ bI l := by unfold bI; exact AO _ (fun _ => by omega) l
theorem zM (d : Dc) : (d.faults.flatMap fu).length ≤ (d.faults.map dS).sum := by
 induction d.faults with
 |nil => simp
 |cons f r ih =>
  have h1 := jI f.aI
  have h2 := jI f.aD
  have e : dS f = f.name.size + bI f.aI + bI f.aD + 1 := rfl
  rw [List.flatMap_cons, List.length_append, List.map_cons, List.sum_cons]
  unfold fu at ih ⊢
  simp only [List.length_append, List.length_cons, List.length_nil] at ih ⊢
  omega
theorem used_allR {l : List Dc} (hsz : (l.map aZ).sum ≤ 10000000) {d : Dc} (hm : d ∈ l) : (av d.term ≤ 100000000 ∧ av d.read ≤ 100000000 ∧ av d.write ≤ 100000000) ∧ (d.faults.flatMap fu).length ≤ 100000000 ∧ d.names.length ≤ 100000000 ∧ d.faults.length ≤ 100000000 := by
 have h1 := EG aZ hm
 have h2 := zM d
 have h3 := jI d.names
 have h4 : d.faults.length ≤ (d.faults.map dS).sum := AO dS (fun f => by unfold dS; omega) d.faults
 have e1 : aZ d = d.name.size + bI d.names + (d.faults.map dS).sum + av d.term + d.proto.size + av d.read + av d.write + d.use.size + 1 := rfl
 omega
theorem Ci {l : List Dc} (hsz : (l.map aZ).sum ≤ 10000000) {d : Dc} (hm : d ∈ l) : (lK d).length ≤ 1000000000 := by
 have h1 := EG aZ hm
 have h2 := zM d
 have h3 := jI d.names
 have e1 : aZ d = d.name.size + bI d.names + (d.faults.map dS).sum + av d.term + d.proto.size + av d.read + av d.write + d.use.size + 1 := rfl
 have n1 := iV d.term
 have n2 := iV d.read
 have n3 := iV d.write
 have h4 : (if d.kind = 5 ∨ d.kind = 7 then d.names else []).length ≤ d.names.length := by split <;> simp
 unfold lK
 simp only [List.length_append, List.length_cons, List.length_nil]
 omega
def ysOf (d : Dc) : List ByteArray := lK d ++ [d.name] ++ d.names
def tX (d : Dc) : Bool := (ysOf d).all fun y => decide (y.size < 30)
attribute [local go_sem ↓] xG in
theorem short_ref (l : List Dc) (A : Option Addr) (c : Nat) (w : World) (S : Nat → Prop) (hl : aL (dx w S) w S 22 A l) (hS : ∀ g, S g → g < w.heap.size) (hsz : (l.map aZ).sum ≤ 3000000) :
  Calls prog 7 #[.slice A l.length c, .int .i64 30] w fun e w' => e = .returned (.bool (l.all tX)) ∧ Below w.heap.size w w' := by
 have HL := Lib.hid hl
 have hll := iB l
 clear hl
 go_enter func7, ntmps7
 go_wp2
 go_loopw [5] (fun x wr => ∃ k : Nat, k ≤ l.length ∧ x = .int .i64 k ∧ Below w.heap.size w wr ∧ Hid (l.all tX = (l.drop k).all tX)) (fun x _ => l.length - (intOf x).toNat)
 case atStart => exact ⟨0, Nat.zero_le _, rfl, Below.refl _ _, rfl⟩
 case round =>
 obtain ⟨k, hk, rfl, hb, hdr⟩ := hrel
 rename World => w0
 have hsr := hb.size
 by_cases hlt : k < l.length
 ·obtain ⟨g, o, v2, rfl, hSg, hp, hc⟩ := dL (fun _ _ h => lG h) HL.out hlt
  have hgs : g < w.heap.size := hS g hSg
  obtain ⟨d, hd⟩ : ∃ d, d = l[k] := ⟨_, rfl⟩
  have hmem : d ∈ l := by rw [hd]; exact List.getElem_mem hlt
  have HDR := Lib.hid (show (l.drop k).all tX = (tX d && (l.drop (k + 1)).all tX) by rw [List.drop_eq_getElem_cons hlt, List.all_cons, hd])
  rw [← hd] at hp
  have hp2 := hp
  obtain ⟨cs, nA, nc, hcl, hone, rfl, c0, -, c2, c3, -, hsn, hnc⟩ := jD hp2
  have hrange : w.rangeAt g (o + k * 22) cs := fun j u hu => hc j u (by simpa [cellsOf, Value.cells] using hu)
  have HRG := Lib.hid (fun (W : World) (hW : Below w.heap.size w W) => yA hrange hW hgs)
  have HSN := Lib.hid (fun (W : World) (hW : Below w.heap.size w W) => hsn.keep (ai hW hS))
  have HCL := Lib.hid hcl
  have C2 := Lib.hid c2
  have C3 := Lib.hid c3
  have hul := used_allR (l := l) (by omega) hmem
  have HUS := Lib.hid (fun (W : World) (hW : Below w.heap.size w W) => used_ref d _ W S (hp.keep (ai hW hS)) (fun g hg => by have := hS g hg; have := hW.size; omega) hul.1 hul.2.1 hul.2.2.1 hul.2.2.2)
  have hub := Ci (l := l) (by omega) hmem
  have hnl := hul.2.2.1
  have HYS := Lib.hid (show tX d = (ysOf d).all fun y => decide (y.size < 30) from rfl)
  obtain ⟨ys, hys⟩ : ∃ ys, ys = ysOf d := ⟨_, rfl⟩
  have hyl : ys.length = (lK d).length + 1 + d.names.length := by rw [hys]; simp [ysOf]; omega
  have HY2 := Lib.hid (show aA ys = aA (lK d) ++ aA [d.name] ++ aA d.names by rw [hys]; simp [ysOf, aA])
  rw [← hys] at HYS
  obtain ⟨us, hus⟩ : ∃ us, us = lK d := ⟨_, rfl⟩
  rw [← hus] at HUS hub hyl HY2
  have hkI : (k : Int) < (l.length : Int) := by omega
  have hk0 : (0 : Int) ≤ (k : Int) := by omega
  clear hd hp hp2 hc hcl c0 c2 c3 hone hsn hul hys hus hrange hmem
  go_upto_region 4 with fail
  go_cut [6] (fun v wx => ∃ B n, v = .slice B ys.length n ∧ Hid (ak wx (fun g => g < wx.heap.size) 1 B ys.length (aA ys)) ∧ Below w0.heap.size w0 wx)
  case first =>
   refine ax.start (fun W' => Below w0.heap.size w0 W') [] [0, 1, 2, 3, 5, 6, 7, 8, 9, 12, 13, 14, 15, 16, 18] (by kernel_rfl) (Below.refl _ _).drew (fun bx => ?_)
   repeat
    refine ax.take (v := ?_) rfl (by decide +kernel) (by rfl) (fun _ _ _ h => h) bx ?_ ?_
    rotate_left
    focus
     intro w9 h9
     have hrg := HRG.out w9 (hb.trans (h9.mono hsr))
     have ra := Ad w9 g (o + k * 22) cs hrg HCL.out
     have e2 := hrg 2 _ C2.out
     have e3 := hrg 3 _ C3.out
     first
     |(show Sem.run prog (do pure (Next.value (← loadD (.pointer (some ⟨g, o + k * 22, none⟩))))) w9 = _; rw [Sem.run_bind, ra]; rfl)
     |go_simp; (try with_reducible rfl); done
    simp only [Act.put, List.getElem_toArray, List.getElem_cons_succ, List.getElem_cons_zero, List.setIfInBounds_toArray, List.set_cons_zero, List.set_cons_succ]
   repeat'
    first
    |refine ax.two 4 10 rfl rfl (by decide +kernel) (by rfl) (by rfl) (fun K hK => ?_) (fun K hK => ?_)
    |refine ax.one 4 rfl (by decide +kernel) (by rfl) (fun K hK => ?_)
    |refine ax.one 10 rfl (by decide +kernel) (by rfl) (fun K hK => ?_)
    |refine ax.one 11 rfl (by decide +kernel) (by rfl) (fun K hK => ?_)
    |refine ax.one 17 rfl (by decide +kernel) (by rfl) (fun K hK => ?_)
    |refine ax.one 18 rfl (by decide +kernel) (by rfl) (fun K hK => ?_)
    |refine qO _ rfl (.tmp 18) (.tmp 24) rfl _ _ us.length _ hown rfl _ _ 1 _ [d.name] rfl rfl hlit (by omega) (by simp) hbase ?_
     intro v7 W7 gB hg7 hv7
     have bx := bx.trans ((aM hown hg7 hbase).mono hb0)
     have hbase := Nat.le_trans hbase hg7.size
     refine hK.out _ _ (fun _ => bx) ?_
     clear hK K hown
    |refine qO _ rfl (.tmp 25) (.tmp 30) rfl _ _ (us.length + 1) _ gB rfl _ _ d.names.length _ d.names rfl rfl (HSN.out _ (hb.trans (bx.mono hsr))) (by omega) (by omega) hbase ?_
     intro v8 W8 mo hg8 hv8
     have bx := bx.trans ((aM gB hg8 hbase).mono hb0)
     refine hK.out _ _ (fun _ => bx) ?_
     clear hK K gB
    |go_simp
     first
     |go_at_call 26
      refine (HUS.out _ (hb.trans (bx.mono hsr))).mono ?_
      rintro e W6 ⟨v6, rfl, hown, hb6⟩
      have hbase := hb6.size
      have hb0 := bx.size
      have bx := bx.trans (hb6.mono bx.size)
      try have hlit := hlit.keep (aH hb6)
      try go_simp
      refine hK.out _ _ (fun _ => bx) ?_
      clear hK K
     |refine hK.out _ (World.alloc _ _) (fun _ => bx.alloc bx.size _) ?_
      have hlit := lit_of bx d.name
      try have hown := hown.alloc (.cells #[.string d.name] 9)
      try have hbase := Nat.le_trans hbase (size_le (.cells #[.string d.name] 9))
      have bx := bx.alloc bx.size (.cells #[.string d.name] 9)
      clear hK K
     |refine hK.out _ _ (fun _ => bx) ?_
      clear hK K
   all_goals
    obtain ⟨B, n, rfl, hn⟩ := aJ mo
    refine ax.done (by decide +kernel) ?_
    go_wp2_with fail
    go_meet
    exact ⟨B, n, by rw [hyl], Lib.hid (by rw [HY2.out, hyl]; exact (ak.own mo).mono (fun g _ h => h) (by decide)), bx⟩
  case rest =>
  obtain ⟨B, n, rfl, hsee, hb2⟩ := hcut
  have hb3 := hb.trans (hb2.mono hsr)
  go_wp2
  go_loop [7] (fun y => ∃ j : Nat, j ≤ ys.length ∧ y = .int .i64 j ∧ Hid ((ys.all fun y => decide (y.size < 30)) = (ys.drop j).all fun y => decide (y.size < 30))) (fun y => ys.length - (intOf y).toNat)
  case atStart => exact ⟨0, Nat.zero_le _, rfl, rfl⟩
  case round =>
  obtain ⟨j, hj, rfl, hda⟩ := hrel
  by_cases hlj : j < ys.length
  ·obtain ⟨g2, o2, rfl, hSg2, k1⟩ := one_cell (f := Value.string) hsee.out hlj
   have HD := Lib.hid (show ((ys.drop j).all fun y => decide (y.size < 30)) = (decide (ys[j].size < 30) && (ys.drop (j + 1)).all fun y => decide (y.size < 30)) by rw [List.drop_eq_getElem_cons hlj, List.all_cons])
   generalize ys[j] = u at k1 HD
   have hjI : (j : Int) < (ys.length : Int) := by omega
   have hj0 : (0 : Int) ≤ (j : Int) := by omega
   by_cases hu : u.size < 30
   ·have hge : ¬ (30 : Int) ≤ (u.size : Int) := by omega
    have E := Lib.hid (decide_eq_true hu)
    go_wp2
    go_round
    case rel => exact ⟨j + 1, by omega, by go_num, Lib.hid (by rw [hda.out, HD.out, E.out]; rfl)⟩
    case measure => simp [intOf]; omega
   ·have hge : (30 : Int) ≤ (u.size : Int) := by omega
    have E := Lib.hid (decide_eq_false hu)
    go_wp2
    go_ret
    exact ⟨by rw [hdr.out, HDR.out, HYS.out, hda.out, HD.out, E.out]; rfl, hb3⟩
  obtain rfl : j = ys.length := by omega
  have hjI : ¬ (ys.length : Int) < (ys.length : Int) := by omega
  go_wp2
  go_roundw
  case rel => exact ⟨k + 1, by omega, by go_num, hb3, Lib.hid (by rw [hdr.out, HDR.out, HYS.out, hda.out, List.drop_length]; rfl)⟩
  case measure => simp [intOf]; omega
 ·obtain rfl : k = l.length := by omega
  have hkI : ¬ (l.length : Int) < (l.length : Int) := by omega
  go_wp2
  go_ret
  exact ⟨by rw [hdr.out, List.drop_length]; rfl, hb⟩
end Go.Proofs.YtmohibkomlhlaaaGreatDoor
namespace Go.Proofs.YtmohibkomlhlaaaGreatDoor
open Go.RowKit
open _root_.Go.Proofs.Tryz
theorem wp_decls2 (w : World) {ops : Array Oper} {rest : List Oper} {o : Oper} {a : Act} {Q : Exit → Act → World → Prop} (hgd : o.guard = none) (s x : Operand)
  (ho : o.op = .call { callee := .builtin .append, args := #[s, x], argTypes := #[22, 22] })
  (base : Nat) (v : Value) (n : Nat) (xs : List Value) (hown : w.ownsRow base 35 22 v n xs) (hs : a.eval s = v)
  (p : Addr) (m c : Nat) (news : List Value) (hx : a.eval x = .slice (some p) m c) (hl : news.length = m * 22) (hcells : ∀ j u, news[j]? = some u → w.cell? (p.add j) = some u) (h1 : ∀ u ∈ news, u.oneCell' = true)
  (hlim : n + m ≤ 100000000) (hbase : base ≤ w.heap.size)
  (h : ∀ v' w', w'.ownsRow base 35 22 v' (n + m) (xs ++ news) → w.grownBy w' v.ownBlock → (v'.ownBlock = v.ownBlock ∨ v'.ownBlock = some w.heap.size) → wpList prog ops Q rest (a.put o.dst v') w') :
  wpList prog ops Q (o :: rest) a w := by
 obtain ⟨i0, hi, hz0, hz1, hz2⟩ := info_parts uT
 refine wpList_plain hgd fun _ hK => ?_
 obtain ⟨v', w', h1', h2, h3, _, h5⟩ := run_append_own_at (P := prog) w base 22 o.type 35 i0 _ 22 352 underlying22 hi hz0 hz1 hz2 rfl (by decide) v n xs hown p m c news hl hcells h1 (by unfold maxLen; omega) (by omega) hbase
 unfold Oper.wp execOp
 simp only [ho, resolve, invoke, builtin, Sem.run_bind, Sem.run_pure, Result.andThen_ok, List.map_toArray, List.map_cons, List.map_nil, hs, hx, h1']
 exact hK _ _ (h v' w' h2 h3 h5)
def zG (S : Nat → Prop) (l : List Dc) (w : World) (e : Ending) (w' : World) : Prop := ∃ (v : Value) (vs : List Value), e = .returned v ∧ vs.length = l.length ∧ w'.ownsRow w.heap.size 35 22 v l.length (vs.flatMap cellsOf) ∧ (∀ (i : Nat) (d : Dc) (u : Value), l[i]? = some d → vs[i]? = some u → dx w' S d u) ∧ Below w.heap.size w w'
theorem clone_own (l : List Dc) (A : Option Addr) (c : Nat) (w : World) (S : Nat → Prop) (hl : aL (dx w S) w S 22 A l) (hS : ∀ g, S g → g < w.heap.size) (hll : l.length ≤ 10000000) :
  Calls prog 8 #[.slice A l.length c] w (zG S l w) := by
 obtain ⟨vs, h1, h2, h3⟩ := hl
 have hd : ∀ i (h : i < vs.length), ∃ d, l[i]? = some d ∧ dx w S d vs[i] := fun i h => ⟨l[i]'(by omega), List.getElem?_eq_getElem _, h3 i _ _ (List.getElem?_eq_getElem (by omega)) (List.getElem?_eq_getElem h)⟩
 have h22 : ∀ u ∈ vs, (cellsOf u).length = 22 := fun u hu => by
  obtain ⟨i, hi, rfl⟩ := List.getElem_of_mem hu
  obtain ⟨d, -, hd⟩ := hd i hi
  exact lG hd
 have hone : ∀ u ∈ vs.flatMap cellsOf, u.oneCell' = true := fun u hu => by
  obtain ⟨v, hv, hu⟩ := List.mem_flatMap.1 hu
  obtain ⟨i, hi, rfl⟩ := List.getElem_of_mem hv
  obtain ⟨d, -, hd⟩ := hd i hi
  exact dc_one hd u hu
 obtain ⟨flat, si⟩ : ∃ flat, flat = vs.flatMap cellsOf := ⟨_, rfl⟩
 rw [← si] at hone
 have hlen : flat.length = l.length * 22 := by rw [si, flat22 h22, h1]
 cases A with
 |none =>
  have h0 : l = [] := by
   cases l with
   |nil => rfl
   |cons x r => obtain ⟨g, o, e, -⟩ := h2.cells (by simp); cases e
  have DY := Lib.hid (show zG S l w (.returned (.slice none 0 0)) w from ⟨_, vs, rfl, h1, by rw [h0] at h1 ⊢; rw [List.length_eq_zero_iff.1 h1]; exact World.ownsRow_nil _ _ _ _, h3, Below.refl _ _⟩)
  clear h1 h2 h3 hd h22 hone si hlen hS
  obtain ⟨n, hn⟩ : ∃ n, n = l.length := ⟨_, rfl⟩
  rw [← hn]
  have heq := fun (W : World) => Lib.run_eql_slice_nil (P := prog) W 22 35 none n c 0 0 underlying22
  clear hn hll h0
  go_enter func8, ntmps8
  go_wp2
  go_ret
  exact DY.out
 |some p =>
  have hc : ∀ j u, flat[j]? = some u → w.cell? (p.add j) = some u ∧ (p.add j).block < w.heap.size := by
   intro j u hu
   have hj := (List.getElem?_eq_some_iff.1 hu).1
   obtain ⟨g, o, e, hSg, h⟩ := h2.cells (by omega)
   cases e
   rw [Go.WideShapes.add_plain]
   exact ⟨h j u (by rw [← si]; exact hu), hS g hSg⟩
  obtain ⟨X, hX⟩ : ∃ X : World, X = w.alloc (.cells #[] 35 (0, 0)) := ⟨_, rfl⟩
  have hbX : Below w.heap.size w X := by rw [hX]; exact (Below.refl _ _).alloc (Nat.le_refl _) _
  have hzX : w.heap.size ≤ X.heap.size := hbX.size
  have hoX : X.ownsRow w.heap.size 35 22 (.slice (some ⟨w.heap.size, 0, none⟩) 0 0) 0 [] := by rw [hX]; exact World.ownsRow_lit (base := w.heap.size) (e := 35) (size := 22) w #[] 0 (Nat.le_refl _) (by decide) rfl
  have hcX : ∀ j u, flat[j]? = some u → X.cell? (p.add j) = some u := fun j u hu => (hbX.cell (p := p.add j) (hc j u hu).2).trans (hc j u hu).1
  have HX := Lib.hid hX
  have HC := Lib.hid hcX
  have sZ := Lib.hid hone
  have HLEN := Lib.hid hlen
  have DY := Lib.hid (fun (W : World) (v : Value) (hown : W.ownsRow w.heap.size 35 22 v (0 + l.length) ([] ++ flat)) (hb : Below w.heap.size w W) => show zG S l w (.returned v) W from
   ⟨v, vs, rfl, h1, by rw [Nat.zero_add, List.nil_append, si] at hown; exact hown, fun i d u hd hu => (h3 i d u hd hu).keep (ai hb hS), hb⟩)
  clear hX hcX hc hone hlen h1 h2 h3 hd h22 si hS
  have heq := fun (W : World) => Lib.run_eql_slice_nil (P := prog) W 22 35 (some p) l.length c 0 0 underlying22
  go_enter func8, ntmps8
  go_upto_region 3 with fail
  go_wp2_with (rw [← HX.out]; refine wp_decls2 X rfl (.tmp 5) (.tmp 6) rfl w.heap.size _ 0 [] hoX rfl p l.length c flat rfl HLEN.out HC.out sZ.out (by omega) hzX ?_; intro v3 X3 hown3 hg3 hv3)
  go_ret
  exact DY.out X3 v3 hown3 (hbX.trans (aM hoX hg3 hzX))
end Go.Proofs.YtmohibkomlhlaaaGreatDoor
