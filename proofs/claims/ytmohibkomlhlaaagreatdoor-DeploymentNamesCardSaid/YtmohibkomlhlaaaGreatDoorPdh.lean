/- What it means that a set satisfies an expression: thresholds, duals and the sets of servers, one level at a time. No condition. Declarations without an error declare each name once; what a name stands for is then the same, wherever it is looked up. No condition. What it means that a set satisfies a typed term, one level at a time; the expressions of typed terms stand well. No condition. The yD of declarations without an error, in order: what holds of each behind the earlier ones holds of all. No condition. The contract of Expand: the expression of a term behind declarations, or what Check and Term return. Declarations and terms of a size up to a bound. Condition: the table of powers lies in the world. -/
import Derived.Test.YtmohibkomlhlaaaGreatDoorPda
import Derived.Test.YtmohibkomlhlaaaGreatDoorPkTyq
import Derived.Test.YtmohibkomlhlaaaGreatDoorPdg
import Derived.Test.YtmohibkomlhlaaaGreatDoorPkCheck
set_option maxRecDepth 100000
set_option maxHeartbeats 4000000
namespace Go.Proofs.YtmohibkomlhlaaaGreatDoor
theorem gG {α : Type} {p : List α → Prop} (l : List α) (nil : p []) (snoc : ∀ l a, p l → p (l ++ [a])) : p l := by
 rw [← l.reverse_reverse]
 generalize l.reverse = r
 induction r with
 |nil => exact nil
 |cons a r ih => rw [List.reverse_cons]; exact snoc _ _ ih
end Go.Proofs.YtmohibkomlhlaaaGreatDoor
namespace Go.Proofs.YtmohibkomlhlaaaGreatDoor
def fQ (l : List Dc) : List ByteArray := (tab l).map (·.1)
theorem tV {t : List (ByteArray × Int)} {ns : Nat} {nm : ByteArray} : ∀ {l pre : List ByteArray}, mF t ns nm pre l = 0 → l.Nodup ∧ (∀ y ∈ l, y ∉ pre ∧ y ≠ nm) ∧ (l ≠ [] → ns + pre.length + l.length ≤ 12) := by
 intro l
 induction l with
 |nil => intro pre _; exact ⟨List.nodup_nil, fun y h => absurd h (by simp), fun h => absurd rfl h⟩
 |cons x r ih =>
  intro pre h
  rw [mF] at h
  split at h
  ·cases h
  split at h
  ·cases h
  rename_i h1 h2
  obtain ⟨i1, i2, i3⟩ := ih h
  simp only [not_or] at h1
  refine ⟨List.nodup_cons.2 ⟨fun hx => ?_, i1⟩, fun y hy => ?_, fun _ => ?_⟩
  ·exact (i2 x hx).1 (by simp)
  ·rcases List.mem_cons.1 hy with rfl | hy
   ·exact ⟨fun hm => h1.2.2 ((BS _ _).2 hm), h1.2.1⟩
   ·exact ⟨fun hm => (i2 y hy).1 (List.mem_append_left _ hm), (i2 y hy).2⟩
  ·by_cases hr : r = []
   ·subst hr; simp; omega
   ·have := i3 hr; simp at this ⊢; omega
theorem xP (d : Dc) : (oM d).map (·.1) = (if bS d.kind = 0 then [] else [d.name]) ++ (if d.kind = 1 then d.names else []) := by
 unfold oM
 rw [List.map_append]
 congr 1
 ·split <;> rfl
 ·split
  ·rw [List.map_map]; exact List.map_id' _
  ·rfl
theorem Ed {l : List Dc} {i : Nat} (h : i < l.length) : tab (l.take (i + 1)) = tab (l.take i) ++ oM l[i] := by
 rw [List.take_succ_eq_append_getElem h]; unfold tab; rw [List.flatMap_append]; simp
theorem Ac {l : List Dc} {i : Nat} (h : i < l.length) : aj (l.take (i + 1)) = aj (l.take i) ++ (if l[i].kind = 1 then l[i].names else []) := by
 rw [List.take_succ_eq_append_getElem h]; unfold aj bO; rw [List.flatMap_append]; simp
theorem Aw (l : List Dc) : aF l = (aj l).length := by
 unfold aF aj bO
 rw [List.length_flatMap]
 congr 1
 refine List.map_congr_left fun d _ => ?_
 split <;> rfl
section
variable {l : List Dc}
theorem tab_once (h : ∀ i (hi : i < l.length), iP (l.take i) l[i] = 0) : ∀ i, i ≤ l.length → (fQ (l.take i)).Nodup ∧ (aj (l.take i)).length ≤ 12 := by
 intro i
 induction i with
 |zero => intro _; exact ⟨by simp [fQ, tab], by simp [aj, bO]⟩
 |succ i ih =>
  intro hi
  obtain ⟨h1, h2⟩ := ih (by omega)
  have hd := h i hi
  have hz := fun y => qX (jQ (l.take i)) y
  have hs : l[i].kind = 1 → mF (tab (l.take i)) (aF (l.take i)) l[i].name [] l[i].names = 0 := fun hk => (xK hd hk).2
  refine ⟨?_, ?_⟩
  ·unfold fQ
   rw [Ed hi, List.map_append, List.nodup_append, xP]
   refine ⟨h1, ?_, ?_⟩
   ·by_cases hk : l[i].kind = 1
    ·have hk0 : ¬ bS l[i].kind = 0 := by rw [hk]; decide
     rw [if_neg hk0, if_pos hk, List.singleton_append, List.nodup_cons]
     exact ⟨fun hm => ((tV (hs hk)).2.1 _ hm).2 rfl, (tV (hs hk)).1⟩
    ·rw [if_neg hk, List.append_nil]; split <;> simp
   ·intro a ha b hb hab
    subst hab
    obtain ⟨p, hp, hpa⟩ := List.mem_map.1 ha
    rcases List.mem_append.1 hb with hb | hb
    ·split at hb
     ·simp at hb
     ·rename_i hk
      obtain rfl : a = l[i].name := by simpa using hb
      exact (hz _).1 (rq hd hk) p hp hpa
    ·split at hb
     ·rename_i hk
      exact (hz _).1 (wO (hs hk) a hb) p hp hpa
     ·simp at hb
  ·rw [Ac hi, List.length_append]
   split
   ·rename_i hk
    by_cases h0 : l[i].names = []
    ·rw [h0]; simpa using h2
    ·have := (tV (hs hk)).2.2 h0
     rw [Aw] at this
     simpa using this
   ·simpa using h2
theorem iL (h : (bH l).2 = 0) : (fQ l).Nodup ∧ (aj l).length ≤ 12 := by
 have := tab_once (ru h).2.1 l.length (Nat.le_refl _)
 rwa [List.take_length] at this
theorem lN (l : List Dc) : (aj l).Sublist (fQ l) := by
 unfold aj bO fQ tab
 rw [List.map_flatMap]
 induction l with
 |nil => simp
 |cons d r ih =>
  rw [List.flatMap_cons, List.flatMap_cons]
  refine List.Sublist.append ?_ ih
  rw [xP]
  exact List.sublist_append_right _ _
theorem findK_of {t : List (ByteArray × Int)} (h : (t.map (·.1)).Nodup) {x : ByteArray} {k : Int} (hm : (x, k) ∈ t) : aT t x = k := by
 induction t with
 |nil => simp at hm
 |cons p r ih =>
  rw [List.map_cons, List.nodup_cons] at h
  rw [aT]
  by_cases hp : p.1 = x
  ·rw [if_pos ((eB _ _).2 hp)]
   rcases List.mem_cons.1 hm with rfl | hm
   ·rfl
   ·exact absurd (List.mem_map.2 ⟨_, hm, rfl⟩) (by rw [← hp]; exact h.1)
  ·rw [if_neg (fun e => hp ((eB _ _).1 e))]
   rcases List.mem_cons.1 hm with rfl | hm
   ·exact absurd rfl hp
   ·exact ih h.2 hm
theorem Cq {x : ByteArray} {k : Int} : (x, k) ∈ tab l ↔ ∃ d ∈ l, (bS d.kind ≠ 0 ∧ x = d.name ∧ k = bS d.kind) ∨ (d.kind = 1 ∧ x ∈ d.names ∧ k = 2) := by
 unfold tab
 rw [List.mem_flatMap]
 refine exists_congr fun d => and_congr_right fun _ => ?_
 unfold oM
 rw [List.mem_append]
 refine or_congr ?_ ?_
 ·split
  ·rename_i h; simp [h]
  ·rename_i h; simp [h]
 ·split
  ·rename_i h
   rw [List.mem_map]
   constructor
   ·rintro ⟨y, hy, e⟩; cases e; exact ⟨h, hy, rfl⟩
   ·rintro ⟨-, hy, rfl⟩; exact ⟨x, hy, rfl⟩
  ·rename_i h; simp [h]
theorem BJ (k : Int) : bS k ≠ 2 := by rcases vF k with h | h | h | h | h | h <;> rw [h] <;> decide
theorem uN (h : (fQ l).Nodup) (x : ByteArray) : aT (tab l) x = 2 ↔ x ∈ aj l := by
 constructor
 ·intro h2
  have hm := vo (l := l) (y := x) (by rw [h2]; decide)
  rw [h2] at hm
  obtain ⟨d, hd, ⟨-, -, e⟩ | ⟨hk, hx, -⟩⟩ := Cq.1 hm
  ·exact absurd e.symm (BJ _)
  ·exact List.mem_flatMap.2 ⟨d, hd, by rw [if_pos hk]; exact hx⟩
 ·intro hx
  obtain ⟨d, hd, hx⟩ := List.mem_flatMap.1 hx
  split at hx
  ·rename_i hk
   exact findK_of h (Cq.2 ⟨d, hd, Or.inr ⟨hk, hx, rfl⟩⟩)
  ·simp at hx
def qj (l : List Dc) (x : ByteArray) : Option Dc := l.find? fun d => d.name == x && (!decide (d.kind = 5) && !decide (d.kind = 7))
theorem Aq {x : ByteArray} : ∀ {l : List Dc}, (fQ l).Nodup → ∀ d ∈ l, ∀ e ∈ l, bS d.kind ≠ 0 → bS e.kind ≠ 0 → d.name = x → e.name = x → d = e := by
 intro l
 induction l with
 |nil => intro _ d hd; simp at hd
 |cons a r ih =>
  intro hn d hd e he hdk hek hdx hex
  unfold fQ tab at hn
  rw [List.flatMap_cons, List.map_append, List.nodup_append] at hn
  have hout : ∀ b ∈ r, bS b.kind ≠ 0 → b.name ∈ (r.flatMap oM).map (·.1) := fun b hb hk => List.mem_map.2 ⟨(b.name, bS b.kind), List.mem_flatMap.2 ⟨b, hb, qx hk⟩, rfl⟩
  have hin : bS a.kind ≠ 0 → a.name ∈ (oM a).map (·.1) := fun hk => List.mem_map.2 ⟨(a.name, bS a.kind), qx hk, rfl⟩
  rcases List.mem_cons.1 hd with rfl | hd2 <;> rcases List.mem_cons.1 he with rfl | he2
  ·rfl
  ·exact absurd (hdx.trans hex.symm) (hn.2.2 _ (hin hdk) _ (hout e he2 hek))
  ·exact absurd (hex.trans hdx.symm) (hn.2.2 _ (hin hek) _ (hout d hd2 hdk))
  ·exact ih hn.2.1 d hd2 e he2 hdk hek hdx hex
def sD (l : List Dc) : Prop := ∀ d ∈ l, 1 ≤ d.kind ∧ d.kind ≤ 7
theorem kind_some {d : Dc} (h : 1 ≤ d.kind ∧ d.kind ≤ 7) (h5 : d.kind ≠ 5) (h7 : d.kind ≠ 7) : bS d.kind ≠ 0 := by
 obtain ⟨h1, h2⟩ := h
 have : d.kind = 1 ∨ d.kind = 2 ∨ d.kind = 3 ∨ d.kind = 4 ∨ d.kind = 6 := by omega
 rcases this with e | e | e | e | e <;> rw [e] <;> decide
theorem EI (hn : (fQ l).Nodup) (hk : sD l) {d : Dc} (hd : d ∈ l) (hdk : bS d.kind ≠ 0) : qj l d.name = some d := by
 have h57 : d.kind ≠ 5 ∧ d.kind ≠ 7 := ⟨fun e => hdk (by rw [e]; rfl), fun e => hdk (by rw [e]; rfl)⟩
 cases h : qj l d.name with
 |none =>
  have := List.find?_eq_none.1 h d hd
  simp [h57.1, h57.2, vL] at this
 |some e =>
  have h1 := List.find?_some h
  have h2 := List.mem_of_find?_eq_some h
  simp only [Bool.and_eq_true, eB, Bool.not_eq_true', decide_eq_false_iff_not] at h1
  rw [Aq hn e h2 d hd (kind_some (hk e h2) h1.2.1 h1.2.2) hdk h1.1 rfl]
theorem EJ (hn : (fQ l).Nodup) {d : Dc} (hd : d ∈ l) (hdk : bS d.kind ≠ 0) : ql l d.kind d.name = some d := by
 cases h : ql l d.kind d.name with
 |none =>
  have := List.find?_eq_none.1 h d hd
  simp [vL] at this
 |some e =>
  have h1 := List.find?_some h
  have h2 := List.mem_of_find?_eq_some h
  simp only [Bool.and_eq_true, eB, decide_eq_true_eq] at h1
  rw [Aq hn e h2 d hd (by rw [h1.1]; exact hdk) hdk h1.2 rfl]
theorem Bh (hn : (fQ l).Nodup) (hk : sD l) {x : ByteArray} {k : Int} (hx : aT (tab l) x = bS k) (h0 : bS k ≠ 0) : ∃ d ∈ l, d.kind = k ∧ d.name = x ∧ qj l x = some d ∧ ql l k x = some d := by
 have hm := vo (l := l) (y := x) (by rw [hx]; exact h0)
 rw [hx] at hm
 obtain ⟨d, hd, ⟨h1, rfl, e⟩ | ⟨-, -, e⟩⟩ := Cq.1 hm
 ·have hkk : d.kind = k := by
   have inj : ∀ a b : Int, bS a = bS b → bS a ≠ 0 → a = b := by
    intro a b hab ha
    unfold bS at hab ha
    repeat' split at hab
    all_goals simp_all
   exact inj _ _ e.symm h1
  subst hkk
  exact ⟨d, hd, rfl, rfl, EI hn hk hd h1, EJ hn hd h1⟩
 ·exact absurd e (BJ _)
theorem qJ {sv : List ByteArray} {x : ByteArray} {i : Nat} (h : ig sv x = some i) : i < sv.length := by
 induction sv using gG with
 |nil => cases h
 |snoc sv n ih =>
  rw [mX] at h
  split at h
  ·cases h; simp
  ·have := ih h; simp; omega
theorem wL {sv : List ByteArray} {x : ByteArray} : ig sv x = none ↔ x ∉ sv := by
 induction sv using gG with
 |nil => simp [ig]
 |snoc sv n ih =>
  rw [mX]
  by_cases hx : n = x
  ·simp [hx]
  ·rw [if_neg hx, ih, List.mem_append, List.mem_singleton]
   exact ⟨fun h h2 => h2.elim h (fun e => hx e.symm), fun h h2 => h (Or.inl h2)⟩
end
end Go.Proofs.YtmohibkomlhlaaaGreatDoor
namespace Go.Proofs.YtmohibkomlhlaaaGreatDoor
theorem isE_two {t : List (ByteArray × Int)} {x : ByteArray} (h : isE t x [2, 4] = 0) : aT t x = 2 ∨ aT t x = 4 := by
 unfold isE at h
 split at h
 ·cases h
 ·split at h
  ·rename_i h9; simpa using h9
  ·cases h
theorem thrE_ws {nd : Int} {ws : List Int} {k : Nat} (h : H6 nd ws k = 0) : ∀ v ∈ ws, 1 ≤ v ∧ v ≤ 1000 := by
 intro v hv
 unfold H6 at h
 rw [if_pos (List.length_pos_of_mem hv)] at h
 split at h
 ·cases h
 ·rename_i h9
  simp only [Bool.not_eq_true, List.any_eq_false, Bool.or_eq_true, decide_eq_true_eq, not_or] at h9
  have := h9 v hv
  omega
theorem isE_only {t : List (ByteArray × Int)} {x : ByteArray} (h : isE t x [1] = 0) : aT t x = 1 := by
 unfold isE at h
 split at h
 ·cases h
 ·split at h
  ·rename_i h9; simpa using h9
  ·cases h
def Typed (pre : List Dc) (t : Tm) : Prop := kZ t = true ∧ iW (tab pre) (aF pre) t = 0
theorem termsE_ok {t : List (ByteArray × Int)} {ns : Nat} : ∀ {l : List Tm}, lZ t ns l = 0 → ∀ k ∈ l, iW t ns k = 0 := by
 intro l
 induction l with
 |nil => intro _ k hk; simp at hk
 |cons a r ih =>
  intro h k hk
  rw [lZ] at h
  split at h
  ·rename_i h9; exact absurd h h9
  ·rename_i h9
   rcases List.mem_cons.1 hk with rfl | hk
   ·exact Decidable.not_not.1 h9
   ·exact ih h k hk
section
variable {l pre : List Dc} {env : ByteArray → Ex × Nat} {op : Int} {name : ByteArray} {need : Int} {ws : List Int} {kids : List Tm}
theorem Typed.parts (h : Typed pre (.mk op name need ws kids)) : bD (.mk op name need ws kids) = true ∧ (∀ n ∈ ws, small n = true) ∧ ownE (tab pre) (aF pre) op name need ws kids.length = 0 ∧ ∀ k ∈ kids, Typed pre k := by
 obtain ⟨h1, h2⟩ := h
 obtain ⟨a, b, c⟩ := nu h1
 rw [iW] at h2
 split at h2
 ·rename_i h9; exact absurd h2 h9
 ·rename_i h9
  exact ⟨a, b, Decidable.not_not.1 h9, fun k hk => ⟨c k hk, termsE_ok h2 k hk⟩⟩
theorem Typed.cases (h : Typed pre (.mk op name need ws kids)) :
  (op = 1 ∧ ws = [] ∧ kids = [] ∧ dG name = true ∧ (aT (tab pre) name = 2 ∨ aT (tab pre) name = 4)) ∨
  (op = 2 ∧ name.size = 0 ∧ (ws.length = 0 ∨ ws.length = kids.length) ∧ ∀ v ∈ ws, 1 ≤ v ∧ v ≤ 1000) ∨ ((op = 3 ∨ op = 4) ∧ name.size = 0 ∧ ws = []) ∨ (op = 5 ∧ name.size = 0 ∧ ws = [] ∧ kids.length = 1) ∨
  ((op = 6 ∨ op = 7 ∨ op = 8) ∧ ws = [] ∧ kids = [] ∧ (name = (⟨#[115, 101, 114, 118, 101, 114, 115]⟩ : ByteArray) ∨ name ≠ (⟨#[115, 101, 114, 118, 101, 114, 115]⟩ : ByteArray) ∧ aT (tab pre) name = 1)) := by
 obtain ⟨h1, -, h3, -⟩ := h.parts
 unfold bD at h1
 simp only [show (Tm.mk op name need ws kids).op = op from rfl, show (Tm.mk op name need ws kids).name = name from rfl, show (Tm.mk op name need ws kids).need = need from rfl, show (Tm.mk op name need ws kids).ws = ws from rfl, show (Tm.mk op name need ws kids).kids = kids from rfl] at h1
 unfold ownE at h3
 by_cases e1 : op = 1
 ·left
  rw [if_pos e1] at h1 h3
  simp only [Bool.and_eq_true, bare, decide_eq_true_eq, show (Tm.mk op name need ws kids).ws = ws from rfl, show (Tm.mk op name need ws kids).kids = kids from rfl] at h1
  have hk := isE_two h3
  exact ⟨e1, List.length_eq_zero_iff.1 (by omega), List.length_eq_zero_iff.1 (by omega), h1.1, hk⟩
 rw [if_neg e1] at h1 h3
 by_cases e6 : op = 6 ∨ op = 7 ∨ op = 8
 ·right; right; right; right
  rw [if_pos e6] at h1
  rw [if_neg (by omega), if_pos e6] at h3
  simp only [Bool.and_eq_true, bare, decide_eq_true_eq, show (Tm.mk op name need ws kids).ws = ws from rfl, show (Tm.mk op name need ws kids).kids = kids from rfl] at h1
  refine ⟨e6, List.length_eq_zero_iff.1 (by omega), List.length_eq_zero_iff.1 (by omega), ?_⟩
  by_cases hs : name = (⟨#[115, 101, 114, 118, 101, 114, 115]⟩ : ByteArray)
  ·exact Or.inl hs
  ·rw [if_neg hs] at h3
   exact Or.inr ⟨hs, isE_only h3⟩
 rw [if_neg e6] at h1
 right
 by_cases e2 : op = 2
 ·left
  rw [if_pos e2] at h1
  simp only [Bool.and_eq_true, Bool.or_eq_true, decide_eq_true_eq] at h1
  rw [if_pos e2] at h3
  exact ⟨e2, h1.1.1.1, h1.2, thrE_ws h3⟩
 rw [if_neg e2] at h1
 right
 by_cases e3 : op = 3 ∨ op = 4
 ·left
  rw [if_pos e3] at h1
  simp only [Bool.and_eq_true, decide_eq_true_eq] at h1
  exact ⟨e3, h1.1.1.1, List.length_eq_zero_iff.1 h1.1.2⟩
 rw [if_neg e3] at h1
 right; left
 by_cases e5 : op = 5
 ·rw [if_pos e5] at h1
  simp only [Bool.and_eq_true, decide_eq_true_eq] at h1
  exact ⟨e5, h1.1.1.1, List.length_eq_zero_iff.1 h1.1.2, h1.2⟩
 ·rw [if_neg e5] at h1; cases h1
structure Plain (l pre : List Dc) : Prop where
 once : (fQ l).Nodup
 sv : (aj l).length ≤ 12
 sub : ∀ x, aT (tab pre) x ≠ 0 → aT (tab l) x = aT (tab pre) x
theorem Plain.srv (h : Plain l pre) {x : ByteArray} (hx : aT (tab pre) x = 2) : ∃ i, ig (aj l) x = some i ∧ i < 12 := by
 have h2 : aT (tab l) x = 2 := by rw [h.sub x (by rw [hx]; decide)]; exact hx
 cases hs : ig (aj l) x with
 |none => exact absurd ((uN h.once x).1 h2) (wL.1 hs)
 |some i => exact ⟨i, rfl, by have := qJ hs; have := h.sv; omega⟩
end
end Go.Proofs.YtmohibkomlhlaaaGreatDoor
namespace Go.Proofs.YtmohibkomlhlaaaGreatDoor
theorem Bl (a b : List (ByteArray × Int)) (x : ByteArray) (ha : ∀ p ∈ a, p.2 ≠ 0) : aT (a ++ b) x = if aT a x ≠ 0 then aT a x else aT b x := by
 induction a with
 |nil => simp [aT]
 |cons p r ih =>
  rw [List.cons_append, aT, aT]
  by_cases h : (p.1 == x) = true
  ·rw [if_pos h, if_pos h, if_pos (ha p (by simp))]
  ·rw [if_neg h, if_neg h, ih (fun q hq => ha q (by simp [hq]))]
theorem tab_split (l : List Dc) (i : Nat) : tab l = tab (l.take i) ++ tab (l.drop i) := by
 unfold tab
 rw [← List.flatMap_append, List.take_append_drop]
theorem kW {l : List Dc} (h : (bH l).2 = 0) (i : Nat) : Plain l (l.take i) :=
 ⟨(iL h).1, (iL h).2, fun x hx => by rw [tab_split l i, Bl _ _ _ (jQ _), if_pos hx]⟩
theorem uj {l : List Dc} (h : (bH l).2 = 0) : Plain l l := by
 have := kW h l.length
 rwa [List.take_length] at this
theorem Dv {l : List Dc} (h : (dV l).2 = 0) : l.all uq = true := by
 unfold dV at h
 by_cases ho : l.all uq = true
 ·exact ho
 ·rw [if_neg ho] at h; simp at h
theorem jd {l : List Dc} (h : (bH l).2 = 0) : (∀ d ∈ l, DcOk d) ∧ sD l := by
 have h1 := Dv (ru h).1
 have h2 : ∀ d ∈ l, DcOk d := fun d hd => GR (List.all_eq_true.1 h1 d hd)
 exact ⟨h2, fun d hd => ⟨(h2 d hd).lo, (h2 d hd).hi⟩⟩
theorem CK (a : List (ByteArray × (Ex × Nat))) (n : ByteArray) (r : Ex × Nat) (x : ByteArray) (h : n ≠ x) : iM (a ++ [(n, r)]) x = iM a x := by
 induction a with
 |nil =>
  show iM [(n, r)] x = (ex0, 0)
  rw [iM, if_neg (fun e => h ((eB _ _).1 e))]
  rfl
 |cons p q ih => rw [List.cons_append, iM, iM, ih]
theorem qFind_new (a : List (ByteArray × (Ex × Nat))) (n : ByteArray) (r : Ex × Nat) (h : ∀ p ∈ a, p.1 ≠ n) : iM (a ++ [(n, r)]) n = r := by
 induction a with
 |nil =>
  show iM [(n, r)] n = r
  rw [iM, if_pos ((eB _ _).2 rfl)]
 |cons p q ih => rw [List.cons_append, iM, if_neg (fun e => h p (by simp) ((eB _ _).1 e)), ih (fun x hx => h x (by simp [hx]))]
theorem qGo_names (all : List Dc) (l : List Dc) : ∀ p ∈ qGo all l, ∃ d ∈ l, d.kind = 3 ∧ d.name = p.1 := by
 induction l using gG with
 |nil => intro p hp; simp [qGo] at hp
 |snoc l d ih =>
  intro p hp
  rw [Ep] at hp
  split at hp
  ·rename_i hk
   rcases List.mem_append.1 hp with hp | hp
   ·obtain ⟨e, he, h⟩ := ih p hp
    exact ⟨e, List.mem_append_left _ he, h⟩
   ·obtain rfl : p = (d.name, fw all (iM (qGo all l)) d.term) := by simpa using hp
    exact ⟨d, by simp, hk, rfl⟩
  ·obtain ⟨e, he, h⟩ := ih p hp
   exact ⟨e, List.mem_append_left _ he, h⟩
theorem BD {l : List Dc} {d : Dc} (h : iP l d = 0) (hk : d.kind = 3) : iW (tab l) (aF l) d.term = 0 := by
 have hn := jb h
 unfold iP at h
 rw [if_neg hn.1, if_neg hn.2, if_neg (by omega), if_neg (by omega), if_pos hk] at h
 exact h
theorem Fz {l : List Dc} (hc : (bH l).2 = 0) (P : ByteArray → Ex × Nat → Prop)
  (step : ∀ i (hi : i < l.length), l[i].kind = 3 → Typed (l.take i) l[i].term → (∀ x, aT (tab (l.take i)) x = 4 → P x (iM (qGo l (l.take i)) x)) → P l[i].name (fw l (iM (qGo l (l.take i))) l[i].term)) :
  ∀ i, i ≤ l.length → ∀ x, aT (tab (l.take i)) x = 4 → P x (iM (qGo l (l.take i)) x) := by
 intro i
 induction i with
 |zero => intro _ x hx; rw [List.take_zero] at hx; exact absurd hx (by simp [tab, aT])
 |succ i ih =>
  intro hi x hx
  have h0 := ih (by omega)
  have hd := (ru hc).2.1 i hi
  have hok := (jd hc).1 l[i] (List.getElem_mem hi)
  have hq : qGo l (l.take (i + 1)) = if l[i].kind = 3 then qGo l (l.take i) ++ [(l[i].name, fw l (iM (qGo l (l.take i))) l[i].term)] else qGo l (l.take i) := by
   rw [List.take_succ_eq_append_getElem hi, Ep]
  rw [Ed hi, Bl _ _ _ (jQ _)] at hx
  by_cases hk : l[i].kind = 3
  ·have hkn : bS l[i].kind ≠ 0 := by rw [hk]; decide
   have hnew := rq hd hkn
   have hty : Typed (l.take i) l[i].term := by
    refine ⟨?_, ?_⟩
    ·have := hok.term
     rw [hk] at this
     exact this
    ·exact BD hd hk
   rw [hq, if_pos hk]
   by_cases hz : aT (tab (l.take i)) x = 0
   ·rw [if_neg (by rw [hz]; simp)] at hx
    have hxn : l[i].name = x := by
     unfold oM at hx
     simp only [hk] at hx
     rw [if_neg (by decide), if_neg (by decide), List.append_nil, aT] at hx
     split at hx
     ·rename_i h9; exact (eB _ _).1 h9
     ·exact absurd hx (by simp [aT])
    subst hxn
    rw [qFind_new _ _ _ (fun p hp e => by
     obtain ⟨d, hd1, hd2, hd3⟩ := qGo_names l (l.take i) p hp
     exact (qX (jQ (l.take i)) _).1 hz (d.name, bS d.kind) (List.mem_flatMap.2 ⟨d, hd1, qx (by rw [hd2]; decide)⟩) (hd3.trans e))]
    exact step i hi hk hty h0
   ·rw [if_pos hz] at hx
    rw [CK _ _ _ _ (fun e => hz (by rw [← e]; exact hnew))]
    exact h0 x hx
  ·rw [hq, if_neg hk]
   by_cases hz : aT (tab (l.take i)) x = 0
   ·rw [if_neg (by rw [hz]; simp)] at hx
    exfalso
    have hm : ∃ p ∈ oM l[i], p.2 = 4 := by
     have key : ∀ t : List (ByteArray × Int), aT t x = 4 → ∃ p ∈ t, p.2 = 4 := by
      intro t
      induction t with
      |nil => intro h; exact absurd h (by simp [aT])
      |cons p r ih =>
       intro h
       rw [aT] at h
       split at h
       ·exact ⟨p, by simp, h⟩
       ·obtain ⟨q, hq, e⟩ := ih h
        exact ⟨q, by simp [hq], e⟩
     exact key _ hx
    obtain ⟨p, hp, hp4⟩ := hm
    unfold oM at hp
    rcases List.mem_append.1 hp with hp | hp
    ·split at hp
     ·simp at hp
     ·obtain rfl : p = (l[i].name, bS l[i].kind) := by simpa using hp
      have : bS l[i].kind = 4 := hp4
      unfold bS at this
      repeat' split at this
      all_goals simp_all
    ·split at hp
     ·obtain ⟨y, -, rfl⟩ := List.mem_map.1 hp
      exact absurd hp4 (by show ¬ (2 : Int) = 4; decide)
     ·simp at hp
   ·rw [if_pos hz] at hx
    exact h0 x hx
theorem yD {l : List Dc} (hc : (bH l).2 = 0) (P : ByteArray → Ex × Nat → Prop)
  (step : ∀ i (hi : i < l.length), l[i].kind = 3 → Typed (l.take i) l[i].term → (∀ x, aT (tab (l.take i)) x = 4 → P x (iM (qGo l (l.take i)) x)) → P l[i].name (fw l (iM (qGo l (l.take i))) l[i].term)) :
  ∀ x, aT (tab l) x = 4 → P x (iM (qGo l l) x) := by
 have := Fz hc P step l.length (Nat.le_refl _)
 rwa [List.take_length] at this
end Go.Proofs.YtmohibkomlhlaaaGreatDoor
namespace Go.Proofs.YtmohibkomlhlaaaGreatDoor
open Go.RowKit
open _root_.Go.Proofs.Tryz
section
variable {b sb mb : Nat} {A : Option Addr} {c : Nat} {l pre : List Dc} {env : ByteArray → Ex × Nat}
theorem vz (hl : LOk l) {t : Tm} (hg : BZ l (QOk b sb mb A c l env) t) : EOk b sb mb A c l t (fw l env t) := by
 induction hg with
 |mk op name need ws kids hh hk ih => exact Dx hl op name need ws kids hh (fun k hk' => ⟨ih k hk', zm hl (hk k hk')⟩)
theorem wI (hp : Plain l pre) (hks : sD l) {Q : ByteArray → Prop} (hq : ∀ x, aT (tab pre) x = 4 → Q x) : ∀ (n : Nat) (t : Tm), av t ≤ n → av t ≤ 1550000 → Typed pre t → BZ l Q t := by
 intro n
 induction n with
 |zero => intro t ht; cases t; simp [av] at ht
 |succ n ih =>
  intro t hs hs2 ht
  cases t with
  |mk op name need ws kids =>
   have h1 : av (.mk op name need ws kids) = 1 + name.size + ws.length + dm kids := gq (.mk op name need ws kids)
   have h2 := kS kids
   refine .mk op name need ws kids ⟨by unfold maxLen; omega, by omega, by omega, fun e hno => ?_, fun e => ?_, fun e1 e2 e3 e4 e5 hs => ?_, ?_⟩ (fun k hk => ?_)
   ·rcases ht.cases with ⟨-, -, -, -, hf⟩ | ⟨rfl, -⟩ | ⟨hop, -⟩ | ⟨rfl, -⟩ | ⟨hop, -⟩
    ·rcases hf with hf | hf
     ·obtain ⟨i, hi, -⟩ := hp.srv hf
      rw [hno] at hi
      cases hi
     ·exact hq name hf
    all_goals omega
   ·rcases ht.cases with ⟨rfl, -⟩ | ⟨rfl, -⟩ | ⟨hop, -⟩ | ⟨-, -, -, hl1⟩ | ⟨hop, -⟩
    ·omega
    ·omega
    ·omega
    ·exact ⟨by omega, dual_any⟩
    ·omega
   ·rcases ht.cases with ⟨rfl, -⟩ | ⟨rfl, -⟩ | ⟨hop, -⟩ | ⟨rfl, -⟩ | ⟨-, -, -, hn⟩
    ·omega
    ·omega
    ·omega
    ·omega
    ·rcases hn with hn | ⟨-, hn⟩
     ·exact absurd hn hs
     ·obtain ⟨d, -, -, -, -, e⟩ := Bh hp.once hks (k := 1) (x := name) (by rw [hp.sub name (by rw [hn]; decide), hn]; rfl) (by decide)
      exact ⟨d, e⟩
   ·rcases ht.cases with ⟨rfl, -⟩ | ⟨rfl, -⟩ | ⟨hop, -⟩ | ⟨rfl, -⟩ | ⟨hop, -⟩ <;> omega
   ·have h3 := d9 (l := kids) hk
    exact ih k (by omega) (by omega) (ht.parts.2.2.2 k hk)
theorem Ez (hc : (bH l).2 = 0) (hsz : (l.map aZ).sum ≤ 1100000) : LOk l := by
 refine ⟨by have := iB l; omega, (iL hc).2, fun d hd => ?_⟩
 have h1 := lH hd
 have e1 : aZ d = d.name.size + bI d.names + (d.faults.map dS).sum + av d.term + d.proto.size + av d.read + av d.write + d.use.size + 1 := rfl
 have h2 := dH d.names
 exact ⟨by omega, fun y hy => by have := lU hy; unfold maxLen; omega⟩
theorem wJ (hsz : (l.map aZ).sum ≤ 1100000) {d : Dc} (hd : d ∈ l) : av d.term ≤ 1550000 ∧ av d.read ≤ 1550000 ∧ av d.write ≤ 1550000 := by
 have h1 := lH hd
 have e1 : aZ d = d.name.size + bI d.names + (d.faults.map dS).sum + av d.term + d.proto.size + av d.read + av d.write + d.use.size + 1 := rfl
 omega
theorem FB (hc : (bH l).2 = 0) (hsz : (l.map aZ).sum ≤ 1100000) : ∀ x, aT (tab l) x = 4 → QOk b sb mb A c l (iM (qGo l l)) x := by
 have hl := Ez hc hsz
 have hks := (jd hc).2
 refine yD hc (fun x r => ∃ d, ql l 3 x = some d ∧ EOk b sb mb A c l d.term r ∧ (r.2 = 0 → jN r.1)) fun i hi hk ht ih => ?_
 have hg := wI (kW hc i) hks (Q := QOk b sb mb A c l (iM (qGo l (l.take i)))) ih _ l[i].term (Nat.le_refl _) (wJ hsz (List.getElem_mem hi)).1 ht
 exact ⟨l[i], by have := EJ (iL hc).1 (List.getElem_mem hi) (by rw [hk]; decide); rwa [hk] at this, vz hl hg, zm hl hg⟩
theorem nK (hc : (bH l).2 = 0) (hsz : (l.map aZ).sum ≤ 1100000) {t : Tm} (ht : Typed l t) (hst : av t ≤ 1550000) : EOk b sb mb A c l t (fH l t) ∧ ((fH l t).2 = 0 → jN (fH l t).1) := by
 have hl := Ez hc hsz
 have hg := wI (uj hc) (jd hc).2 (Q := QOk b sb mb A c l (iM (qGo l l))) (FB hc hsz) _ t (Nat.le_refl _) hst ht
 exact ⟨vz hl hg, zm hl hg⟩
end
theorem dc_tlim25 {d : Dc} (hs : aZ d ≤ 1100000) : TLim d := by
 have n1 := dH d.names
 have n2 := Du d.faults
 have e1 : aZ d = d.name.size + bI d.names + (d.faults.map dS).sum + av d.term + d.proto.size + av d.read + av d.write + d.use.size + 1 := rfl
 have hft : ∀ f ∈ d.faults, f.aI.length + f.aD.length ≤ 1200000 := fun f h => by
  have := qg f
  have := ft_in_sum h
  omega
 exact ⟨by omega, by omega, fun f h => by have := hft f h; omega, by omega, by omega, by omega⟩
theorem check25 (l : List Dc) (A : Option Addr) (c : Nat) (w : World) (S : Nat → Prop) (hl : aL (dx w S) w S 22 A l) (hS : ∀ g, S g → g < w.heap.size) (hsz : (l.map aZ).sum ≤ 1100000) (hpw : Pow w) :
  Calls prog 27 #[.slice A l.length c] w fun e w' => e = .returned (.tuple #[.int .i64 (bH l).1, .int .i64 (bH l).2]) ∧ Below w.heap.size w w' :=
 check_any l A c w S hl hS (by omega) (by have := few_dc l; omega) (by have := iB l; omega) (valid_any l A c w S hl hS (by have := iB l; omega) (fun d hd => dc_tlim25 (by have := lH hd; omega)) (fun h => by have := zx l h; omega) hpw)
theorem bok25 {l : List Dc} (hsz : (l.map aZ).sum ≤ 1100000) (hks : sD l) : BOk l := by
 have hle : ∀ d : Dc, d.names.length + 1 ≤ aZ d := fun d => by
  have h3 := dH d.names
  have e1 : aZ d = d.name.size + bI d.names + (d.faults.map dS).sum + av d.term + d.proto.size + av d.read + av d.write + d.use.size + 1 := rfl
  omega
 refine ⟨fun d hd => ⟨?_, ?_, fun x hx => ?_⟩, ?_⟩
 ·have := hks d hd; omega
 ·have h1 := lH hd
  have e1 : aZ d = d.name.size + bI d.names + (d.faults.map dS).sum + av d.term + d.proto.size + av d.read + av d.write + d.use.size + 1 := rfl
  unfold maxLen; omega
 ·have h1 := lH hd
  have e1 : aZ d = d.name.size + bI d.names + (d.faults.map dS).sum + av d.term + d.proto.size + av d.read + av d.write + d.use.size + 1 := rfl
  have := lU hx
  unfold maxLen; omega
 ·have key : ∀ m : List Dc, (m.map fun d => d.names.length + 1).sum ≤ (m.map aZ).sum := by
   intro m
   induction m with
   |nil => exact Nat.le_refl _
   |cons d r ih => have := hle d; rw [List.map_cons, List.sum_cons, List.map_cons, List.sum_cons]; omega
  have := key l
  omega
def kM (l : List Dc) (t : Tm) : Ex × Nat := if (bH l).2 ≠ 0 then (ex0, (bH l).2) else if kH l t ≠ 0 then (ex0, kH l t) else fH l t
theorem D8 {l : List Dc} {t : Tm} (h : kH l t = 0) : Typed l t := by
 unfold kH at h
 split at h
 ·rename_i h9; exact absurd h h9
 ·rename_i h9
  refine ⟨?_, h⟩
  have h0 := Decidable.not_not.1 h9
  unfold dO at h0
  by_cases ho : kZ t = true
  ·exact ho
  ·rw [if_neg ho] at h0; simp at h0
theorem vB (l : List Dc) (A : Option Addr) (c : Nat) (t : Tm) (v : Value) (w : World) (S : Nat → Prop) (hl : aL (dx w S) w S 22 A l) (ht : dN w S t v) (hS : ∀ g, S g → g < w.heap.size) (hsz : (l.map aZ).sum ≤ 1100000) (hst : av t ≤ 1550000) (hpw : Pow w) :
  Calls prog 9 #[.slice A l.length c, v] w (nY (kM l t).1 (kM l t).2 w) := by
 have hbA : ∀ (W : World) (o : Obj), Below W.heap.size W (W.alloc o) := fun W o => (Below.refl _ _).alloc (Nat.le_refl _) o
 have hLS := fun (W : World) (hW : Below w.heap.size w W) => (⟨hl.keep (P' := dx W S) (ai hW hS) (fun _ _ h => h.keep (ai hW hS)), fun g hg => by have := hS g hg; have := hW.size; omega⟩ : aL (dx W S) W S 22 A l ∧ ∀ g, S g → g < W.heap.size)
 have HLS := Lib.hid hLS
 have HT := Lib.hid (fun (W : World) (hW : Below w.heap.size w W) => ht.keep (ai hW hS))
 have HCK := Lib.hid (fun (W : World) (hW : Below w.heap.size w W) => check25 l A c W S (hLS W hW).1 (hLS W hW).2 hsz (hpw.below hW))
 have ht2 := ht
 obtain ⟨op, nm, nd, wA, wn, wc, kA, kn, kc, rfl⟩ := ht2.form
 have HTM := Lib.hid (fun (W : World) (hW : Below w.heap.size w W) (hB : BOk l) => term_any2 l A c t _ W S (hLS W hW).1 (ht.keep (ai hW hS)) (hLS W hW).2 hB (by omega) (hpw.below hW))
 have HBG := Lib.hid (fun (W : World) (hW : Below w.heap.size w W) (hc : (bH l).2 = 0) => BR l A c W S (hLS W hW).1 (hLS W hW).2 (by have := (iL hc).2; omega) ((lN l).nodup (iL hc).1) (fun x hx => by
  obtain ⟨d, hd, hx⟩ := List.mem_flatMap.1 hx
  split at hx
  ·exact ((Ez hc hsz).names d hd).2 x hx
  ·simp at hx) (by have := iB l; omega))
 have HXP := Lib.hid (fun (b sb mb : Nat) (hc : (bH l).2 = 0) (hty : Typed l t) => (nK (b := b) (sb := sb) (mb := mb) (A := A) (c := c) hc hsz hty hst).1)
 have HB := Lib.hid (fun (hc : (bH l).2 = 0) => bok25 hsz (jd hc).2)
 obtain ⟨r, hr⟩ : ∃ r, r = kM l t := ⟨_, rfl⟩
 rw [← hr]
 unfold kM at hr
 obtain ⟨ck, hck⟩ : ∃ ck, ck = (bH l).2 := ⟨_, rfl⟩
 obtain ⟨cl, hcl⟩ : ∃ cl, cl = (bH l).1 := ⟨_, rfl⟩
 obtain ⟨te, hte⟩ : ∃ te, te = kH l t := ⟨_, rfl⟩
 rw [← hck, ← hte] at hr
 simp only [← hck, ← hcl] at HCK
 simp only [← hte] at HTM
 have HR := Lib.hid hr
 have HCE := Lib.hid hck
 have HTE := Lib.hid hte
 obtain ⟨W0, hW0⟩ : ∃ W0 : World, W0 = (w.alloc (.cells #[.int .i64 op, .string nm, .int .i64 nd, .slice wA wn wc, .slice kA kn kc] 26)).alloc (.cells #[.slice none 0 0, .int .i64 0] 38) := ⟨_, rfl⟩
 have hb0 : Below w.heap.size w W0 := by rw [hW0]; exact (hbA _ _).alloc (by simp) _
 have hr0 : W0.heap[w.heap.size]? = some (.cells #[.int .i64 op, .string nm, .int .i64 nd, .slice wA wn wc, .slice kA kn kc] 26 (0, 0)) := by rw [hW0]; exact heap_alloc2_old _ _ _
 have hr1 : W0.heap[w.heap.size + 1]? = some (.cells #[.slice none 0 0, .int .i64 0] 38 (0, 0)) := by rw [hW0]; exact heap_alloc2_new _ _ _
 have H0 := Lib.hid hW0
 have HR0 := Lib.hid hr0
 have HR1 := Lib.hid hr1
 have hlt1 := lt_of_block hr1
 clear hl ht ht2 hpw hLS hr hck hcl hte hW0 hr0 hr1
 go_enter func9, ntmps9
 go_wp2_with fail
 rw [← H0.out]
 refine (HCK.out W0 hb0).mono ?_
 rintro e w2 ⟨rfl, hb2⟩
 have hbw2 := hb0.trans (hb2.mono hb0.size)
 have r0 := (hb2.block _ (lt_of_block HR0.out)).trans HR0.out
 have r1 := (hb2.block _ hlt1).trans HR1.out
 obtain ⟨y0, y1⟩ := ay r1
 have f0 := frozen_of_row _ _ 0 _ _ r1
 have f1 := frozen_of_row _ _ 1 _ _ r1
 by_cases h0 : ck = 0
 ·subst h0
  have HC0 := Lib.hid HCE.out.symm
  have HTM2 := Lib.hid (HTM.out w2 hbw2 (HB.out HC0.out))
  obtain ⟨z0, z1, z2, z3, z4⟩ := aO r0
  go_wp2_with fail
  refine HTM2.out.mono ?_
  rintro e w3 ⟨rfl, hb3⟩
  have jw := hbw2.trans (hb3.mono hbw2.size)
  have r03 := (hb3.block _ (lt_of_block r0)).trans r0
  have r13 := (hb3.block _ (lt_of_block r1)).trans r1
  have hlt3 := lt_of_block r13
  clear y0 y1 f0 f1 z0 z1 z2 z3 z4 r0 r1 hb2 hb3 HTM2
  by_cases h1 : te = 0
  ·subst h1
   have HR2 := Lib.hid (show r = fH l t by rw [HR.out]; rfl)
   have HTY := Lib.hid (D8 HTE.out.symm)
   have HR03 := Lib.hid r03
   have HR13 := Lib.hid r13
   obtain ⟨xr, er⟩ := r
   clear r03 r13
   go_upto_region 7 with fail
   refine ax.start (fun W' => Below w3.heap.size w3 W') [6] [0, 2, 4, 5, 7] (by kernel_rfl) (below_drewN (Below.refl _ _) 1) (fun hHeld => ?_)
   repeat
    refine ax.take (v := ?_) rfl (by decide +kernel) (by rfl) (fun _ _ _ h => h) hHeld ?_ ?_
    rotate_left
    focus
     intro w9 h9
     obtain ⟨z0, z1, z2, z3, z4⟩ := aO ((h9.block _ (lt_of_block HR03.out)).trans HR03.out)
     go_simp
     (try with_reducible rfl)
     done
    simp only [Act.put, List.getElem_toArray, List.getElem_cons_succ, List.getElem_cons_zero, List.setIfInBounds_toArray, List.set_cons_zero, List.set_cons_succ]
   repeat'
    first
    |refine ax.pure (v := ?_) rfl (by decide +kernel) (by rfl) (fun _ _ _ h => h) (by first | exact fun h => absurd h (by decide) | exact fun _ => hHeld) ?_ ?_
     rotate_left
     focus
      intro w9
      go_simp
      (try with_reducible rfl)
      done
     simp only [Act.put, List.getElem_toArray, List.getElem_cons_succ, List.getElem_cons_zero, List.setIfInBounds_toArray, List.set_cons_zero, List.set_cons_succ]
    |refine ax.one 1 rfl (by decide +kernel) (by rfl) (fun K hK => ?_)
    |refine ax.one 3 rfl (by decide +kernel) (by rfl) (fun K hK => ?_)
    |refine ax.one 6 rfl (by decide +kernel) (by rfl) (fun K hK => ?_)
    |have r9 := (hHeld.block _ hlt3).trans HR13.out
     obtain ⟨y0, y1⟩ := ay r9
     have f0 := frozen_of_row _ _ 0 _ _ r9
     have f1 := frozen_of_row _ _ 1 _ _ r9
     go_simp
     first
     |go_at_call 29
      (with_reducible refine (HBG.out _ (jw.trans (hHeld.mono jw.size)) HC0.out).mono ?_)
      rintro e Y1 ⟨b, sb, mb, rfl, hwd, hmb, hb7, -⟩
      have HWD := Lib.hid hwd
      have hHeld := hHeld.trans (hb7.mono hHeld.size)
      try go_simp
      refine hK.out _ _ (fun _ => hHeld) ?_
      clear hK K y0 y1 f0 f1 r9
     |go_at_call 30
      (refine (HXP.out b sb mb HC0.out HTY.out _ _ S HWD.out (HLS.out _ (jw.trans (hHeld.mono jw.size))).1 (HT.out _ (jw.trans (hHeld.mono jw.size))) (HLS.out _ (jw.trans (hHeld.mono jw.size))).2).mono ?_)
      rw [← HR2.out]
      rintro e Y2 ⟨v8, rfl, hx8, hb8⟩
      have HX8 := Lib.hid hx8
      obtain ⟨A8, c8, rfl, -, -⟩ := hx8
      have hsz8 := hHeld.size
      have hHeld := hHeld.trans (hb8.mono hHeld.size)
      try go_simp
      refine hK.out _ _ (fun _ => hHeld) ?_
      clear hK K y0 y1 f0 f1 r9
     |refine hK.out _ _ (fun h => absurd h (by decide)) ?_
      clear hK K y0 y1 f0 f1 r9
   refine ax.done (by decide +kernel) ?_
   go_wp2_with fail
   have r9 := (hHeld.block _ hlt3).trans HR13.out
   have r6f := jh (u' := .slice A8 xr.nodes.length c8) (v' := .int .i64 xr.root) r9
   refine pI rfl rfl rfl rfl (ay r6f).1 (ay r6f).2 ?_
   have hk2 : Kept (fun g => Y1.heap.size ≤ g) Y2 ((Y2.setCell ⟨w.heap.size + 1, 0, none⟩ (.slice A8 xr.nodes.length c8)).setCell ⟨w.heap.size + 1, 1, none⟩ (.int .i64 xr.root)) := fun g hg _ => by
    rw [Below.heap_setCell _ _ _ g (show g ≠ w.heap.size + 1 by omega), Below.heap_setCell _ _ _ g (show g ≠ w.heap.size + 1 by omega)]
   have hbw9 := jw.trans (hHeld.mono jw.size)
   exact ⟨_, rfl, (HX8.out.keep hk2).mono (fun g hg _ => by have := jw.size; omega), (hbw9.setCell (p := ⟨w.heap.size + 1, 0, none⟩) (by show w.heap.size ≤ w.heap.size + 1; omega) _).setCell (p := ⟨w.heap.size + 1, 1, none⟩) (by show w.heap.size ≤ w.heap.size + 1; omega) _⟩
  ·have h1b : ((te : Int) != 0) = true := by simp; omega
   have h1c : ((te : Int) == 0) = false := by simp; omega
   have HR2 := Lib.hid (show r = (ex0, te) by rw [HR.out]; simp [h1])
   obtain ⟨y0, y1⟩ := ay r13
   have f0 := frozen_of_row _ _ 0 _ _ r13
   have f1 := frozen_of_row _ _ 1 _ _ r13
   go_wp2
   have r6f := jh (u' := .slice none 0 0) (v' := .int .i64 0) r13
   refine pI rfl rfl rfl rfl (ay r6f).1 (ay r6f).2 ?_
   rw [HR2.out]
   exact ⟨_, rfl, kP.zero _ _, (jw.setCell (p := ⟨w.heap.size + 1, 0, none⟩) (by show w.heap.size ≤ w.heap.size + 1; omega) _).setCell (p := ⟨w.heap.size + 1, 1, none⟩) (by show w.heap.size ≤ w.heap.size + 1; omega) _⟩
 ·have HR2 := Lib.hid (show r = (ex0, ck) by rw [HR.out, if_pos h0])
  have h0b : ((ck : Int) != 0) = true := by simp; omega
  have h0c : ((ck : Int) == 0) = false := by simp; omega
  go_wp2
  have r6f := jh (u' := .slice none 0 0) (v' := .int .i64 0) r1
  refine pI rfl rfl rfl rfl (ay r6f).1 (ay r6f).2 ?_
  rw [HR2.out]
  exact ⟨_, rfl, kP.zero _ _, (hbw2.setCell (p := ⟨w.heap.size + 1, 0, none⟩) (by show w.heap.size ≤ w.heap.size + 1; omega) _).setCell (p := ⟨w.heap.size + 1, 1, none⟩) (by show w.heap.size ≤ w.heap.size + 1; omega) _⟩
end Go.Proofs.YtmohibkomlhlaaaGreatDoor
