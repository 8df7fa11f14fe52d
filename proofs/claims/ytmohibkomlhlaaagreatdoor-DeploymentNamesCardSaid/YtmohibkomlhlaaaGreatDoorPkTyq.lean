/- The types of a part of declarations: a sublist of declarations with a text has one; a beginning of declarations without an error has none but ErrEmpty. No condition. The types of declarations whose names are mapped: errors stay if kinds stay. No condition. Declarations without an error have none if an unused one is left out. No condition. -/
import Derived.Test.YtmohibkomlhlaaaGreatDoorPkTyp
import Derived.Test.YtmohibkomlhlaaaGreatDoorPkRound
namespace Go.Proofs.YtmohibkomlhlaaaGreatDoor
end Go.Proofs.YtmohibkomlhlaaaGreatDoor
namespace Go.Proofs.YtmohibkomlhlaaaGreatDoor
section
variable {ρ : ByteArray → ByteArray} {Y : ByteArray → Prop} {t t' : List (ByteArray × Int)}
end
structure Maps (ρ : ByteArray → ByteArray) (Y : ByteArray → Prop) (l l' : List Dc) : Prop where
 kinds : ∀ y, Y y → aT (tab l') (ρ y) = aT (tab l) y
 servers : aF l' = aF l
 chain : fD l' = fD l
 seen : bO 5 l' = (bO 5 l).map ρ
 byz : ∀ y, Y y → iR l' (ρ y) = iR l y
end Go.Proofs.YtmohibkomlhlaaaGreatDoor
namespace Go.Proofs.YtmohibkomlhlaaaGreatDoor
theorem vF (k : Int) : bS k = 0 ∨ bS k = 1 ∨ bS k = 3 ∨ bS k = 4 ∨ bS k = 5 ∨ bS k = 6 := by
 unfold bS; split; · simp
 split; · simp
 split; · simp
 split; · simp
 split <;> simp
theorem mR (d : Dc) : ∀ p ∈ oM d, p.2 ≠ 0 := by
 intro p hp
 unfold oM at hp
 rcases List.mem_append.1 hp with h | h
 ·split at h
  ·cases h
  ·rename_i hk
   rw [List.mem_singleton] at h
   rw [h]; exact hk
 ·split at h
  ·obtain ⟨x, -, rfl⟩ := List.mem_map.1 h
   exact (by decide : (2 : Int) ≠ 0)
  ·cases h
theorem jQ (l : List Dc) : ∀ p ∈ tab l, p.2 ≠ 0 := by
 intro p hp
 obtain ⟨d, -, hd⟩ := List.mem_flatMap.1 hp
 exact mR d p hd
theorem qX {t : List (ByteArray × Int)} (ht : ∀ p ∈ t, p.2 ≠ 0) (y : ByteArray) : aT t y = 0 ↔ ∀ p ∈ t, p.1 ≠ y := by
 induction t with
 |nil => simp [aT]
 |cons p r ih =>
  have hi := ih fun q hq => ht q (by simp [hq])
  rw [aT]
  by_cases h : (p.1 == y) = true
  ·rw [if_pos h]
   constructor
   ·intro e; exact absurd e (ht p (by simp))
   ·intro e; exact absurd ((eB _ _).1 h) (e p (by simp))
  ·rw [if_neg h, hi]
   have hne : p.1 ≠ y := fun e => h ((eB _ _).2 e)
   constructor
   ·intro e q hq
    rcases List.mem_cons.1 hq with rfl | hq
    ·exact hne
    ·exact e q hq
   ·intro e q hq; exact e q (by simp [hq])
theorem vo {l : List Dc} {y : ByteArray} (h : aT (tab l) y ≠ 0) : (y, aT (tab l) y) ∈ tab l := by
 generalize tab l = t at h
 induction t with
 |nil => exact absurd rfl h
 |cons p r ih =>
  rw [aT] at h ⊢
  by_cases hp : (p.1 == y) = true
  ·rw [if_pos hp, ← (eB _ _).1 hp]; exact List.mem_cons_self
  ·rw [if_neg hp] at h ⊢; exact List.mem_cons_of_mem _ (ih h)
theorem qx {d : Dc} (h : bS d.kind ≠ 0) : (d.name, bS d.kind) ∈ oM d := by
 unfold oM; rw [if_neg h]; simp
theorem jb {l : List Dc} {d : Dc} (h : iP l d = 0) : ¬ (d.kind = 1 ∧ bJ l = true) ∧ ¬ (bS d.kind ≠ 0 ∧ aT (tab l) d.name ≠ 0) := by
 unfold iP at h
 by_cases h1 : d.kind = 1 ∧ bJ l = true
 ·rw [if_pos h1] at h; cases h
 ·by_cases h2 : bS d.kind ≠ 0 ∧ aT (tab l) d.name ≠ 0
  ·rw [if_neg h1, if_pos h2] at h; cases h
  ·exact ⟨h1, h2⟩
theorem rq {l : List Dc} {d : Dc} (h : iP l d = 0) (hk : bS d.kind ≠ 0) : aT (tab l) d.name = 0 :=
 Decidable.not_not.1 fun e => (jb h).2 ⟨hk, e⟩
theorem wO {t : List (ByteArray × Int)} {ns : Nat} {nm : ByteArray} : ∀ {l pre : List ByteArray}, mF t ns nm pre l = 0 → ∀ y ∈ l, aT t y = 0 := by
 intro l
 induction l with
 |nil => intro pre _ y hy; cases hy
 |cons x r ih =>
  intro pre h y hy
  rw [mF] at h
  split at h
  ·cases h
  ·rename_i h1
   split at h
   ·cases h
   ·rcases List.mem_cons.1 hy with rfl | hy
    ·exact Decidable.not_not.1 fun e => h1 (Or.inl e)
    ·exact ih h y hy
theorem xK {l : List Dc} {d : Dc} (h : iP l d = 0) (hk : d.kind = 1) : bJ l = false ∧ mF (tab l) (aF l) d.name [] d.names = 0 := by
 obtain ⟨h1, h2⟩ := jb h
 unfold iP at h
 rw [if_neg h1, if_neg h2, if_pos hk] at h
 refine ⟨?_, h⟩
 cases e : bJ l
 ·rfl
 ·exact absurd ⟨hk, e⟩ h1
section
variable {x : ByteArray} {m : List Dc}
def without (x : ByteArray) (l : List Dc) : List Dc := l.filter fun d => !(d.name == x)
end
end Go.Proofs.YtmohibkomlhlaaaGreatDoor
