/- Plain facts about sets of up to 16 members, as numbers below 65536: the members in ascending order, the lowest member, and the set without it. No condition. -/

namespace Go.Proofs.YtmohibkomlhlaaaGreatDoor

def mem (s : Nat) : List Nat := (List.range 16).filter (fun i => s.testBit i)

theorem odd_part (n : Nat) : ∀ s, s ≤ n → s ≠ 0 → ∃ k m, s = 2 ^ k * (2 * m + 1) := by
 induction n with
 |zero => intro s h h0; omega
 |succ n ih =>
  intro s h h0
  by_cases e : s % 2 = 0
  ·obtain ⟨k, m, hk⟩ := ih (s / 2) (by omega) (by omega)
   exact ⟨k + 1, m, by rw [Nat.pow_succ, Nat.mul_comm (2 ^ k) 2, Nat.mul_assoc, ← hk]; omega⟩
  ·exact ⟨0, s / 2, by simp; omega⟩

theorem uw (m i : Nat) : (2 * m + 1).testBit i = if i = 0 then true else m.testBit (i - 1) := by
 cases i with
 |zero => simp [Nat.testBit_zero]
 |succ i => simp [Nat.testBit_succ]; congr 1; omega
theorem EL (m i : Nat) : (2 * m).testBit i = if i = 0 then false else m.testBit (i - 1) := by
 cases i with
 |zero => simp [Nat.testBit_zero]
 |succ i => simp [Nat.testBit_succ]

theorem and_pred (k m : Nat) : (2 ^ k * (2 * m + 1)) &&& (2 ^ k * (2 * m + 1) - 1) = 2 ^ k * (2 * m) := by
 have hp : 0 < 2 ^ k := Nat.two_pow_pos k
 have e : 2 ^ k * (2 * m + 1) - 1 = 2 ^ k * (2 * m) + (2 ^ k - 1) := by rw [Nat.mul_add]; omega
 apply Nat.eq_of_testBit_eq
 intro i
 rw [Nat.testBit_and, e, Nat.testBit_two_pow_mul_add _ (by omega), Nat.testBit_two_pow_mul, Nat.testBit_two_pow_mul, uw, EL]
 by_cases h : i < k
 ·have : ¬ i ≥ k := by omega
  simp [h, this]
 ·by_cases h2 : i - k = 0
  ·simp [h, h2]
  ·simp [h, h2]

theorem and_neg (k m : Nat) (h : 2 ^ k * (2 * m + 1) < 65536) : (2 ^ k * (2 * m + 1)) &&& (65536 - 2 ^ k * (2 * m + 1)) = 2 ^ k := by
 have hk : k < 16 := by
  rcases Nat.lt_or_ge k 16 with h' | h'
  ·exact h'
  ·exfalso
   have h1 : 2 ^ 16 ≤ 2 ^ k := Nat.pow_le_pow_right (by decide) h'
   have h2 : 2 ^ k * 1 ≤ 2 ^ k * (2 * m + 1) := Nat.mul_le_mul_left _ (by omega)
   omega
 have hp : 0 < 2 ^ k := Nat.two_pow_pos k
 have e16 : (65536 : Nat) = 2 ^ k * (2 * 2 ^ (15 - k)) := by
  have h1 : 2 * 2 ^ (15 - k) = 2 ^ (15 - k + 1) := by rw [Nat.pow_succ]; omega
  rw [h1, ← Nat.pow_add, show k + (15 - k + 1) = 16 by omega]
 have hm : m < 2 ^ (15 - k) := by
  rw [e16] at h
  have := Nat.lt_of_mul_lt_mul_left h
  omega
 have e : 65536 - 2 ^ k * (2 * m + 1) = 2 ^ k * (2 * (2 ^ (15 - k) - (m + 1)) + 1) := by
  rw [e16, ← Nat.mul_sub]; congr 1; omega
 rw [e]
 apply Nat.eq_of_testBit_eq
 intro i
 rw [Nat.testBit_and, Nat.testBit_two_pow_mul, Nat.testBit_two_pow_mul, uw, uw, Nat.testBit_two_pow, Nat.testBit_two_pow_sub_succ hm]
 by_cases h1 : i ≥ k
 ·by_cases h2 : i - k = 0
  ·have : k = i := by omega
   simp [this]
  ·have : ¬ k = i := by omega
   simp [h2, this]
   intro _ hb _ _
   exact hb
 ·have : ¬ k = i := by omega
  simp [h1, this]

theorem Bn (p q : Nat → Bool) (k : Nat) (hp : ∀ i, i < k → p i = false) (hk : p k = true) (hq : ∀ i, q i = (p i && !(i == k))) :
  ∀ n, k < n → (List.range n).filter p = k :: (List.range n).filter q := by
 have hlow : ∀ n, n ≤ k → (List.range n).filter p = [] ∧ (List.range n).filter q = [] := by
  intro n hn
  refine ⟨List.filter_eq_nil_iff.2 ?_, List.filter_eq_nil_iff.2 ?_⟩
  ·intro i hi; rw [List.mem_range] at hi; simp [hp i (by omega)]
  ·intro i hi; rw [List.mem_range] at hi; simp [hq, hp i (by omega)]
 intro n
 induction n with
 |zero => intro h; omega
 |succ n ih =>
  intro h
  rw [List.range_succ, List.filter_append, List.filter_append]
  by_cases e : n = k
  ·subst e
   rw [(hlow n (Nat.le_refl _)).1, (hlow n (Nat.le_refl _)).2]
   simp [hk, hq]
  ·rw [ih (by omega)]
   have : q n = p n := by rw [hq]; simp [e]
   simp [List.filter_cons, this]

def low (s : Nat) : Nat := (mem s).headD 0

theorem Aa (s : Nat) (h : s < 65536) (h0 : s ≠ 0) : low s < 16 ∧ s &&& (65536 - s) = 2 ^ low s ∧ mem s = low s :: mem (s &&& (s - 1)) := by
 obtain ⟨k, m, rfl⟩ := odd_part s s (Nat.le_refl _) h0
 have hk : k < 16 := by
  rcases Nat.lt_or_ge k 16 with h' | h'
  ·exact h'
  ·exfalso
   have h1 : 2 ^ 16 ≤ 2 ^ k := Nat.pow_le_pow_right (by decide) h'
   have h2 : 2 ^ k * 1 ≤ 2 ^ k * (2 * m + 1) := Nat.mul_le_mul_left _ (by omega)
   omega
 have hm : mem (2 ^ k * (2 * m + 1)) = k :: mem ((2 ^ k * (2 * m + 1)) &&& (2 ^ k * (2 * m + 1) - 1)) := by
  unfold mem
  refine Bn _ _ k ?_ ?_ ?_ 16 hk
  ·intro i hi
   have : ¬ i ≥ k := by omega
   simp [Nat.testBit_two_pow_mul, this]
  ·simp [Nat.testBit_two_pow_mul, uw]
  ·intro i
   rw [and_pred, Nat.testBit_two_pow_mul, Nat.testBit_two_pow_mul, uw, EL]
   by_cases h1 : i ≥ k
   ·by_cases h2 : i - k = 0
    ·have : i = k := by omega
     simp [this]
    ·have : ¬ i = k := by omega
     simp [h2, this]
   ·simp [h1]
 have hl : low (2 ^ k * (2 * m + 1)) = k := by unfold low; rw [hm]; rfl
 rw [hl]
 exact ⟨hk, and_neg k m h, hm⟩

theorem mem_zero : mem 0 = [] := by decide
theorem FX (s : Nat) : (mem s).length ≤ 16 := by
 have := List.length_filter_le (fun i => s.testBit i) (List.range 16)
 simpa [mem] using this
theorem clear_lt (s : Nat) (h : s < 65536) : s &&& (s - 1) < 65536 := Nat.lt_of_le_of_lt Nat.and_le_left h

def FY (s k : Nat) : List Nat := (List.range k).filter (fun i => s.testBit i)
theorem memTo_all (s : Nat) : FY s 16 = mem s := rfl
theorem nD (s k : Nat) : FY s (k + 1) = FY s k ++ (if s.testBit k then [k] else []) := by
 unfold FY
 rw [List.range_succ, List.filter_append]
 by_cases h : s.testBit k <;> simp [h]
theorem Az (s k : Nat) : (FY s k).length ≤ k := by
 have := List.length_filter_le (fun i => s.testBit i) (List.range k)
 simpa [FY] using this
theorem lM (s k : Nat) : ((s / 2 ^ k) &&& 1 == 1) = s.testBit k := by
 rw [Nat.testBit_eq_decide_div_mod_eq, Nat.and_one_is_mod]
 rw [Bool.eq_iff_iff]; simp
end Go.Proofs.YtmohibkomlhlaaaGreatDoor
