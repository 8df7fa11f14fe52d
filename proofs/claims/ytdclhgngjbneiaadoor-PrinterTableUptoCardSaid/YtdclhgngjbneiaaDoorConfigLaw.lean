/- The walk of the law PrinterConfig, and its argument opened: for every deployment and every number the law returns true. -/
import Derived.Test.YtdclhgngjbneiaaDoorConfigRef
import Derived.Test.YtdclhgngjbneiaaDoorOpen
import Derived.Deep.Fields
namespace Go.Proofs.YtdclhgngjbneiaaDoor
open Go.RowKit

theorem Cfg.ok_more {w w' : World} {x : Cfg} (h : x.ok w w.heap.size) (hb : Below w.heap.size w w') : x.ok w' w'.heap.size := by
  have h' := Cfg.ok_below h hb (Nat.le_refl _)
  exact ⟨h'.1, ⟨h'.2.1.1, h'.2.1.2.1.mono hb.size, h'.2.1.2.2⟩, ⟨h'.2.2.1.1, h'.2.2.1.2.1.mono hb.size, h'.2.2.1.2.2⟩, ⟨h'.2.2.2.1, h'.2.2.2.2.1.mono hb.size, h'.2.2.2.2.2⟩⟩
theorem tot_of_few (ss : List ByteArray) (h : ∀ i, i < ss.length → (ss.getD i ByteArray.empty).size ≤ 100) : tot ss ≤ 100 * ss.length := by
  induction ss with
  | nil => simp [tot]
  | cons x r ih =>
    have h0 := h 0 (by simp)
    have h1 := ih (fun i hi => by have := h (i + 1) (by simpa using hi); simpa using this)
    have e : tot (x :: r) = x.data.toList.length + tot r := by simp [tot]
    rw [e, size_data, List.length_cons]
    simp at h0
    omega

set_option maxHeartbeats 4000000 in
set_option maxRecDepth 100000 in
theorem config_law (A A1 A2 A3 A4 : Option Addr) (n c n1 c1 n2 c2 n3 c3 n4 c4 : Nat) (wit : Int) (ss : List ByteArray) (cfgs : List Cfg) (clis : List Cli) (i : Int) (w : World) (ht : Tz w)
    (hn : n = ss.length) (hsee : Sees w w.heap.size 1 A n (strVals ss)) (hn2 : n2 = cfgs.length) (hsee2 : Sees w w.heap.size 6 A2 n2 (cfgVals cfgs)) (hn4 : n4 = clis.length) (hsee4 : Sees w w.heap.size 3 A4 n4 (cliVals clis))
    (hl : n ≤ 9223372036854775807) (hl2 : n2 ≤ 9223372036854775807) (hl4 : n4 ≤ 9223372036854775807) (hcfg : ∀ x ∈ cfgs, x.ok w w.heap.size) :
    Calls Tryd.prog 7 #[.agg #[.slice A n c, .slice A1 n1 c1, .int .u16 wit, .slice A2 n2 c2, .slice A3 n3 c3, .slice A4 n4 c4], .int .i64 i] w fun e w' => e = .returned (.bool true) ∧ Below w.heap.size w w' := by
  have HN := Lib.hid hn
  have HN2 := Lib.hid hn2
  have HN4 := Lib.hid hn4
  have HC := Lib.hid hcfg
  clear hn hn2 hn4 hcfg
  go_enter Tryd.func7, Tryd.ntmps7
  go_wp2_with fail
  obtain ⟨W, hW⟩ : ∃ W, W = w.alloc (.cells #[.slice A n c, .slice A1 n1 c1, .int .u16 wit, .slice A2 n2 c2, .slice A3 n3 c3, .slice A4 n4 c4] 33) := ⟨_, rfl⟩
  have hWs : w.heap.size < W.heap.size := by rw [hW]; simp
  have hbW : Below w.heap.size w W := by rw [hW]; exact (Below.refl _ _).alloc (Nat.le_refl _) _
  have bx := fun (W' : World) (hb : Below W.heap.size W W') => box6 A A1 A2 A3 A4 n c n1 c1 n2 c2 n3 c3 n4 c4 wit (w := w) (wr := W') (by rw [← hW]; exact hb) hWs
  rw [← hW]
  have BX := Lib.hid bx
  clear bx hW
  refine (awake_any W (ht.below hbW (Nat.le_refl _))).mono ?_
  rintro e w1 ⟨rfl, hb1⟩
  have hbw1 := hbW.trans (hb1.mono hbW.size)
  obtain ⟨b0, b1, b2, b3, b4, b5⟩ := BX.out w1 hb1
  go_wp2_with fail
  refine (few_any _ _ _ _ _ _ _ _ _ _ _ _ _ _ _ _ ss cfgs clis w1 HN.out ((hsee.below hbw1 (Nat.le_refl _)).mono hbw1.size) HN2.out ((hsee2.below hbw1 (Nat.le_refl _)).mono hbw1.size) HN4.out ((hsee4.below hbw1 (Nat.le_refl _)).mono hbw1.size) hl hl2 hl4).mono ?_
  rintro e w2 ⟨b, rfl, hb2, hfew⟩
  have hb2 : Below W.heap.size W w2 := hb1.trans (hb2.mono hb1.size)
  have hbw2 := hbW.trans (hb2.mono hbW.size)
  have HFEW := Lib.hid hfew
  clear hfew b0 b1 b2 b3 b4 b5
  cases b
  · go_wp2_with fail
    refine (awake_any w2 (ht.below hbw2 (Nat.le_refl _))).mono ?_
    rintro e w3 ⟨rfl, hb3⟩
    go_wp2
    go_ret
    exact ⟨rfl, hbw2.trans (hb3.mono hbw2.size)⟩
  · obtain ⟨f1, f2, f3⟩ := HFEW.out rfl
    have ftot := tot_of_few ss f2
    have hn20 : n ≤ 20 := by rw [HN.out]; exact f1
    have htot : tot ss ≤ 2000 := by omega
    have hcs : ∀ W' : World, Below w.heap.size w W' → ∀ x ∈ cfgs, x.ok W' W'.heap.size ∧ x.small := fun W' hb x hx => ⟨Cfg.ok_more (HC.out x hx) hb, f3 x hx⟩
    have HCS := Lib.hid hcs
    clear f1 f2 f3 ftot hcs HFEW
    obtain ⟨b0, b1, b2, b3, b4, b5⟩ := BX.out w2 hb2
    go_wp2_with fail
    refine (config_any _ _ _ _ _ _ _ _ _ _ _ _ _ _ _ _ ss cfgs i w2 (ht.below hbw2 (Nat.le_refl _)) HN.out ((hsee.below hbw2 (Nat.le_refl _)).mono hbw2.size) hn20 htot HN2.out hl2 ((hsee2.below hbw2 (Nat.le_refl _)).mono hbw2.size) (HCS.out w2 hbw2)).mono ?_
    rintro e w3 ⟨rfl, hb3⟩
    have hb3 : Below W.heap.size W w3 := hb2.trans (hb3.mono hb2.size)
    have hbw3 := hbW.trans (hb3.mono hbW.size)
    clear b0 b1 b2 b3 b4 b5
    obtain ⟨b0, b1, b2, b3, b4, b5⟩ := BX.out w3 hb3
    obtain ⟨T, hT⟩ : ∃ T, T = cfgS ss cfgs i := ⟨_, rfl⟩
    obtain ⟨E, hE⟩ : ∃ E, E = cfgE ss cfgs i := ⟨_, rfl⟩
    rw [← hT, ← hE]
    have HT := Lib.hid hT
    have HE := Lib.hid hE
    clear hT hE
    go_wp2_with fail
    refine (ref_config_any _ _ _ _ _ _ _ _ _ _ _ _ _ _ _ _ ss cfgs i w3 HN.out ((hsee.below hbw3 (Nat.le_refl _)).mono hbw3.size) hn20 htot HN2.out hl2 ((hsee2.below hbw3 (Nat.le_refl _)).mono hbw3.size) (HCS.out w3 hbw3)).mono ?_
    rintro e w4 ⟨rfl, hb4⟩
    have hb4 : Below W.heap.size W w4 := hb3.trans (hb4.mono hb3.size)
    clear b0 b1 b2 b3 b4 b5
    rw [← HT.out, ← HE.out]
    go_wp2
    go_ret
    exact ⟨rfl, hbW.trans (hb4.mono hbW.size)⟩

section
open Go.ChangeShapes Go.WideShapes Go.ChangeAt
variable {H : Type} {enc : TypeId × Value → H} {W : World}

theorem list_of {α : Type} (P : Nat → α → Prop) : ∀ n, (∀ i, i < n → ∃ x, P i x) → ∃ l : List α, l.length = n ∧ ∀ i x, l[i]? = some x → P i x := by
  intro n
  induction n with
  | zero => intro _; exact ⟨[], rfl, fun i x h => by simp at h⟩
  | succ n ih =>
    intro h
    obtain ⟨l, hl, hp⟩ := ih (fun i hi => h i (by omega))
    obtain ⟨x, hx⟩ := h n (by omega)
    refine ⟨l ++ [x], by simp [hl], fun i y hy => ?_⟩
    by_cases hi : i < l.length
    · rw [List.getElem?_append_left hi] at hy; exact hp i y hy
    · rw [List.getElem?_append_right (by omega)] at hy
      have : i - l.length = 0 := by
        rcases Nat.eq_zero_or_pos (i - l.length) with e | e
        · exact e
        · rw [List.getElem?_eq_none (by simp; omega)] at hy; cases hy
      rw [this] at hy
      simp only [List.getElem?_cons_zero, Option.some.injEq] at hy
      subst hy
      rw [show i = n by omega]; exact hx

/-- A slice of structs of one-cell fields: the cells of each field, with its reading. -/
theorem open_structs {t e : TypeId} {fs : Array Field} {base fuel : Nat} {sp : Nat → Bool} {held : Bool} {v : Value} {x : DataW H × List MemPlace} (ht : Tryd.prog.underlying t = some (.slice e)) (he : Tryd.prog.underlying e = some (.struct fs))
    (hone : Go.Deep.oneCellFields Tryd.prog fs = true) (hC : Tryd.prog.cellsOf e = fs.size) (h : DataW.trod enc Tryd.prog W base sp held fuel t [v] = some x) :
    v = .slice none 0 0 ∨ ∃ (a : Addr) (len cap N : Nat), v = .slice (some a) len cap ∧ len ≤ cap ∧ cap ≤ maxLen ∧
      ∀ i, i < len → ∀ (j : Nat) (f : Field), fs[j]? = some f → ∃ (u : Value) (y : DataW H × List MemPlace), W.cell? (a.add (i * fs.size + j)) = some u ∧ DataW.trod enc Tryd.prog W base sp held N f.type [u] = some y := by
  rcases Go.Deep.open_slice ht h with ⟨h0, _⟩ | ⟨a, len, cap, m, N, D, Pl, hcs, _, hl, hm, hmm, _, hi⟩
  · left; simpa using h0
  · right
    have hlm : len ≤ m := by rw [hmm]; split <;> omega
    simp only [List.cons.injEq, and_true] at hcs
    have key : ∃ N', ∀ i, i < len → ∀ (j : Nat) (f : Field), fs[j]? = some f → ∃ (u : Value) (y : DataW H × List MemPlace), W.cell? (a.add (i * fs.size + j)) = some u ∧ DataW.trod enc Tryd.prog W base sp held N' f.type [u] = some y := by
      refine ⟨N - 1, fun i hil j f hj => ?_⟩
      obtain ⟨cs', hc, ht'⟩ := hi i (by omega)
      rw [hC] at hc
      obtain ⟨ys, n', hn', _, hlen, hyl, hf⟩ := DataW.trod_struct he ht'
      obtain ⟨_, hcl, hat⟩ := World.cells?_some hc
      obtain ⟨ho, hk⟩ := Go.Deep.hone_of hone j f hj
      have hjl : j < fs.size := (Array.getElem?_eq_some_iff.1 hj).1
      have h1 := hf j f hj
      rw [ho, hk, List.drop_eq_getElem_cons (by omega)] at h1
      have hj2 : ys[j]? = some (ys[j]'(by omega)) := List.getElem?_eq_getElem (by omega)
      refine ⟨cs'[j]'(by omega), ys[j]'(by omega), ?_, ?_⟩
      · rw [← Go.Deep.add_add, hat j hjl, List.getElem?_eq_getElem (by omega)]
      · rw [← hj2, ← h1, show N - 1 = n' by omega]; rfl
    obtain ⟨N', hN'⟩ := key
    exact ⟨a, len, cap, N', hcs, hl, hm, hN'⟩

set_option maxRecDepth 100000 in
theorem setsT {base fuel : Nat} {held : Bool} {v : Value} {x : DataW H × List MemPlace} (hf : DataW.trod enc Tryd.prog W base (fun _ => true) held fuel 25 [v] = some x) :
    ∃ (A : Option Addr) (n c : Nat) (fs : List Nat), v = .slice A n c ∧ n = fs.length ∧ Sees W W.heap.size 1 A n (setVals fs) ∧ (∀ j, j < fs.length → fs.getD j 0 < 65536) := by
  rcases open_ints Tryd.underlying25 Tryd.underlying24 cellsSet hf with ⟨hcs, hx⟩ | ⟨a, len, cap, zs, hcs, _, hl, hm, hz, hx, hcell, hws⟩
  · simp only [List.cons.injEq, and_true] at hcs
    exact ⟨none, 0, 0, [], hcs, rfl, Sees.empty _ _ _ _, by simp⟩
  · simp only [List.cons.injEq, and_true] at hcs
    simp only [if_true] at hz
    have hnat : ∀ z ∈ zs, ((z.toNat : Nat) : Int) = z ∧ z.toNat < 65536 := fun z hz => by
      obtain ⟨s, hs, rfl⟩ := u16_of (hws z hz)
      exact ⟨by simp, by simpa using hs⟩
    refine ⟨some a, len, cap, (zs.take len).map Int.toNat, hcs, by simp; omega, sees_of (by simp [setVals]; omega) (by decide) fun j u hu => ?_, fun j hj => ?_⟩
    · have hj : j < len := by
        have := (List.getElem?_eq_some_iff.1 hu).1
        simp [setVals] at this; omega
      have hjs : j < zs.length := by omega
      rw [hcell j hjs]
      simp only [setVals, List.getElem?_map, List.getElem?_take, if_pos hj, List.getElem?_eq_getElem hjs, Option.map_some, Option.some.injEq] at hu
      rw [List.getD_eq_getElem?_getD, List.getElem?_eq_getElem hjs, ← hu, (hnat _ (List.getElem_mem hjs)).1]
      rfl
    · have hj' : j < len := by simp at hj; omega
      have hjs : j < zs.length := by omega
      rw [List.getD_eq_getElem?_getD, List.getElem?_map, List.getElem?_take, if_pos hj', List.getElem?_eq_getElem hjs]
      exact (hnat _ (List.getElem_mem hjs)).2

set_option maxRecDepth 100000 in
theorem faultsT {base fuel : Nat} {held : Bool} {v : Value} {x : DataW H × List MemPlace} (hf : DataW.trod enc Tryd.prog W base (fun _ => true) held fuel 39 [v] = some x) :
    ∃ (A : Option Addr) (n c : Nat) (fs : List (Nat × Nat)), v = .slice A n c ∧ n = fs.length ∧ Sees W W.heap.size 2 A n (faultVals fs) ∧ (∀ j, j < fs.length → (fs.getD j (0, 0)).1 < 65536 ∧ (fs.getD j (0, 0)).2 < 65536) := by
  rcases open_structs Tryd.underlying39 Tryd.underlying57 (by kernel_rfl) cellsFault hf with rfl | ⟨a, len, cap, N, rfl, hl, hm, hi⟩
  · exact ⟨none, 0, 0, [], rfl, rfl, Sees.empty _ _ _ _, by simp⟩
  · obtain ⟨l, hlen, hp⟩ := list_of (fun i (p : Nat × Nat) => p.1 < 65536 ∧ p.2 < 65536 ∧ W.cell? (a.add (i * 2 + 0)) = some (.int .u16 (p.1 : Nat)) ∧ W.cell? (a.add (i * 2 + 1)) = some (.int .u16 (p.2 : Nat))) len (by
      intro i hil
      obtain ⟨u0, y0, c0, t0⟩ := hi i hil 0 _ rfl
      obtain ⟨u1, y1, c1, t1⟩ := hi i hil 1 _ rfl
      obtain ⟨k0, e0, _, w0⟩ := DataW.trod_int Tryd.underlying24 t0
      obtain ⟨k1, e1, _, w1⟩ := DataW.trod_int Tryd.underlying24 t1
      obtain ⟨s, hs, rfl⟩ := u16_of w0
      obtain ⟨t, ht, rfl⟩ := u16_of w1
      simp only [List.cons.injEq, and_true] at e0 e1
      subst e0 e1
      exact ⟨(s, t), hs, ht, c0, c1⟩)
    have hget : ∀ i, i < l.length → ∃ p, l[i]? = some p ∧ l.getD i (0, 0) = p := fun i h => ⟨l[i], List.getElem?_eq_getElem h, by simp [h]⟩
    refine ⟨some a, len, cap, l, rfl, hlen.symm, sees_of (by rw [faultVals_length, hlen]) (by decide) fun j u hu => ?_, fun j hj => ?_⟩
    · have hj : j < l.length * 2 := by have := (List.getElem?_eq_some_iff.1 hu).1; rw [faultVals_length] at this; exact this
      obtain ⟨p, hp1, hp2⟩ := hget (j / 2) (by omega)
      have hh := hp _ _ hp1
      have hg := faultVals_get l (j / 2) (by omega)
      rw [hp2] at hg
      rcases Nat.mod_two_eq_zero_or_one j with e | e
      · rw [show j / 2 * 2 = j by omega] at hg hh
        rw [hg.1] at hu; rw [← hu]; exact hh.2.2.1
      · rw [show j / 2 * 2 + 1 = j by omega] at hg hh
        rw [hg.2] at hu; rw [← hu]; exact hh.2.2.2
    · obtain ⟨p, hp1, hp2⟩ := hget j hj
      rw [hp2]; exact ⟨(hp _ _ hp1).1, (hp _ _ hp1).2.1⟩

theorem cellsCfg : Tryd.prog.cellsOf 63 = 6 := by kernel_rfl
theorem cellsCli : Tryd.prog.cellsOf 65 = 3 := by kernel_rfl
set_option maxRecDepth 100000 in
/-- The configurations. -/
theorem cfgsT {base fuel : Nat} {held : Bool} {v : Value} {x : DataW H × List MemPlace} (hf : DataW.trod enc Tryd.prog W base (fun _ => true) held fuel 29 [v] = some x) :
    ∃ (A : Option Addr) (n c : Nat) (l : List Cfg), v = .slice A n c ∧ n = l.length ∧ n ≤ maxLen ∧ Sees W W.heap.size 6 A n (cfgVals l) ∧ ∀ y ∈ l, y.ok W W.heap.size := by
  rcases open_structs Tryd.underlying29 Tryd.underlying63 (by kernel_rfl) cellsCfg hf with rfl | ⟨a, len, cap, N, rfl, hl, hm, hi⟩
  · exact ⟨none, 0, 0, [], rfl, rfl, Nat.zero_le _, Sees.empty _ _ _ _, by simp⟩
  · obtain ⟨l, hlen, hp⟩ := list_of (fun i (y : Cfg) => y.ok W W.heap.size ∧ ∀ j u, y.vals[j]? = some u → W.cell? (a.add (i * 6 + j)) = some u) len (by
      intro i hil
      obtain ⟨u0, y0, c0, t0⟩ := hi i hil 0 _ rfl
      obtain ⟨u1, y1, c1, t1⟩ := hi i hil 1 _ rfl
      obtain ⟨u2, y2, c2, t2⟩ := hi i hil 2 _ rfl
      obtain ⟨u3, y3, c3, t3⟩ := hi i hil 3 _ rfl
      obtain ⟨u4, y4, c4, t4⟩ := hi i hil 4 _ rfl
      obtain ⟨u5, y5, c5, t5⟩ := hi i hil 5 _ rfl
      obtain ⟨nm, e0, _, _⟩ := DataW.trod_string Tryd.underlying9 t0
      obtain ⟨kd, e1, _, _⟩ := DataW.trod_int Tryd.underlying3 t1
      obtain ⟨k2, e2, _, w2⟩ := DataW.trod_int Tryd.underlying24 t2
      obtain ⟨mb, hmb, rfl⟩ := u16_of w2
      obtain ⟨rA, rn, rc, rd, rfl, r1, r2, r3⟩ := setsT t3
      obtain ⟨wA, wn, wc, wt, rfl, w1, w2', w3⟩ := setsT t4
      obtain ⟨fA, fn, fc, ft, rfl, f1, f2, f3⟩ := faultsT t5
      simp only [List.cons.injEq, and_true] at e0 e1 e2
      subst e0 e1 e2
      refine ⟨⟨nm, kd, mb, rA, rn, rc, rd, wA, wn, wc, wt, fA, fn, fc, ft⟩, ⟨hmb, ⟨r1, r2, r3⟩, ⟨w1, w2', w3⟩, ⟨f1, f2, f3⟩⟩, fun j u hu => ?_⟩
      match j, hu with
      | 0, hu => simp [Cfg.vals] at hu; rw [← hu]; exact c0
      | 1, hu => simp [Cfg.vals] at hu; rw [← hu]; exact c1
      | 2, hu => simp [Cfg.vals] at hu; rw [← hu]; exact c2
      | 3, hu => simp [Cfg.vals] at hu; rw [← hu]; exact c3
      | 4, hu => simp [Cfg.vals] at hu; rw [← hu]; exact c4
      | 5, hu => simp [Cfg.vals] at hu; rw [← hu]; exact c5
      | j + 6, hu => simp [Cfg.vals] at hu)
    refine ⟨some a, len, cap, l, rfl, hlen.symm, Nat.le_trans hl hm, sees_of (by rw [cfgVals, flat_length Cfg.vals 6 (fun _ => rfl), hlen]) (by decide) fun j u hu => ?_, fun y hy => ?_⟩
    · have hj : j < l.length * 6 := by
        have := (List.getElem?_eq_some_iff.1 hu).1
        rw [cfgVals, flat_length Cfg.vals 6 (fun _ => rfl)] at this; exact this
      have hi6 : j / 6 < l.length := by omega
      have hy := List.getElem?_eq_getElem hi6
      have hg := flat_get Cfg.vals 6 (fun _ => rfl) l (j / 6) (j % 6) _ hy (by omega)
      rw [show j / 6 * 6 + j % 6 = j by omega] at hg
      have := (hp _ _ hy).2 (j % 6) u (hg.symm.trans hu)
      rw [show j / 6 * 6 + j % 6 = j by omega] at this
      exact this
    · obtain ⟨i, hi', rfl⟩ := List.getElem_of_mem hy
      exact (hp i _ (List.getElem?_eq_getElem hi')).1
set_option maxRecDepth 100000 in
/-- The clients. -/
theorem clisT {base fuel : Nat} {held : Bool} {v : Value} {x : DataW H × List MemPlace} (hf : DataW.trod enc Tryd.prog W base (fun _ => true) held fuel 31 [v] = some x) :
    ∃ (A : Option Addr) (n c : Nat) (l : List Cli), v = .slice A n c ∧ n = l.length ∧ n ≤ maxLen ∧ Sees W W.heap.size 3 A n (cliVals l) := by
  rcases open_structs Tryd.underlying31 Tryd.underlying65 (by kernel_rfl) cellsCli hf with rfl | ⟨a, len, cap, N, rfl, hl, hm, hi⟩
  · exact ⟨none, 0, 0, [], rfl, rfl, Nat.zero_le _, Sees.empty _ _ _ _⟩
  · obtain ⟨l, hlen, hp⟩ := list_of (fun i (y : Cli) => ∀ j u, y.vals[j]? = some u → W.cell? (a.add (i * 3 + j)) = some u) len (by
      intro i hil
      obtain ⟨u0, y0, c0, t0⟩ := hi i hil 0 _ rfl
      obtain ⟨u1, y1, c1, t1⟩ := hi i hil 1 _ rfl
      obtain ⟨u2, y2, c2, t2⟩ := hi i hil 2 _ rfl
      obtain ⟨nm, e0, _, _⟩ := DataW.trod_string Tryd.underlying9 t0
      obtain ⟨pl, e1, _⟩ := DataW.trod_bool Tryd.underlying4 t1
      obtain ⟨fA, fn, fc, ft, rfl, _, _, _⟩ := faultsT t2
      simp only [List.cons.injEq, and_true] at e0 e1
      subst e0 e1
      refine ⟨⟨nm, pl, fA, fn, fc⟩, fun j u hu => ?_⟩
      match j, hu with
      | 0, hu => simp [Cli.vals] at hu; rw [← hu]; exact c0
      | 1, hu => simp [Cli.vals] at hu; rw [← hu]; exact c1
      | 2, hu => simp [Cli.vals] at hu; rw [← hu]; exact c2
      | j + 3, hu => simp [Cli.vals] at hu)
    refine ⟨some a, len, cap, l, rfl, hlen.symm, Nat.le_trans hl hm, sees_of (by rw [cliVals, flat_length Cli.vals 3 (fun _ => rfl), hlen]) (by decide) fun j u hu => ?_⟩
    have hj : j < l.length * 3 := by
      have := (List.getElem?_eq_some_iff.1 hu).1
      rw [cliVals, flat_length Cli.vals 3 (fun _ => rfl)] at this; exact this
    have hi6 : j / 3 < l.length := by omega
    have hy := List.getElem?_eq_getElem hi6
    have hg := flat_get Cli.vals 3 (fun _ => rfl) l (j / 3) (j % 3) _ hy (by omega)
    rw [show j / 3 * 3 + j % 3 = j by omega] at hg
    have := hp _ _ hy (j % 3) u (hg.symm.trans hu)
    rw [show j / 3 * 3 + j % 3 = j by omega] at this
    exact this
theorem cellsDep : Tryd.prog.cellsOf 33 = 6 := by kernel_rfl
theorem six_of {l : List Value} (h : l.length = 6) : ∃ a b c d e f, l = [a, b, c, d, e, f] := by
  match l, h with
  | [a, b, c, d, e, f], _ => exact ⟨a, b, c, d, e, f, rfl⟩
theorem shapeT {t e : TypeId} {base fuel : Nat} {held : Bool} {v : Value} {x : DataW H × List MemPlace} (ht : Tryd.prog.underlying t = some (.slice e)) (hf : DataW.trod enc Tryd.prog W base (fun _ => true) held fuel t [v] = some x) : ∃ (A : Option Addr) (n c : Nat), v = .slice A n c := by
  rcases Go.Deep.open_slice ht hf with ⟨h0, _⟩ | ⟨a, len, cap, m, N, D, Pl, hcs, _⟩
  · exact ⟨none, 0, 0, by simpa using h0⟩
  · exact ⟨some a, len, cap, by simpa using hcs⟩
set_option maxRecDepth 100000 in
theorem namesT {base fuel : Nat} {held : Bool} {v : Value} {x : DataW H × List MemPlace} (hf : DataW.trod enc Tryd.prog W base (fun _ => true) held fuel 22 [v] = some x) :
    ∃ (A : Option Addr) (n c : Nat) (ss : List ByteArray), v = .slice A n c ∧ n = ss.length ∧ n ≤ maxLen ∧ Sees W W.heap.size 1 A n (strVals ss) := by
  rcases open_strings Tryd.underlying22 Tryd.underlying9 cells9 hf with ⟨hcs, hx⟩ | ⟨a, len, cap, ss, hcs, _, hl, hm, hz, hx, hcell, hws⟩
  · simp only [List.cons.injEq, and_true] at hcs
    exact ⟨none, 0, 0, [], hcs, rfl, Nat.zero_le _, Sees.empty _ _ _ _⟩
  · simp only [List.cons.injEq, and_true] at hcs
    simp only [if_true] at hz
    have hlen : (ss.take len).length = len := by rw [List.length_take]; omega
    refine ⟨some a, len, cap, ss.take len, hcs, hlen.symm, Nat.le_trans hl hm, sees_of (by simp [strVals]; omega) (by decide) fun j u hu => ?_⟩
    have hj : j < len := by
      have := (List.getElem?_eq_some_iff.1 hu).1
      simp [strVals] at this; omega
    have hjs : j < ss.length := by omega
    rw [hcell j hjs]
    simp only [strVals, List.getElem?_map, List.getElem?_take, if_pos hj, List.getElem?_eq_getElem hjs] at hu
    rw [List.getD_eq_getElem?_getD, List.getElem?_eq_getElem hjs]
    simpa using hu
set_option maxRecDepth 100000 in
/-- A deployment. -/
theorem open_dep {b0 : Nat} {v : Value} {d : DataW H} {p : List MemPlace} (hv : Value.okWide Tryd.prog W .any b0 33 v) (h : DataW.Trod enc Tryd.prog W 0 (fun _ => true) true 33 v d p) :
    ∃ (A A1 A2 A3 A4 : Option Addr) (n c n1 c1 n2 c2 n3 c3 n4 c4 : Nat) (wit : Int) (ss : List ByteArray) (cfgs : List Cfg) (clis : List Cli), v = .agg #[.slice A n c, .slice A1 n1 c1, .int .u16 wit, .slice A2 n2 c2, .slice A3 n3 c3, .slice A4 n4 c4] ∧ (n = ss.length ∧ n ≤ maxLen ∧ Sees W W.heap.size 1 A n (strVals ss)) ∧
      (n2 = cfgs.length ∧ n2 ≤ maxLen ∧ Sees W W.heap.size 6 A2 n2 (cfgVals cfgs) ∧ ∀ y ∈ cfgs, y.ok W W.heap.size) ∧ (n4 = clis.length ∧ n4 ≤ maxLen ∧ Sees W W.heap.size 3 A4 n4 (cliVals clis)) := by
  obtain ⟨cs, rfl, hsz⟩ := okWide_struct Tryd.underlying33 hv
  obtain ⟨fuel, hf⟩ := h
  obtain ⟨xs, m, _, _, _, hlen, hg⟩ := DataW.trod_struct Tryd.underlying33 hf
  obtain ⟨l⟩ := cs
  obtain ⟨a, b, c', d', e, f, rfl⟩ := six_of (l := l) (by rw [cellsDep] at hsz; simpa using hsz)
  have g0 := hg 0 _ rfl
  have g1 := hg 1 _ rfl
  have g2 := hg 2 _ rfl
  have g3 := hg 3 _ rfl
  have g4 := hg 4 _ rfl
  have g5 := hg 5 _ rfl
  have ex : ∀ j, j < 6 → ∃ y, xs[j]? = some y := fun j hj => ⟨_, List.getElem?_eq_getElem (by rw [hlen]; exact hj)⟩
  obtain ⟨y0, e0⟩ := ex 0 (by decide)
  obtain ⟨y1, e1⟩ := ex 1 (by decide)
  obtain ⟨y2, e2⟩ := ex 2 (by decide)
  obtain ⟨y3, e3⟩ := ex 3 (by decide)
  obtain ⟨y4, e4⟩ := ex 4 (by decide)
  obtain ⟨y5, e5⟩ := ex 5 (by decide)
  have k0 : DataW.trod enc Tryd.prog W 0 (fun _ => true) true m 22 [a] = some y0 := g0.trans e0
  have k1 : DataW.trod enc Tryd.prog W 0 (fun _ => true) true m 28 [b] = some y1 := g1.trans e1
  have k2 : DataW.trod enc Tryd.prog W 0 (fun _ => true) true m 24 [c'] = some y2 := g2.trans e2
  have k3 : DataW.trod enc Tryd.prog W 0 (fun _ => true) true m 29 [d'] = some y3 := g3.trans e3
  have k4 : DataW.trod enc Tryd.prog W 0 (fun _ => true) true m 30 [e] = some y4 := g4.trans e4
  have k5 : DataW.trod enc Tryd.prog W 0 (fun _ => true) true m 31 [f] = some y5 := g5.trans e5
  obtain ⟨A, n, c, ss, rfl, h1, h2, h3⟩ := namesT k0
  obtain ⟨A1, n1, c1, rfl⟩ := shapeT Tryd.underlying28 k1
  obtain ⟨wit, ew, _, _⟩ := DataW.trod_int Tryd.underlying24 k2
  obtain ⟨A2, n2, c2, cfgs, rfl, h4, h5, h6, h7⟩ := cfgsT k3
  obtain ⟨A3, n3, c3, rfl⟩ := shapeT Tryd.underlying30 k4
  obtain ⟨A4, n4, c4, clis, rfl, h8, h9, h10⟩ := clisT k5
  simp only [List.cons.injEq, and_true] at ew
  subst ew
  exact ⟨A, A1, A2, A3, A4, n, c, n1, c1, n2, c2, n3, c3, n4, c4, wit, ss, cfgs, clis, rfl, ⟨h1, h2, h3⟩, ⟨h4, h5, h6, h7⟩, ⟨h8, h9, h10⟩⟩
end
end Go.Proofs.YtdclhgngjbneiaaDoor
