/- The contract of the reference's Few: whether a deployment is small, and the bounds that follow. -/
import Derived.Test.YtdclhgngjbneiaaDoorAwake
namespace Go.Proofs.YtdclhgngjbneiaaDoor
open Go.RowKit

/-- A configuration, with the addresses of its slices. -/
structure Cfg where
  name : ByteArray
  kind : Int
  members : Nat
  rA : Option Addr
  rn : Nat
  rc : Nat
  read : List Nat
  wA : Option Addr
  wn : Nat
  wc : Nat
  write : List Nat
  fA : Option Addr
  fn : Nat
  fc : Nat
  faults : List (Nat × Nat)
def Cfg.vals (x : Cfg) : List Value := [.string x.name, .int .i64 x.kind, .int .u16 (x.members : Nat), .slice x.rA x.rn x.rc, .slice x.wA x.wn x.wc, .slice x.fA x.fn x.fc]
def Cfg.ok (w : World) (B : Nat) (x : Cfg) : Prop :=
  x.members < 65536 ∧ (x.rn = x.read.length ∧ Sees w B 1 x.rA x.rn (setVals x.read) ∧ ∀ j, j < x.read.length → x.read.getD j 0 < 65536) ∧ (x.wn = x.write.length ∧ Sees w B 1 x.wA x.wn (setVals x.write) ∧ ∀ j, j < x.write.length → x.write.getD j 0 < 65536) ∧
    (x.fn = x.faults.length ∧ Sees w B 2 x.fA x.fn (faultVals x.faults) ∧ ∀ j, j < x.faults.length → (x.faults.getD j (0, 0)).1 < 65536 ∧ (x.faults.getD j (0, 0)).2 < 65536)
theorem Cfg.ok_below {w w' : World} {B B' : Nat} {x : Cfg} (h : x.ok w B) (hb : Below B' w w') (hB : B ≤ B') : x.ok w' B :=
  ⟨h.1, ⟨h.2.1.1, h.2.1.2.1.below hb hB, h.2.1.2.2⟩, ⟨h.2.2.1.1, h.2.2.1.2.1.below hb hB, h.2.2.1.2.2⟩, ⟨h.2.2.2.1, h.2.2.2.2.1.below hb hB, h.2.2.2.2.2⟩⟩
/-- The configuration is small. -/
def Cfg.small (x : Cfg) : Prop := x.rn ≤ 420 ∧ x.wn ≤ 420 ∧ x.fn ≤ 110 ∧ x.name.size ≤ 100
/-- A client: its name, whether it is plain, and its list of faults. -/
structure Cli where
  name : ByteArray
  plain : Bool
  fA : Option Addr
  fn : Nat
  fc : Nat
def Cli.vals (x : Cli) : List Value := [.string x.name, .bool x.plain, .slice x.fA x.fn x.fc]

def cfgVals (l : List Cfg) : List Value := l.flatMap Cfg.vals
def cliVals (l : List Cli) : List Value := l.flatMap Cli.vals
theorem flat_get {α : Type} (f : α → List Value) (s : Nat) (hf : ∀ x, (f x).length = s) (l : List α) : ∀ (i j : Nat) (x : α), l[i]? = some x → j < s → (l.flatMap f)[i * s + j]? = (f x)[j]? := by
  induction l with
  | nil => intro i j x h; simp at h
  | cons y r ih =>
    intro i j x h hj
    rw [List.flatMap_cons]
    cases i with
    | zero =>
      simp only [List.getElem?_cons_zero, Option.some.injEq] at h
      subst h
      rw [Nat.zero_mul, Nat.zero_add, List.getElem?_append_left (by rw [hf]; exact hj)]
    | succ i =>
      simp only [List.getElem?_cons_succ] at h
      rw [List.getElem?_append_right (by rw [hf, Nat.add_mul]; omega), hf, Nat.add_mul, show i * s + 1 * s + j - s = i * s + j by omega]
      exact ih i j x h hj
theorem flat_length {α : Type} (f : α → List Value) (s : Nat) (hf : ∀ x, (f x).length = s) (l : List α) : (l.flatMap f).length = l.length * s := by
  induction l with
  | nil => simp
  | cons y r ih => rw [List.flatMap_cons, List.length_append, hf, ih, List.length_cons, Nat.add_mul]; omega

/-- The cells of configuration k. -/
theorem cfg_cells {w : World} {B n : Nat} {A : Option Addr} {cfgs : List Cfg} (h : Sees w B 6 A n (cfgVals cfgs)) (k : Nat) (x : Cfg) (hx : cfgs[k]? = some x) (hk : k < n) : ∃ g o, A = some ⟨g, o, none⟩ ∧ g < B ∧
    w.cell? ⟨g, o + k * 6, none⟩ = some (.string x.name) ∧ w.cell? ⟨g, o + k * 6 + 1, none⟩ = some (.int .i64 x.kind) ∧ w.cell? ⟨g, o + k * 6 + 2, none⟩ = some (.int .u16 (x.members : Nat)) ∧
    w.cell? ⟨g, o + k * 6 + 3, none⟩ = some (.slice x.rA x.rn x.rc) ∧ w.cell? ⟨g, o + k * 6 + 4, none⟩ = some (.slice x.wA x.wn x.wc) ∧ w.cell? ⟨g, o + k * 6 + 5, none⟩ = some (.slice x.fA x.fn x.fc) := by
  obtain ⟨g, o, e, hg, hc⟩ := h.cells (by omega)
  have key : ∀ j u, j < 6 → x.vals[j]? = some u → w.cell? ⟨g, o + k * 6 + j, none⟩ = some u := by
    intro j u hj hu
    rw [Nat.add_assoc]
    exact hc _ _ ((flat_get Cfg.vals 6 (fun _ => rfl) cfgs k j x hx hj).trans hu)
  exact ⟨g, o, e, hg, key 0 _ (by decide) rfl, key 1 _ (by decide) rfl, key 2 _ (by decide) rfl, key 3 _ (by decide) rfl, key 4 _ (by decide) rfl, key 5 _ (by decide) rfl⟩
theorem cli_cells {w : World} {B n : Nat} {A : Option Addr} {clis : List Cli} (h : Sees w B 3 A n (cliVals clis)) (k : Nat) (x : Cli) (hx : clis[k]? = some x) (hk : k < n) : ∃ g o, A = some ⟨g, o, none⟩ ∧ g < B ∧
    w.cell? ⟨g, o + k * 3, none⟩ = some (.string x.name) ∧ w.cell? ⟨g, o + k * 3 + 2, none⟩ = some (.slice x.fA x.fn x.fc) := by
  obtain ⟨g, o, e, hg, hc⟩ := h.cells (by omega)
  have key : ∀ j u, j < 3 → x.vals[j]? = some u → w.cell? ⟨g, o + k * 3 + j, none⟩ = some u := by
    intro j u hj hu
    rw [Nat.add_assoc]
    exact hc _ _ ((flat_get Cli.vals 3 (fun _ => rfl) clis k j x hx hj).trans hu)
  exact ⟨g, o, e, hg, key 0 _ (by decide) rfl, key 2 _ (by decide) rfl⟩

theorem box6' (A A1 A2 A3 A4 : Option Addr) (n c n1 c1 n2 c2 n3 c3 n4 c4 : Nat) (wit : Int) {w wr : World} {B : Nat} (hb : Below B (w.alloc (.cells #[.slice A n c, .slice A1 n1 c1, .int .u16 wit, .slice A2 n2 c2, .slice A3 n3 c3, .slice A4 n4 c4] 33)) wr) (hB : w.heap.size < B) : wr.cell? ⟨w.heap.size, 0, none⟩ = some (.slice A n c) ∧ wr.cell? ⟨w.heap.size, 1, none⟩ = some (.slice A1 n1 c1) ∧ wr.cell? ⟨w.heap.size, 3, none⟩ = some (.slice A2 n2 c2) ∧ wr.cell? ⟨w.heap.size, 4, none⟩ = some (.slice A3 n3 c3) ∧ wr.cell? ⟨w.heap.size, 5, none⟩ = some (.slice A4 n4 c4) := by
  obtain ⟨b0, b1, b2, b3, b4, b5⟩ := box6 A A1 A2 A3 A4 n c n1 c1 n2 c2 n3 c3 n4 c4 wit hb hB
  exact ⟨b0, b1, b3, b4, b5⟩

/-- What Few says if it is true. -/
def FewTrue (ss : List ByteArray) (cfgs : List Cfg) : Prop := ss.length ≤ 20 ∧ (∀ i, i < ss.length → (ss.getD i ByteArray.empty).size ≤ 100) ∧ ∀ x ∈ cfgs, x.small
def FewPost (ss : List ByteArray) (cfgs : List Cfg) (w : World) (e : Ending) (w' : World) : Prop := ∃ b : Bool, e = .returned (.bool b) ∧ Below w.heap.size w w' ∧ (b = true → FewTrue ss cfgs)

set_option maxHeartbeats 8000000 in
set_option maxRecDepth 100000 in
theorem few_any (A A1 A2 A3 A4 : Option Addr) (n c n1 c1 n2 c2 n3 c3 n4 c4 : Nat) (wit : Int) (ss : List ByteArray) (cfgs : List Cfg) (clis : List Cli) (w : World)
    (hn : n = ss.length) (hsee : Sees w w.heap.size 1 A n (strVals ss)) (hn2 : n2 = cfgs.length) (hsee2 : Sees w w.heap.size 6 A2 n2 (cfgVals cfgs)) (hn4 : n4 = clis.length) (hsee4 : Sees w w.heap.size 3 A4 n4 (cliVals clis))
    (hl : n ≤ 9223372036854775807) (hl2 : n2 ≤ 9223372036854775807) (hl4 : n4 ≤ 9223372036854775807) :
    Calls Tryd.prog 19 #[.agg #[.slice A n c, .slice A1 n1 c1, .int .u16 wit, .slice A2 n2 c2, .slice A3 n3 c3, .slice A4 n4 c4]] w (FewPost ss cfgs w) := by
  have HN := Lib.hid hn
  have HN2 := Lib.hid hn2
  have HN4 := Lib.hid hn4
  clear hn hn2 hn4
  go_enter Tryd.func19, Tryd.ntmps19
  go_wp2
  obtain ⟨W, hW⟩ : ∃ W, W = w.alloc (.cells #[.slice A n c, .slice A1 n1 c1, .int .u16 wit, .slice A2 n2 c2, .slice A3 n3 c3, .slice A4 n4 c4] 33) := ⟨_, rfl⟩
  have hWs : w.heap.size < W.heap.size := by rw [hW]; simp
  have hbW : Below w.heap.size w W := by rw [hW]; exact (Below.refl _ _).alloc (Nat.le_refl _) _
  have bx := fun (W' : World) (hb : Below W.heap.size W W') => box6' A A1 A2 A3 A4 n c n1 c1 n2 c2 n3 c3 n4 c4 wit (w := w) (wr := W') (by rw [← hW]; exact hb) hWs
  rw [← hW]
  have BX := Lib.hid bx
  clear bx hW
  go_loopw [3] (fun x wr => ∃ k : Nat, k ≤ n2 ∧ x = .int .i64 k ∧ Below W.heap.size W wr ∧ ∀ j y, j < k → cfgs[j]? = some y → y.small) (fun x _ => n2 - (intOf x).toNat)
  case atStart => exact ⟨0, Nat.zero_le _, rfl, Below.refl _ _, fun j y hj => absurd hj (by omega)⟩
  case round =>
    obtain ⟨k, hk, rfl, hb, hall⟩ := hrel
    have HA := Lib.hid hall
    clear hall
    have hsz := hb.size
    obtain ⟨b0, b1, b3, b4, b5⟩ := BX.out wr hb
    have hbw : Below w.heap.size w wr := hbW.trans (hb.mono hbW.size)
    by_cases hlt : k < n2
    · have hkc : k < cfgs.length := by rw [← HN2.out]; exact hlt
      obtain ⟨x, hx⟩ : ∃ x, cfgs[k]? = some x := ⟨_, List.getElem?_eq_getElem hkc⟩
      obtain ⟨g, o, rfl, hg, k0, k1, k2, k3, k4, k5⟩ := cfg_cells (hsee2.below hbw (Nat.le_refl _)) k x hx hlt
      have HX := Lib.hid hx
      clear hx hkc
      obtain ⟨nm, kd, mb, rA, rn, rc, rd, wA, wn, wc, wt, fA, fn, fc, ft⟩ := x
      simp only at k0 k1 k2 k3 k4 k5
      by_cases h1 : 420 < rn
      · have h1I : (420 : Int) < (rn : Int) := by omega
        go_wp2
        go_ret
        exact ⟨false, rfl, hbw.alloc hbw.size _, fun h => by cases h⟩
      by_cases h2 : 420 < wn
      · have h1I : ¬ (420 : Int) < (rn : Int) := by omega
        have h2I : (420 : Int) < (wn : Int) := by omega
        go_wp2
        go_ret
        exact ⟨false, rfl, hbw.alloc hbw.size _, fun h => by cases h⟩
      by_cases h3 : 110 < fn
      · have h1I : ¬ (420 : Int) < (rn : Int) := by omega
        have h2I : ¬ (420 : Int) < (wn : Int) := by omega
        have h3I : (110 : Int) < (fn : Int) := by omega
        go_wp2
        go_ret
        exact ⟨false, rfl, hbw.alloc hbw.size _, fun h => by cases h⟩
      by_cases h4 : 100 < nm.size
      · have h1I : ¬ (420 : Int) < (rn : Int) := by omega
        have h2I : ¬ (420 : Int) < (wn : Int) := by omega
        have h3I : ¬ (110 : Int) < (fn : Int) := by omega
        have h4I : (100 : Int) < (nm.size : Int) := by omega
        go_wp2
        go_ret
        exact ⟨false, rfl, hbw.alloc hbw.size _, fun h => by cases h⟩
      · have h1I : ¬ (420 : Int) < (rn : Int) := by omega
        have h2I : ¬ (420 : Int) < (wn : Int) := by omega
        have h3I : ¬ (110 : Int) < (fn : Int) := by omega
        have h4I : ¬ (100 : Int) < (nm.size : Int) := by omega
        go_wp2
        go_roundw
        case rel =>
          refine ⟨k + 1, by omega, by go_num, hb.alloc hsz _, ?_⟩
          intro j y hj hy
          by_cases e : j = k
          · subst e
            rw [HX.out] at hy
            obtain rfl := Option.some.inj hy
            exact ⟨by simp only; omega, by simp only; omega, by simp only; omega, by simp only; omega⟩
          · exact HA.out j y (by omega) hy
        case measure => simp [intOf]; omega
    · obtain rfl : k = n2 := by omega
      have hcf : ∀ x ∈ cfgs, x.small := by
        intro x hx
        obtain ⟨j, hj, rfl⟩ := List.getElem_of_mem hx
        exact HA.out j _ (by rw [HN2.out]; exact hj) (List.getElem?_eq_getElem hj)
      have HCF := Lib.hid hcf
      clear hcf HA
      obtain ⟨wo, rfl⟩ : ∃ wo : World, wo = wr := ⟨_, rfl⟩
      go_wp2
      go_loop [5] (fun x => ∃ i : Nat, i ≤ n ∧ x = .int .i64 i ∧ ∀ j, j < i → (ss.getD j ByteArray.empty).size ≤ 100) (fun x => n - (intOf x).toNat)
      case atStart => exact ⟨0, Nat.zero_le _, rfl, fun j hj => absurd hj (by omega)⟩
      case round =>
        obtain ⟨i, hi, rfl, hall⟩ := hrel
        have HA := Lib.hid hall
        clear hall
        by_cases hil : i < n
        · obtain ⟨g2, o2, rfl, hg2, hcell⟩ := (hsee.below hbw (Nat.le_refl _)).cells (by omega)
          have hci := hcell i _ (strVals_get ss i (by rw [← HN.out]; exact hil))
          clear hcell
          obtain ⟨s, hs⟩ : ∃ s, s = ss.getD i ByteArray.empty := ⟨_, rfl⟩
          rw [← hs] at hci
          have HS := Lib.hid hs
          clear hs
          by_cases h1 : 100 < s.size
          · have h1I : (100 : Int) < (s.size : Int) := by omega
            go_wp2
            go_ret
            exact ⟨false, rfl, hbw, fun h => by cases h⟩
          · have h1I : ¬ (100 : Int) < (s.size : Int) := by omega
            go_wp2
            go_round
            case rel =>
              refine ⟨i + 1, by omega, by go_num, fun j hj => ?_⟩
              by_cases e : j = i
              · subst e; rw [← HS.out]; omega
              · exact HA.out j (by omega)
            case measure => simp [intOf]; omega
        · obtain rfl : i = n := by omega
          go_wp2
          go_loop [6] (fun x => ∃ i : Nat, i ≤ n4 ∧ x = .int .i64 i) (fun x => n4 - (intOf x).toNat)
          case atStart => exact ⟨0, Nat.zero_le _, rfl⟩
          case round =>
            obtain ⟨q, hq, rfl⟩ := hrel
            by_cases hql : q < n4
            · have hkc : q < clis.length := by rw [← HN4.out]; exact hql
              obtain ⟨x, hx⟩ : ∃ x, clis[q]? = some x := ⟨_, List.getElem?_eq_getElem hkc⟩
              obtain ⟨g, o, rfl, hg, k0, k2⟩ := cli_cells (hsee4.below hbw (Nat.le_refl _)) q x hx hql
              clear hx hkc
              obtain ⟨nm, pl, fA, fn, fc⟩ := x
              simp only at k0 k2
              by_cases h1 : 110 < fn
              · have h1I : (110 : Int) < (fn : Int) := by omega
                go_wp2
                go_ret
                exact ⟨false, rfl, hbw, fun h => by cases h⟩
              by_cases h2 : 100 < nm.size
              · have h1I : ¬ (110 : Int) < (fn : Int) := by omega
                have h2I : (100 : Int) < (nm.size : Int) := by omega
                go_wp2
                go_ret
                exact ⟨false, rfl, hbw, fun h => by cases h⟩
              · have h1I : ¬ (110 : Int) < (fn : Int) := by omega
                have h2I : ¬ (100 : Int) < (nm.size : Int) := by omega
                go_wp2
                go_round
                case rel => exact ⟨q + 1, by omega, by go_num⟩
                case measure => simp [intOf]; omega
            · go_wp2
              all_goals go_ret
              all_goals first | exact ⟨false, rfl, hbw, fun h => by cases h⟩ | exact ⟨_, rfl, hbw, fun _ => ⟨by have := HN.out; omega, fun j hj => HA.out j (by have := HN.out; omega), HCF.out⟩⟩
end Go.Proofs.YtdclhgngjbneiaaDoor
