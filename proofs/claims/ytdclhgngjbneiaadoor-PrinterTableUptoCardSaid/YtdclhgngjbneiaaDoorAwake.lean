/- The contract of awake: the examples of the document hold. -/
import Derived.Test.YtdclhgngjbneiaaDoorClash
import Derived.Test.YtdclhgngjbneiaaDoorTable
namespace Go.Proofs.YtdclhgngjbneiaaDoor
open Go.RowKit

theorem sees_block {w : World} {g n B e : Nat} {cs : Array Value} {fr : Nat × Nat} (h : w.heap[g]? = some (.cells cs e fr)) (size : Nat) (hn : cs.size = n * size) (hB : g < B) : Sees w B size (some ⟨g, 0, none⟩) n cs.toList := by
  refine ⟨by simpa using hn, fun _ => ⟨g, 0, rfl, hB, fun j u hu => ?_⟩⟩
  rw [Nat.zero_add, cell_of_row w g j cs e fr h]
  simpa using hu

def abc : List ByteArray := [⟨#[97]⟩, ⟨#[98]⟩, ⟨#[99]⟩]
theorem abc_set5 : bs (setText abc 5) = ⟨#[123, 97, 44, 32, 99, 125]⟩ := congrArg bs (by decide +kernel : setText abc 5 = [123, 97, 44, 32, 99, 125])
theorem abc_fam : bs (famText abc [1, 6]) = ⟨#[123, 97, 125, 32, 124, 32, 123, 98, 44, 32, 99, 125]⟩ := congrArg bs (by decide +kernel : famText abc [1, 6] = [123, 97, 125, 32, 124, 32, 123, 98, 44, 32, 99, 125])
theorem abc_faults : bs (faultsText abc [(1, 2)]) = ⟨#[98, 121, 122, 32, 123, 97, 125, 32, 99, 114, 97, 115, 104, 32, 123, 98, 125]⟩ := congrArg bs (by decide +kernel : faultsText abc [(1, 2)] = [98, 121, 122, 32, 123, 97, 125, 32, 99, 114, 97, 115, 104, 32, 123, 98, 125])
theorem abc_clash : bs (clashText abc 2 3 6 2) = ⟨#[114, 117, 108, 101, 32, 50, 58, 32, 123, 97, 44, 32, 98, 125, 32, 97, 110, 100, 32, 123, 98, 44, 32, 99, 125, 32, 115, 104, 97, 114, 101, 32, 123, 98, 125, 44, 32, 111, 102, 32, 119, 104, 105, 99, 104, 32, 109, 97, 121, 32, 108, 105, 101, 32, 123, 98, 125]⟩ :=
  congrArg bs (by decide +kernel : clashText abc 2 3 6 2 = [114, 117, 108, 101, 32, 50, 58, 32, 123, 97, 44, 32, 98, 125, 32, 97, 110, 100, 32, 123, 98, 44, 32, 99, 125, 32, 115, 104, 97, 114, 101, 32, 123, 98, 125, 44, 32, 111, 102, 32, 119, 104, 105, 99, 104, 32, 109, 97, 121, 32, 108, 105, 101, 32, 123, 98, 125])
def rows4 : List (List ByteArray) := [[⟨#[120]⟩, ⟨#[121, 121]⟩], [⟨#[120, 120, 120]⟩, ⟨#[121]⟩]]
theorem rows_table : bs (tableText rows4) = ⟨#[120, 32, 32, 32, 32, 121, 121, 10, 120, 120, 120, 32, 32, 121, 10]⟩ := congrArg bs (by decide +kernel : tableText rows4 = [120, 32, 32, 32, 32, 121, 121, 10, 120, 120, 120, 32, 32, 121, 10])
theorem abc_fits (s : Nat) (h : (mem s).all (fun i => decide (i < 3)) = true) : fits abc s := by
  intro i hi
  have := List.all_eq_true.1 h i hi
  simpa [abc] using this
theorem abc_tot : tot abc = 3 := by decide +kernel

theorem set_at (A A1 A2 A3 A4 : Option Addr) (n c n1 c1 n2 c2 n3 c3 n4 c4 : Nat) (wit : Int) (ss : List ByteArray) (z : Int) (s : Nat) (hz : z = s) (w : World) (hs : s < 65536) (ht : Tz w)
    (hn : n = ss.length) (hsee : Sees w w.heap.size 1 A n (strVals ss)) (hlim : n ≤ 1000000000000) (htot : tot ss ≤ 10000000000) (hf : fits ss s) (T : ByteArray) (hT : bs (setText ss s) = T) :
    Calls Tryd.prog 11 #[.agg #[.slice A n c, .slice A1 n1 c1, .int .u16 wit, .slice A2 n2 c2, .slice A3 n3 c3, .slice A4 n4 c4], .int .u16 z] w fun e w' => e = .returned (.tuple #[.string T, .int .i64 0]) ∧ Below w.heap.size w w' := by
  subst hz hT
  exact set_yes _ _ _ _ _ _ _ _ _ _ _ _ _ _ _ _ ss s w hs ht hn hsee hlim htot hf
theorem family_at (A A1 A2 A3 A4 : Option Addr) (n c n1 c1 n2 c2 n3 c3 n4 c4 : Nat) (wit : Int) (Af : Option Addr) (nf cf : Nat) (ss : List ByteArray) (fs : List Nat) (w : World) (hfs : ∀ j, j < fs.length → fs.getD j 0 < 65536) (ht : Tz w)
    (hn : n = ss.length) (hsee : Sees w w.heap.size 1 A n (strVals ss)) (hlim : n ≤ 1000000000000) (htot : tot ss ≤ 10000000)
    (hnf : nf = fs.length) (hseef : Sees w w.heap.size 1 Af nf (setVals fs)) (hlimf : nf ≤ 5000) (hf : famFits ss fs) (T : ByteArray) (hT : bs (famText ss fs) = T) :
    Calls Tryd.prog 13 #[.agg #[.slice A n c, .slice A1 n1 c1, .int .u16 wit, .slice A2 n2 c2, .slice A3 n3 c3, .slice A4 n4 c4], .slice Af nf cf] w fun e w' => e = .returned (.tuple #[.string T, .int .i64 0]) ∧ Below w.heap.size w w' := by
  subst hT
  exact (family_any _ _ _ _ _ _ _ _ _ _ _ _ _ _ _ _ Af nf cf ss fs w hfs ht hn hsee hlim htot hnf hseef hlimf).mono fun _ _ h => ⟨h.2.1 hf, h.1⟩
theorem faults_at (A A1 A2 A3 A4 : Option Addr) (n c n1 c1 n2 c2 n3 c3 n4 c4 : Nat) (wit : Int) (Af : Option Addr) (nf cf : Nat) (ss : List ByteArray) (fs : List (Nat × Nat)) (w : World) (hfs : ∀ j, j < fs.length → (fs.getD j (0, 0)).1 < 65536 ∧ (fs.getD j (0, 0)).2 < 65536) (ht : Tz w)
    (hn : n = ss.length) (hsee : Sees w w.heap.size 1 A n (strVals ss)) (hlim : n ≤ 1000000000000) (htot : tot ss ≤ 1000000)
    (hnf : nf = fs.length) (hseef : Sees w w.heap.size 2 Af nf (faultVals fs)) (hlimf : nf ≤ 5000) (hf : faultsFit ss fs) (T : ByteArray) (hT : bs (faultsText ss fs) = T) :
    Calls Tryd.prog 15 #[.agg #[.slice A n c, .slice A1 n1 c1, .int .u16 wit, .slice A2 n2 c2, .slice A3 n3 c3, .slice A4 n4 c4], .slice Af nf cf] w fun e w' => e = .returned (.tuple #[.string T, .int .i64 0]) ∧ Below w.heap.size w w' := by
  subst hT
  exact (faults_any _ _ _ _ _ _ _ _ _ _ _ _ _ _ _ _ Af nf cf ss fs w hfs ht hn hsee hlim htot hnf hseef hlimf).mono fun _ _ h => ⟨h.2.1 hf, h.1⟩
theorem clash_at (A A1 A2 A3 A4 : Option Addr) (n c n1 c1 n2 c2 n3 c3 n4 c4 : Nat) (wit : Int) (ss : List ByteArray) (r x' y' z' : Int) (x y z : Nat) (ex : x' = x) (ey : y' = y) (ez : z' = z) (w : World) (hx : x < 65536) (hy : y < 65536) (hz : z < 65536) (ht : Tz w)
    (hn : n = ss.length) (hsee : Sees w w.heap.size 1 A n (strVals ss)) (hlim : n ≤ 1000000000000) (htot : tot ss ≤ 10000000) (hr : 1 ≤ r ∧ r ≤ 2) (h1 : fits ss z) (h2 : fits ss x ∧ fits ss y) (T : ByteArray) (hT : bs (clashText ss r.toNat x y z) = T) :
    Calls Tryd.prog 17 #[.agg #[.slice A n c, .slice A1 n1 c1, .int .u16 wit, .slice A2 n2 c2, .slice A3 n3 c3, .slice A4 n4 c4], .agg #[.int .i64 r, .int .u16 x', .int .u16 y', .int .u16 z']] w fun e w' => e = .returned (.tuple #[.string T, .int .i64 0]) ∧ Below w.heap.size w w' := by
  subst ex ey ez hT
  exact (clash_any _ _ _ _ _ _ _ _ _ _ _ _ _ _ _ _ ss r x y z w hx hy hz ht hn hsee hlim htot).mono fun _ _ h => ⟨h.2.2.2.2.2 hr h1 h2, h.1⟩

theorem rows4_sees (w : World) : SeesRows (((w.alloc (.cells #[.string ⟨#[120]⟩, .string ⟨#[121, 121]⟩] 9)).alloc (.cells #[.string ⟨#[120, 120, 120]⟩, .string ⟨#[121]⟩] 9)).alloc (.cells #[.slice (some ⟨w.heap.size, 0, none⟩) 2 2, .slice (some ⟨w.heap.size + 1, 0, none⟩) 2 2] 22)) (w.heap.size + 3) (some ⟨w.heap.size + 1 + 1, 0, none⟩) rows4 := by
  intro k hk
  have h2 : k = 0 ∨ k = 1 := by have : rows4.length = 2 := rfl
                                omega
  have h3 := heap_alloc_new ((w.alloc (.cells #[.string ⟨#[120]⟩, .string ⟨#[121, 121]⟩] 9)).alloc (.cells #[.string ⟨#[120, 120, 120]⟩, .string ⟨#[121]⟩] 9)) (.cells #[.slice (some ⟨w.heap.size, 0, none⟩) 2 2, .slice (some ⟨w.heap.size + 1, 0, none⟩) 2 2] 22)
  rw [show ((w.alloc (.cells #[.string ⟨#[120]⟩, .string ⟨#[121, 121]⟩] 9)).alloc (.cells #[.string ⟨#[120, 120, 120]⟩, .string ⟨#[121]⟩] 9)).heap.size = w.heap.size + 1 + 1 by simp] at h3
  rcases h2 with rfl | rfl
  · refine ⟨w.heap.size + 1 + 1, 0, some ⟨w.heap.size, 0, none⟩, 2, rfl, by omega, (cell_of_row _ _ _ _ _ _ h3).trans rfl, ?_⟩
    refine sees_block (e := 9) (fr := (0, 0)) (cs := #[.string ⟨#[120]⟩, .string ⟨#[121, 121]⟩]) ?_ 1 rfl (by omega)
    rw [heap_alloc_old (h := by simp; omega), heap_alloc_old (h := by simp)]; exact heap_alloc_new w _
  · refine ⟨w.heap.size + 1 + 1, 0, some ⟨w.heap.size + 1, 0, none⟩, 2, rfl, by omega, (cell_of_row _ _ _ _ _ _ h3).trans rfl, ?_⟩
    refine sees_block (e := 9) (fr := (0, 0)) (cs := #[.string ⟨#[120, 120, 120]⟩, .string ⟨#[121]⟩]) ?_ 1 rfl (by omega)
    rw [heap_alloc_old (h := by simp)]
    have := heap_alloc_new (w.alloc (.cells #[.string ⟨#[120]⟩, .string ⟨#[121, 121]⟩] 9)) (.cells #[.string ⟨#[120, 120, 120]⟩, .string ⟨#[121]⟩] 9)
    simpa using this
theorem rows4_size (k j : Nat) : ((rows4.getD k []).getD j ByteArray.empty).size ≤ 3 := by
  match k, j with
  | 0, 0 => decide
  | 0, 1 => decide
  | 0, j + 2 => simp [rows4]
  | 1, 0 => decide
  | 1, 1 => decide
  | 1, j + 2 => simp [rows4]
  | k + 2, j => simp [rows4]
theorem rows4_length (k : Nat) : (rows4.getD k []).length ≤ 2 := by
  match k with
  | 0 => decide
  | 1 => decide
  | k + 2 => simp [rows4]
theorem table4_any (w : World) : Calls Tryd.prog 24 #[.slice (some ⟨w.heap.size + 1 + 1, 0, none⟩) 2 2] (((w.alloc (.cells #[.string ⟨#[120]⟩, .string ⟨#[121, 121]⟩] 9)).alloc (.cells #[.string ⟨#[120, 120, 120]⟩, .string ⟨#[121]⟩] 9)).alloc (.cells #[.slice (some ⟨w.heap.size, 0, none⟩) 2 2, .slice (some ⟨w.heap.size + 1, 0, none⟩) 2 2] 22))
    fun e w' => e = .returned (.string ⟨#[120, 32, 32, 32, 32, 121, 121, 10, 120, 120, 120, 32, 32, 121, 10]⟩) ∧ Below w.heap.size w w' := by
  refine (table_any _ 2 2 rows4 _ rfl (by have := rows4_sees w; simpa using this) 3 2 rows4_size rows4_length (by decide) (by decide) (by decide)).mono fun e w' h => ⟨?_, ?_⟩
  · rw [h.1, rows_table]
  · exact ((((Below.refl _ _).alloc (Nat.le_refl _) _).alloc (by simp) _).alloc (by simp; omega) _).trans (h.2.mono (by simp; omega))

set_option maxHeartbeats 4000000 in
set_option maxRecDepth 100000 in
theorem awake_any (w : World) (ht : Tz w) : Calls Tryd.prog 9 #[] w fun e w' => e = .returned (.bool true) ∧ Below w.heap.size w w' := by
  have ht0 := abc_tot
  have HT0 := Lib.hid ht0
  clear ht0
  go_enter Tryd.func9, Tryd.ntmps9
  go_wp2_with fail
  obtain ⟨W, hW⟩ : ∃ W : World, W = (w.alloc (.cells #[.string ⟨#[97]⟩, .string ⟨#[98]⟩, .string ⟨#[99]⟩] 9)).alloc (.cells #[.slice (some ⟨w.heap.size, 0, none⟩) 3 3, .slice none 0 0, .int .u16 0, .slice none 0 0, .slice none 0 0, .slice none 0 0] 33) := ⟨_, rfl⟩
  have hbW : Below w.heap.size w W := by rw [hW]; exact ((Below.refl _ _).alloc (Nat.le_refl _) _).alloc (by simp) _
  have hsz : w.heap.size + 2 = W.heap.size := by rw [hW]; simp
  have hblk : W.heap[w.heap.size]? = some (.cells #[.string ⟨#[97]⟩, .string ⟨#[98]⟩, .string ⟨#[99]⟩] 9 (0, 0)) := by
    rw [hW, heap_alloc_old (h := by simp)]; exact heap_alloc_new w _
  have hbox : W.heap[w.heap.size + 1]? = some (.cells #[.slice (some ⟨w.heap.size, 0, none⟩) 3 3, .slice none 0 0, .int .u16 0, .slice none 0 0, .slice none 0 0, .slice none 0 0] 33 (0, 0)) := by
    rw [hW]
    have := heap_alloc_new (w.alloc (.cells #[.string ⟨#[97]⟩, .string ⟨#[98]⟩, .string ⟨#[99]⟩] 9)) (.cells #[.slice (some ⟨w.heap.size, 0, none⟩) 3 3, .slice none 0 0, .int .u16 0, .slice none 0 0, .slice none 0 0, .slice none 0 0] 33)
    simpa using this
  rw [← hW]
  have HS := Lib.hid hsz
  have hsz' : w.heap.size + 2 ≤ W.heap.size := by omega
  clear hW hsz
  have key : ∀ W' : World, Below W.heap.size W W' → Sees W' W'.heap.size 1 (some ⟨w.heap.size, 0, none⟩) 3 (strVals abc) ∧ Tz W' := by
    intro W' hb
    refine ⟨sees_block (e := 9) (fr := (0, 0)) (cs := #[.string ⟨#[97]⟩, .string ⟨#[98]⟩, .string ⟨#[99]⟩]) ((hb.block _ (by omega)).trans hblk) 1 rfl (by have := hb.size; omega), (ht.below hbW (Nat.le_refl _)).below hb (Nat.le_refl _)⟩
  have box : ∀ W' : World, Below W.heap.size W W' → ∀ i : Nat, W'.cell? ⟨w.heap.size + 1, i, none⟩ = (#[.slice (some ⟨w.heap.size, 0, none⟩) 3 3, .slice none 0 0, .int .u16 0, .slice none 0 0, .slice none 0 0, .slice none 0 0] : Array Value)[i]? := by
    intro W' hb i
    exact cell_of_row W' _ i _ _ _ ((hb.block _ (by omega)).trans hbox)
  have KEY := Lib.hid key
  have BOX := Lib.hid box
  clear key box hblk hbox
  refine (set_at _ _ _ _ _ _ _ _ _ _ _ _ _ _ _ _ abc 5 5 rfl W (by decide) (KEY.out W (Below.refl _ _)).2 rfl (KEY.out W (Below.refl _ _)).1 (by decide) (by rw [HT0.out]; decide) (abc_fits 5 (by decide)) _ abc_set5).mono ?_
  rintro e w1 ⟨rfl, hb1⟩
  have c0 := BOX.out w1 hb1 0
  have c1 := BOX.out w1 hb1 1
  have c2 := BOX.out w1 hb1 2
  have c3 := BOX.out w1 hb1 3
  have c4 := BOX.out w1 hb1 4
  have c5 := BOX.out w1 hb1 5
  simp only [List.getElem?_toArray, List.getElem?_cons_zero, List.getElem?_cons_succ] at c0 c1 c2 c3 c4 c5
  have hs1 := hb1.size
  go_wp2_with fail
  have hbx1 : Below W.heap.size W (w1.alloc (.cells #[.int .u16 1, .int .u16 6] 24)) := hb1.alloc hs1 _
  refine (family_at _ _ _ _ _ _ _ _ _ _ _ _ _ _ _ _ _ 2 2 abc [1, 6] _ (by decide) (KEY.out _ hbx1).2 rfl (KEY.out _ hbx1).1 (by decide) (by rw [HT0.out]; decide) rfl (sees_block (heap_alloc_new w1 _) 1 rfl (by simp)) (by decide) (by intro j hj; apply abc_fits; revert j; decide) _ abc_fam).mono ?_
  rintro e w2 ⟨rfl, hb2⟩
  have hb2 : Below W.heap.size W w2 := hbx1.trans (hb2.mono hbx1.size)
  clear c0 c1 c2 c3 c4 c5
  have c0 := BOX.out w2 hb2 0
  have c1 := BOX.out w2 hb2 1
  have c2 := BOX.out w2 hb2 2
  have c3 := BOX.out w2 hb2 3
  have c4 := BOX.out w2 hb2 4
  have c5 := BOX.out w2 hb2 5
  simp only [List.getElem?_toArray, List.getElem?_cons_zero, List.getElem?_cons_succ] at c0 c1 c2 c3 c4 c5
  have hs2 := hb2.size
  go_wp2_with fail
  have hbx2 : Below W.heap.size W (w2.alloc (.cells #[.int .u16 1, .int .u16 2] 57)) := hb2.alloc hs2 _
  refine (faults_at _ _ _ _ _ _ _ _ _ _ _ _ _ _ _ _ _ 1 1 abc [(1, 2)] _ (by decide) (KEY.out _ hbx2).2 rfl (KEY.out _ hbx2).1 (by decide) (by rw [HT0.out]; decide) rfl (sees_block (heap_alloc_new w2 _) 2 rfl (by simp)) (by decide) (by intro j hj; exact ⟨by apply abc_fits; revert j; decide, by apply abc_fits; revert j; decide⟩) _ abc_faults).mono ?_
  rintro e w3 ⟨rfl, hb3⟩
  have hb3 : Below W.heap.size W w3 := hbx2.trans (hb3.mono hbx2.size)
  clear c0 c1 c2 c3 c4 c5
  have c0 := BOX.out w3 hb3 0
  have c1 := BOX.out w3 hb3 1
  have c2 := BOX.out w3 hb3 2
  have c3 := BOX.out w3 hb3 3
  have c4 := BOX.out w3 hb3 4
  have c5 := BOX.out w3 hb3 5
  simp only [List.getElem?_toArray, List.getElem?_cons_zero, List.getElem?_cons_succ] at c0 c1 c2 c3 c4 c5
  have hs3 := hb3.size
  go_wp2_with fail
  refine (clash_at _ _ _ _ _ _ _ _ _ _ _ _ _ _ _ _ abc 2 3 6 2 3 6 2 rfl rfl rfl w3 (by decide) (by decide) (by decide) (KEY.out _ hb3).2 rfl (KEY.out _ hb3).1 (by decide) (by rw [HT0.out]; decide) (by decide) (abc_fits 2 (by decide)) ⟨abc_fits 3 (by decide), abc_fits 6 (by decide)⟩ _ abc_clash).mono ?_
  rintro e w4 ⟨rfl, hb4⟩
  have hb4 : Below W.heap.size W w4 := hb3.trans (hb4.mono hb3.size)
  have hs4 := hb4.size
  clear c0 c1 c2 c3 c4 c5
  go_wp2_with fail
  refine (table4_any w4).mono ?_
  rintro e w5 ⟨rfl, hb5⟩
  go_wp2
  go_ret
  exact ⟨rfl, hbW.trans ((hb4.trans (hb5.mono hb4.size)).mono hbW.size)⟩
end Go.Proofs.YtdclhgngjbneiaaDoor
