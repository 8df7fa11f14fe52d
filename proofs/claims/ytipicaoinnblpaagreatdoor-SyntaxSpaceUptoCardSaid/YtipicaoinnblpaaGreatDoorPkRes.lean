/- The contract of the reference reader's reserved. -/
import Derived.Test.YtipicaoinnblpaaGreatDoorPkPara
namespace Go.Proofs.YtipicaoinnblpaaGreatDoor
open Go.RowKit

theorem reserved_no {x : ByteArray} (h : ∀ j (hj : j < 19), (words[j]'hj == x) = false) : reserved x = false := by
  unfold reserved
  rw [List.any_eq_false]
  intro w hw
  obtain ⟨j, hj, rfl⟩ := List.getElem_of_mem hw
  have := h j hj
  rw [Bool.not_eq_true]
  cases e : (x == words[j])
  · rfl
  · rw [(str_iff _ _).1 e] at this
    rw [(str_iff _ _).2 rfl] at this
    exact this
theorem reserved_yes {x : ByteArray} {j : Nat} (hj : j < 19) (h : (words[j]'hj == x) = true) : reserved x = true := by
  unfold reserved
  rw [List.any_eq_true]
  exact ⟨words[j]'hj, List.getElem_mem _, by rw [(str_iff _ _).1 h]; exact (str_iff _ _).2 rfl⟩

set_option maxRecDepth 100000 in
set_option maxHeartbeats 2000000 in
theorem reserved_rd (x : ByteArray) (w : World) : Calls Tryz.prog 128 #[.string x] w fun e w' => e = .returned (.bool (reserved x)) ∧ Below w.heap.size w w' := by
  have hnew := heap_alloc_new w (.cells #[.string (⟨#[115, 105, 116, 101]⟩ : ByteArray), .string (⟨#[102, 97, 117, 108, 116, 115]⟩ : ByteArray), .string (⟨#[113, 117, 111, 114, 117, 109]⟩ : ByteArray), .string (⟨#[99, 111, 110, 102, 105, 103]⟩ : ByteArray), .string (⟨#[119, 105, 116, 110, 101, 115, 115]⟩ : ByteArray), .string (⟨#[99, 108, 105, 101, 110, 116]⟩ : ByteArray), .string (⟨#[99, 104, 97, 105, 110]⟩ : ByteArray), .string (⟨#[114, 101, 97, 100]⟩ : ByteArray), .string (⟨#[119, 114, 105, 116, 101]⟩ : ByteArray), .string (⟨#[99, 114, 97, 115, 104]⟩ : ByteArray), .string (⟨#[98, 121, 122, 97, 110, 116, 105, 110, 101]⟩ : ByteArray), .string (⟨#[110, 111, 110, 101]⟩ : ByteArray), .string (⟨#[116, 104, 114, 101, 115, 104, 111, 108, 100]⟩ : ByteArray), .string (⟨#[98, 121, 122]⟩ : ByteArray), .string (⟨#[100, 117, 97, 108]⟩ : ByteArray), .string (⟨#[109, 97, 106, 111, 114, 105, 116, 121]⟩ : ByteArray), .string (⟨#[97, 108, 108]⟩ : ByteArray), .string (⟨#[97, 110, 121]⟩ : ByteArray), .string (⟨#[115, 101, 114, 118, 101, 114, 115]⟩ : ByteArray)] 9)
  obtain ⟨W, hW⟩ : ∃ W : World, W = w.alloc (.cells #[.string (⟨#[115, 105, 116, 101]⟩ : ByteArray), .string (⟨#[102, 97, 117, 108, 116, 115]⟩ : ByteArray), .string (⟨#[113, 117, 111, 114, 117, 109]⟩ : ByteArray), .string (⟨#[99, 111, 110, 102, 105, 103]⟩ : ByteArray), .string (⟨#[119, 105, 116, 110, 101, 115, 115]⟩ : ByteArray), .string (⟨#[99, 108, 105, 101, 110, 116]⟩ : ByteArray), .string (⟨#[99, 104, 97, 105, 110]⟩ : ByteArray), .string (⟨#[114, 101, 97, 100]⟩ : ByteArray), .string (⟨#[119, 114, 105, 116, 101]⟩ : ByteArray), .string (⟨#[99, 114, 97, 115, 104]⟩ : ByteArray), .string (⟨#[98, 121, 122, 97, 110, 116, 105, 110, 101]⟩ : ByteArray), .string (⟨#[110, 111, 110, 101]⟩ : ByteArray), .string (⟨#[116, 104, 114, 101, 115, 104, 111, 108, 100]⟩ : ByteArray), .string (⟨#[98, 121, 122]⟩ : ByteArray), .string (⟨#[100, 117, 97, 108]⟩ : ByteArray), .string (⟨#[109, 97, 106, 111, 114, 105, 116, 121]⟩ : ByteArray), .string (⟨#[97, 108, 108]⟩ : ByteArray), .string (⟨#[97, 110, 121]⟩ : ByteArray), .string (⟨#[115, 101, 114, 118, 101, 114, 115]⟩ : ByteArray)] 9) := ⟨_, rfl⟩
  have hb : Below w.heap.size w W := by rw [hW]; exact (Below.refl _ _).alloc (Nat.le_refl _) _
  rw [← hW] at hnew
  have HC := Lib.hid (fun (j : Nat) (hj : j < 19) => (show W.cell? ⟨w.heap.size, j, none⟩ = some (.string (words[j]'hj)) by
    rw [cell_of_row _ _ j _ _ _ hnew]
    show (words.map Value.string).toArray[j]? = _
    simp only [List.getElem?_toArray, List.getElem?_map]
    rw [List.getElem?_eq_getElem (show j < words.length from hj)]; rfl))
  go_enter Tryz.func128, Tryz.ntmps128
  go_wp2
  rw [← hW]
  clear hW hnew
  go_loop [4] (fun y => ∃ k : Nat, k ≤ 19 ∧ y = .int .i64 k ∧ Hid (∀ j (hj : j < 19), j < k → (words[j]'hj == x) = false)) (fun y => 19 - (intOf y).toNat)
  case atStart => exact ⟨0, by decide, rfl, fun j _ hj => absurd hj (by omega)⟩
  case round =>
    obtain ⟨k, hk, rfl, hno⟩ := hrel
    by_cases hlt : k < 19
    · have hkI : (k : Int) < 19 := by omega
      have hk0 : (0 : Int) ≤ (k : Int) := by omega
      have hc := HC.out k hlt
      obtain ⟨u, hu⟩ : ∃ u, u = words[k]'hlt := ⟨_, rfl⟩
      rw [← hu] at hc
      have HU := Lib.hid hu
      clear hu
      cases hq : (u == x)
      · have hq2 : (u.toList == x.toList) = false := by rw [str_beq]; exact hq
        have HQ := Lib.hid hq
        go_wp2
        go_round
        case rel =>
          refine ⟨k + 1, by omega, by go_num, fun j hj h => ?_⟩
          rcases Nat.lt_or_ge j k with h1 | h1
          · exact hno.out j hj h1
          · obtain rfl : j = k := by omega
            rw [← HU.out]; exact HQ.out
        case measure => simp [intOf]; omega
      · have hq2 : (u.toList == x.toList) = true := by rw [str_beq]; exact hq
        have E := Lib.hid (reserved_yes hlt (by rw [← HU.out]; exact hq))
        go_wp2
        go_ret
        exact ⟨by rw [E.out]; rfl, hb⟩
    · obtain rfl : k = 19 := by omega
      have E := Lib.hid (reserved_no (fun j hj => hno.out j hj hj))
      clear hno
      go_wp2
      go_ret
      exact ⟨by rw [E.out]; rfl, hb⟩

end Go.Proofs.YtipicaoinnblpaaGreatDoor
