/- The contracts of Servers (of the program and of the reference): the names of all servers. Fewer names than a bound. The contracts of behind, Kind and Term of the program: the scope behind declarations, the kind of a name, the error of a term. Declarations of a size up to a bound. -/
import Derived.Test.YtmohibkomlhlaaaGreatDoorPkHead
import Derived.Test.YtmohibkomlhlaaaGreatDoorPkTya
import Derived.Test.YtmohibkomlhlaaaGreatDoorPkFmtb
set_option maxRecDepth 100000
set_option maxHeartbeats 4000000
namespace Go.Proofs.YtmohibkomlhlaaaGreatDoor
open Go.RowKit
open _root_.Go.Proofs.Tryz
def rD (l : List Dc) (w : World) (e : Ending) (w' : World) : Prop := ∃ v, e = .returned v ∧ w'.ownsRow w.heap.size 9 1 v (aj l).length (aA (aj l)) ∧ Below w.heap.size w w'
theorem tY {l : List Dc} {k : Nat} (h : k < l.length) {d : Dc} (hd : d = l[k]) (hk : d.kind = 1) : aj (l.take (k + 1)) = aj (l.take k) ++ d.names := by
 rw [Ec l k h, ← hd]; unfold aj bO; rw [List.flatMap_append]; simp [hk]
theorem wS {l : List Dc} {k : Nat} (h : k < l.length) {d : Dc} (hd : d = l[k]) (hk : d.kind ≠ 1) : aj (l.take (k + 1)) = aj (l.take k) := by
 rw [Ec l k h, ← hd]; unfold aj bO; rw [List.flatMap_append]; simp [hk]
theorem uf (l : List Dc) (A : Option Addr) (c : Nat) (w : World) (S : Nat → Prop) (hl : aL (dx w S) w S 22 A l) (hS : ∀ g, S g → g < w.heap.size) (hsz : (aj l).length ≤ 100000000) (hll : l.length ≤ 100000000) :
  Calls prog 38 #[.slice A l.length c] w (rD l w) := by
 have HL := Lib.hid hl
 clear hl
 go_enter func38, ntmps38
 go_wp2
 go_loopw [3, 8] (fun v x wr => ∃ k : Nat, k ≤ l.length ∧ x = .int .i64 k ∧ wr.ownsRow w.heap.size 9 1 v (aj (l.take k)).length (aA (aj (l.take k))) ∧ Below w.heap.size w wr) (fun _ x _ => l.length - (intOf x).toNat)
 case atStart => exact ⟨0, Nat.zero_le _, rfl, World.ownsRow_nil _ _ _ _, Below.refl _ _⟩
 case round =>
  obtain ⟨k, hk, rfl, hown, hb⟩ := hrel
  have hsr := hb.size
  by_cases hlt : k < l.length
  ·obtain ⟨g, o, v2, rfl, hSg, hp, hc⟩ := dL (fun _ _ h => lG h) (HL.out.keep (P' := dx wr S) (ai hb hS) (fun _ _ h => h.keep (ai hb hS))) hlt
   have hgs : g < wr.heap.size := by have := hS g hSg; omega
   obtain ⟨d, hd⟩ : ∃ d, d = l[k] := ⟨_, rfl⟩
   rw [← hd] at hp
   have hq : (aj (l.take k)).length ≤ 100000000 := by have := lD (fun d : Dc => if d.kind = 1 then d.names else []) l k; unfold aj bO at hsz ⊢; omega
   have hq2 : (aj (l.take (k + 1))).length ≤ 100000000 := by have := lD (fun d : Dc => if d.kind = 1 then d.names else []) l (k + 1); unfold aj bO at hsz ⊢; omega
   obtain ⟨cs, nA, nc, hcl, hone, rfl, c0, -, -, c3, -, hsn, hnc⟩ := jD hp
   have hrange : wr.rangeAt g (o + k * 22) cs := fun j u hu => hc j u (by simpa [cellsOf, Value.cells] using hu)
   have rM : (prog.info? 35).map (·.size) = some cs.length := by rw [hcl]; exact cK
   have hcs2 : cs.toArray.size = 22 := by simpa using hcl
   have sZ := Lib.hid hone
   have HCS := Lib.hid hcs2
   have C0 := Lib.hid c0
   have C3 := Lib.hid c3
   have HSN := Lib.hid hsn
   have hkI : (k : Int) < (l.length : Int) := by omega
   have hk0 : (0 : Int) ≤ (k : Int) := by omega
   have hbA : ∀ o, Below wr.heap.size wr (wr.alloc o) := fun o => (Below.refl _ _).alloc (Nat.le_refl _) o
   by_cases hk1 : d.kind = 1
   ·have hsv := tY hlt hd hk1
    rw [hsv, List.length_append] at hq2
    have hkb : (d.kind == (1 : Int)) = true := by rw [hk1]; rfl
    have HSV := Lib.hid hsv
    have HDK := Lib.hid hk1
    obtain ⟨cur, hcur⟩ : ∃ cur, cur = aj (l.take k) := ⟨_, rfl⟩
    rw [← hcur] at hown hq hq2 HSV
    clear hcur hp hc hone hcs2 c0 c3 hsn hsv hk1 hd
    go_wp2_with (first | (with_reducible refine wpList_load_mid rfl 35 (.tmp 10) rfl g (o + k * 22) rfl cs _ hrange underlying35 rfl rM ?_) | (with_reducible refine dJ _ rfl rfl (.tmp 5) (.tmp 11) rfl wr.heap.size cs.toArray rfl rfl _ (heap_alloc_new wr _) rfl HCS.out sZ.out ?_; intro W5 hr5 hg5; have e0 := eH hr5 C0.out; have e3 := eH hr5 C3.out; have hb5 : Below wr.heap.size wr W5 := (hbA _).trans (below_grown hg5 (Nat.le_refl _) (by simp)); have hs5 : w.heap.size ≤ W5.heap.size := Nat.le_trans hsr hb5.size; clear hr5 hg5) | (at_builtin; refine jy W5 rfl (.tmp 15) (.tmp 17) rfl w.heap.size _ _ _ (own_below hown hb5 (Nat.le_refl _)) rfl S nA _ nc d.names rfl rfl (HSN.out.keep (aH hb5)) (by omega) (by omega) hs5 ?_; intro v3 w3 hown3 hg3 hv3))
    go_roundw
    case rel =>
     refine ⟨k + 1, by omega, by go_num, ?_, (hb.trans (hb5.mono hsr)).trans (aM (own_below hown hb5 (Nat.le_refl _)) hg3 hs5)⟩
     rw [HSV.out, List.length_append, oh]
     exact hown3
    case measure => simp [intOf]; omega
   ·have hsv := wS hlt hd hk1
    have hkb : (d.kind == (1 : Int)) = false := by rw [beq_eq_false_iff_ne]; exact hk1
    have HSV := Lib.hid hsv
    clear hp hc hone hcs2 c0 c3 hsn hsv hk1 hd
    go_wp2_with (first | (with_reducible refine wpList_load_mid rfl 35 (.tmp 10) rfl g (o + k * 22) rfl cs _ hrange underlying35 rfl rM ?_) | (with_reducible refine dJ _ rfl rfl (.tmp 5) (.tmp 11) rfl wr.heap.size cs.toArray rfl rfl _ (heap_alloc_new wr _) rfl HCS.out sZ.out ?_; intro W5 hr5 hg5; have e0 := eH hr5 C0.out; have hb5 : Below wr.heap.size wr W5 := (hbA _).trans (below_grown hg5 (Nat.le_refl _) (by simp)); clear hr5 hg5))
    go_roundw
    case rel =>
     refine ⟨k + 1, by omega, by go_num, ?_, hb.trans (hb5.mono hsr)⟩
     rw [HSV.out]
     exact own_below hown hb5 (Nat.le_refl _)
    case measure => simp [intOf]; omega
  ·obtain rfl : k = l.length := by omega
   have hkI : ¬ (l.length : Int) < (l.length : Int) := by omega
   rw [List.take_length] at hown
   go_wp2
   go_ret
   exact ⟨_, rfl, hown, hb⟩
structure BOk (l : List Dc) : Prop where
 each : ∀ d ∈ l, (-9223372036854775808 ≤ d.kind ∧ d.kind ≤ 9223372036854775807) ∧ d.name.size ≤ maxLen ∧ ∀ x ∈ d.names, x.size ≤ maxLen
 all : (l.map fun d => d.names.length + 1).sum ≤ 100000000
def nb2 (l : List Dc) : Nat := (l.map fun d => d.names.length + 1).sum
theorem Ev (l : List Dc) (d : Dc) : nb2 (l ++ [d]) = nb2 l + 1 + d.names.length := by simp [nb2]; omega
theorem CW (l : List Dc) : aF l ≤ nb2 l := by
 unfold aF nb2
 induction l with
 |nil => simp
 |cons d r ih => rw [List.map_cons, List.sum_cons, List.map_cons, List.sum_cons]; split <;> omega
theorem Ew (k : Int) (l : List Dc) : dR k l ≤ nb2 l := by
 unfold dR nb2
 induction l with
 |nil => simp
 |cons d r ih => rw [List.countP_cons, List.map_cons, List.sum_cons]; split <;> omega
theorem nb2_len (l : List Dc) : l.length ≤ nb2 l := by
 unfold nb2
 induction l with
 |nil => simp
 |cons d r ih => rw [List.map_cons, List.sum_cons, List.length_cons]; omega
def Hz (l : List Dc) (S : Nat → Prop) (w : World) (e : Ending) (w' : World) : Prop :=
 ∃ b kb db wb cb zb n zn, e = .returned (.pointer (some ⟨b, 0, none⟩)) ∧ Sc prog 121 w' S b kb db wb cb zb n zn (j6 l) (aF l) (dR 4 l) (dR 6 l) (bJ l) (fD l) [] [] (fun _ => none) ∧ Below w.heap.size w w'
theorem Hq (l : List Dc) (A : Option Addr) (c : Nat) (w : World) (S : Nat → Prop) (hl : aL (dx w S) w S 22 A l) (hS : ∀ g, S g → g < w.heap.size) (hB : BOk l) :
  Calls prog 64 #[.slice A l.length c] w (Hz l S w) := by
 have HL := Lib.hid hl
 have HB := Lib.hid hB.each
 have HBA := Lib.hid hB.all
 have hll : l.length ≤ 100000000 := Nat.le_trans (nb2_len l) hB.all
 have HEM := Lib.hid (Bw w S hS)
 clear hl hB
 go_enter func64, ntmps64
 go_wp2_with fail
 refine HEM.out.mono ?_
 rintro e w2 ⟨b, kb, db, wb, cb, zb, rfl, hsc, hb2, hlo⟩
 have HSC := Lib.hid hsc
 clear hsc
 go_wp2_with fail
 go_loopw [9] (fun x wr => ∃ k : Nat, k ≤ l.length ∧ x = .int .i64 k ∧ Below w.heap.size w wr ∧ Hid (Sc prog 121 wr S b kb db wb cb zb (nb2 (l.take k)) 0 (j6 (l.take k)) (aF (l.take k)) (dR 4 (l.take k)) (dR 6 (l.take k)) (bJ (l.take k)) (fD (l.take k)) [] [] (fun _ => none))) (fun x _ => l.length - (intOf x).toNat)
 case atStart => exact ⟨0, Nat.zero_le _, rfl, hb2, Lib.hid HSC.out⟩
 case round =>
  obtain ⟨k, hk, rfl, hb, hsc⟩ := hrel
  have hsr := hb.size
  by_cases hlt : k < l.length
  ·obtain ⟨g, o, v2, rfl, hSg, hp, hc⟩ := dL (fun _ _ h => lG h) (HL.out.keep (P' := dx wr S) (ai hb hS) (fun _ _ h => h.keep (ai hb hS))) hlt
   obtain ⟨d, hd⟩ : ∃ d, d = l[k] := ⟨_, rfl⟩
   have hmem : d ∈ l := by rw [hd]; exact List.getElem_mem hlt
   have htk := Ec l k hlt
   rw [← hd] at hp htk
   have hq2 := sum_takeA (fun d : Dc => d.names.length + 1) l (k + 1)
   have hba := HBA.out
   rw [htk] at hq2
   have hq3 : nb2 (l.take k ++ [d]) ≤ 100000000 := Nat.le_trans hq2 hba
   rw [Ev] at hq3
   obtain ⟨hd1, hd2, hd3⟩ := HB.out d hmem
   have hps := CW (l.take k)
   have hp4 := Ew 4 (l.take k)
   have hp6 := Ew 6 (l.take k)
   obtain ⟨cs, nA, nc, hcl, hone, rfl, -, -, -, -, -, -, -⟩ := jD hp
   have hrange : wr.rangeAt g (o + k * 22) cs := fun j u hu => hc j u (by simpa [cellsOf, Value.cells] using hu)
   have rM : (prog.info? 35).map (·.size) = some cs.length := by rw [hcl]; exact cK
   have hcs2 : cs.toArray.size = 22 := by simpa using hcl
   have sZ := Lib.hid hone
   have HCS := Lib.hid hcs2
   have HP := Lib.hid hp
   have HTK := Lib.hid htk
   have HD := Lib.hid (show (-9223372036854775808 ≤ d.kind ∧ d.kind ≤ 9223372036854775807) ∧ d.name.size ≤ maxLen ∧ ∀ x ∈ d.names, x.size ≤ maxLen from ⟨hd1, hd2, hd3⟩)
   have hkI : (k : Int) < (l.length : Int) := by omega
   have hk0 : (0 : Int) ≤ (k : Int) := by omega
   have hbA : ∀ o, Below wr.heap.size wr (wr.alloc o) := fun o => (Below.refl _ _).alloc (Nat.le_refl _) o
   obtain ⟨lk, hlk⟩ : ∃ lk, lk = l.take k := ⟨_, rfl⟩
   rw [← hlk] at hsc hq3 hps hp4 hp6 HTK
   clear hlk hp hc hone hcs2 htk hd hmem hq2 hba hd1 hd2 hd3 hcl
   have hsz0 := hsc.out.lt.1
   have hk1 := hsc.out.kinds.lt
   have hk2 : db < wr.heap.size := by obtain ⟨g, hg, -⟩ := hsc.out.decls; exact hg.lt
   go_wp2_with (first | (with_reducible refine wpList_load_mid rfl 35 (.tmp 11) rfl g (o + k * 22) rfl cs _ hrange underlying35 rfl rM ?_) | (with_reducible refine dJ _ rfl rfl (.tmp 5) (.tmp 12) rfl wr.heap.size cs.toArray rfl rfl _ (heap_alloc_new wr _) rfl HCS.out sZ.out ?_; intro W5 hr5 hg5) | (with_reducible refine fK _ rfl (.tmp 5) rfl wr.heap.size rfl _ hr5 HCS.out ?_))
   have hb5 : Below wr.heap.size wr W5 := (hbA _).trans (below_grown hg5 (Nat.le_refl _) (by simp))
   have zI : Below w.heap.size w W5 := hb.trans (hb5.mono hsr)
   have HAD := Lib.hid (add_any (hsc.out.below hb5) d _ (HP.out.keep (aH hb5)) HD.out.1 HD.out.2.1 HD.out.2.2 (by omega) (by omega) (by omega) (by omega))
   clear hr5 hg5 hrange
   refine HAD.out.mono ?_
   rintro e w7 ⟨rfl, hsc7, hbt7⟩
   have HS7 := Lib.hid hsc7
   have hbw7 : Below w.heap.size w w7 := zI.trans (hbt7.below (fun g hg => by unfold AddT at hg; omega) (by have := zI.size; omega))
   clear hsc7
   go_wp2
   go_roundw
   case rel =>
    refine ⟨k + 1, by omega, by go_num, hbw7, Lib.hid ?_⟩
    rw [HTK.out, Ev, o8, pU, nC, nC, oQ, rF]
    exact HS7.out
   case measure => simp [intOf]; omega
  ·obtain rfl : k = l.length := by omega
   have hkI : ¬ (l.length : Int) < (l.length : Int) := by omega
   rw [List.take_length] at hsc
   go_wp2
   go_ret
   exact ⟨b, kb, db, wb, cb, zb, _, _, rfl, hsc.out, hb⟩
def kH (l : List Dc) (t : Tm) : Nat := if (dO t).2 ≠ 0 then (dO t).2 else iW (tab l) (aF l) t
theorem term_any2 (l : List Dc) (A : Option Addr) (c : Nat) (t : Tm) (v : Value) (w : World) (S : Nat → Prop) (hl : aL (dx w S) w S 22 A l) (ht : dN w S t v) (hS : ∀ g, S g → g < w.heap.size) (hB : BOk l) (hsz : av t ≤ 2000000) (hpw : Pow w) :
  Calls prog 28 #[.slice A l.length c, v] w fun e w' => e = .returned (.int .i64 (kH l t)) ∧ Below w.heap.size w w' := by
 have hbA : ∀ o, Below w.heap.size w (w.alloc o) := fun o => (Below.refl _ _).alloc (Nat.le_refl _) o
 have ht2 := ht
 obtain ⟨op, nm, nd, wA, wn, wc, kA, kn, kc, rfl⟩ := ht2.form
 obtain ⟨fe, hfe⟩ : ∃ fe, fe = (dO t).2 := ⟨_, rfl⟩
 have HF := Lib.hid (fun o => wC t _ (w.alloc o) S (ht.keep (aH (hbA o))) (fun g hg => by have := hS g hg; simp; omega) (by omega) (hpw.below (hbA o)))
 simp only [← hfe] at HF
 have HBE := Lib.hid (fun (W : World) (hb : Below w.heap.size w W) => Hq l A c W S (hl.keep (ai hb hS) (fun _ _ h => h.keep (ai hb hS))) (fun g hg => by have := hS g hg; have := hb.size; omega) hB)
 have HT := Lib.hid (fun (W : World) (hb : Below w.heap.size w W) => ht.keep (ai hb hS))
 obtain ⟨r, hr⟩ : ∃ r, r = kH l t := ⟨_, rfl⟩
 rw [← hr]
 unfold kH at hr
 rw [← hfe] at hr
 have HR := Lib.hid hr
 clear ht ht2 hl hB hpw hfe hr
 go_enter func28, ntmps28
 go_wp2_with fail
 refine (HF.out _).mono ?_
 rintro e W1 ⟨rfl, hb1⟩
 have hs1 := hb1.size
 rw [show (w.alloc (.cells #[.int .i64 op, .string nm, .int .i64 nd, .slice wA wn wc, .slice kA kn kc] 26)).heap.size = w.heap.size + 1 by simp] at hs1 hb1
 have gW : Below w.heap.size w W1 := (hbA _).trans (hb1.mono (by omega))
 have hr1 : W1.heap[w.heap.size]? = some (.cells #[.int .i64 op, .string nm, .int .i64 nd, .slice wA wn wc, .slice kA kn kc] 26 (0, 0)) := (hb1.block _ (by omega)).trans (heap_alloc_new w _)
 obtain ⟨c0, c1, c2, c3, c4, -⟩ := sI hr1
 have HR1 := Lib.hid hr1
 clear hr1 hb1
 by_cases hz : fe = 0
 ·subst hz
  have hr2 := HR.out
  rw [if_neg (by decide)] at hr2
  have HR2 := Lib.hid hr2
  have hlt2 : w.heap.size < W1.heap.size := by omega
  clear hr2
  go_wp2_with fail
  go_region_held3 (fun w' => w'.cell? ⟨w.heap.size, 0, none⟩ = some (.int .i64 op) ∧ w'.cell? ⟨w.heap.size, 1, none⟩ = some (.string nm) ∧ w'.cell? ⟨w.heap.size, 2, none⟩ = some (.int .i64 nd) ∧ w'.cell? ⟨w.heap.size, 3, none⟩ = some (.slice wA wn wc) ∧ w'.cell? ⟨w.heap.size, 4, none⟩ = some (.slice kA kn kc)) (first | go_keep | exact hkeep3 | exact hkeep4)
   (first | (go_at_call 64; (refine (HBE.out _ (below_drewN gW _)).mono ?_; rintro e W3 ⟨b, kb, db, wb, cb, zb, n, zn, rfl, hsc, hb3⟩; have hz3 : W1.heap.size ≤ W3.heap.size := hb3.size; have jw : Below w.heap.size w W3 := (below_drewN gW _).trans (hb3.mono (show w.heap.size ≤ W1.heap.size from Nat.le_of_lt hlt2)); have hr3 := (hb3.block _ (show w.heap.size < W1.heap.size from hlt2)).trans HR1.out; have hkeep3 := xE hr3; have HSC := Lib.hid hsc; clear hsc)) | (go_at_call 65; (refine (mW t _ W3 S (HT.out _ jw) (fun g hg => by have := hS g hg; omega) (by omega) (yx HSC.out.row).1 (yx HSC.out.row).2.2.1 HSC.out.kinds).mono ?_; rintro e W4 ⟨rfl, hb4⟩; have hr4 := (hb4.block _ (lt_of_block hr3)).trans hr3; have hkeep4 := xE hr4)))
  all_goals (
   go_wp2
   go_ret
   have e9 := HR2.out
   rw [← kD] at e9
   exact ⟨by rw [e9]; rfl, jw.trans (hb4.mono jw.size)⟩)
 ·have hqn : ((fe : Int) != 0) = true := jF hz
  have hr2 := HR.out
  rw [if_pos hz] at hr2
  have HR2 := Lib.hid hr2
  clear hr2 hz
  go_wp2
  go_ret
  exact ⟨by rw [HR2.out]; rfl, gW⟩
end Go.Proofs.YtmohibkomlhlaaaGreatDoor
