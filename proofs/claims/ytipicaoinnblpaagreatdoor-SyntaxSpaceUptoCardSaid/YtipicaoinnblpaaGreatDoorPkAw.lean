/- The examples of the chapter, in plain functions. No condition. The contract of awake: the examples of the chapter hold. What the listed package-level variables give (the table of the powers of ten lies in the world), and a world for the witness. The last step of a law's row: the law has returned true and all that was there stays; so each argument reads as it did. No condition. -/
import Derived.Test.YtipicaoinnblpaaGreatDoorPkFmtb
import Derived.Test.YtipicaoinnblpaaGreatDoorCards
import Derived.Test.YtipicaoinnblpaaGreatDoorTie
import Derived.Test.YtipicaoinnblpaaGreatDoorPkFmta
import Derived.ProofKit
import Derived.OpenShut
import Derived.ChangeMaps5
import Derived.Deep.DeepHandedRow
import Derived.Lib.LaidTab
import Derived.WideKeyArgs
namespace Go.Proofs.YtipicaoinnblpaaGreatDoor

def awText : List UInt8 := [113, 117, 111, 114, 117, 109, 32, 113, 32, 61, 32, 50, 40, 97, 44, 32, 98, 32, 38, 32, 99, 44, 32, 100, 117, 97, 108, 40, 97, 108, 108, 40, 104, 111, 109, 101, 41, 41, 41, 32, 124, 32, 109, 97, 106, 111, 114, 105, 116, 121, 40, 115, 101, 114, 118, 101, 114, 115, 41, 59]
def awSite : List UInt8 := [115, 105, 116, 101, 32, 104, 111, 109, 101, 32, 123, 97, 44, 98, 125]
def awTerm : List UInt8 := [97, 32, 124, 32, 40, 98, 32, 38, 32, 99, 41]
def awKid : Tm := .mk 2 (bs []) 2 [] [.named (bs [97]), .mk 3 (bs []) 0 [] [.named (bs [98]), .named (bs [99])], .mk 5 (bs []) 0 [] [.mk 7 (bs [104, 111, 109, 101]) 0 [] []]]
def awKid2 : Tm := .mk 6 (bs [115, 101, 114, 118, 101, 114, 115]) 0 [] []
def awTm : Tm := .mk 4 (bs []) 0 [] [awKid, awKid2]
def awDc : Dc := ⟨3, 1, bs [113], [], [], awTm, bs [], .zero, .zero, bs []⟩
def awTm2 : Tm := .mk 4 (bs []) 0 [] [.named (bs [97]), .mk 3 (bs []) 0 [] [.named (bs [98]), .named (bs [99])]]
theorem aw_parse : parseOf 4 awText = ([awDc], 0, 0) := by kernel_rfl
theorem aw_site : parseOf 4 awSite = ([], 1, 2) := by kernel_rfl
theorem aw_term : termOf awTerm = (awTm2, 0, 0) := by kernel_rfl
theorem aw_format : formatOf [awDc] = (awText ++ [10], 0) := by kernel_rfl
theorem aw_formatTerm : formatTermOf awTm2 = ([97, 32, 124, 32, 98, 32, 38, 32, 99], 0) := by kernel_rfl
theorem aw_len : (dcsText [awDc]).length ≤ 100000000000000 := by decide +kernel
end Go.Proofs.YtipicaoinnblpaaGreatDoor
namespace Go.Proofs.YtipicaoinnblpaaGreatDoor
open Go.RowKit

theorem aw_cells {w : World} {S : Nat → Prop} {A : Option Addr} (h : ListAt (DcAt w S) w S 22 A [awDc]) :
    ∃ g o g2 o2 kc kA3 kc3, A = some ⟨g, o, none⟩ ∧ S g ∧ S g2 ∧ w.cell? ⟨g, o + 5, none⟩ = some (.int .i64 4) ∧ w.cell? ⟨g, o + 9, none⟩ = some (.slice (some ⟨g2, o2, none⟩) 2 kc) ∧ w.cell? ⟨g2, o2 + 4, none⟩ = some (.slice kA3 3 kc3) := by
  obtain ⟨g, o, v, hA, hS, hp, hc⟩ := el_cells (fun _ _ h => dc_len h) h (i := 0) (by simp)
  obtain ⟨nA, nc, fA, fc, vt, vr, vw, rfl, -, -, -, -, h5, h6, h7⟩ := hp
  have h5 : TmAt w S awTm vt := h5
  unfold awTm at h5
  cases h5 with
  | mk op nm need ws kids wA kA cw kc vs hw hwc hk hkc hl h =>
  obtain ⟨g2, o2, op, nm, nd, wA2, wn, wc2, kA2, kn, kc2, rfl, hS2, ht, -, -, -, -, k4, -⟩ := term_cells (l := [awKid, awKid2]) (i := 0) (w := w) (S := S) (A := kA) ⟨vs, hl, hk, h⟩ (by simp)
  have ht : TmAt w S awKid _ := ht
  obtain ⟨kA3, kc3, e⟩ : ∃ kA3 kc3, Value.slice kA2 kn kc2 = .slice kA3 3 kc3 := by
    unfold awKid at ht
    cases ht
    exact ⟨_, _, rfl⟩
  rw [e] at k4
  obtain ⟨o3, m3, d3, wA3, wn3, wc3, kA9, kn3, kc9, rfl⟩ := h6.form
  obtain ⟨o4, m4, d4, wA4, wn4, wc4, kA8, kn4, kc8, rfl⟩ := h7.form
  refine ⟨g, o, g2, o2, kc, kA3, kc3, hA, hS, hS2, ?_, ?_, ?_⟩
  · have := hc 5 (.int .i64 4) (by simp [cellsOf, Value.cells])
    rwa [Nat.zero_mul, Nat.add_zero] at this
  · have := hc 9 (.slice (some ⟨g2, o2, none⟩) 2 kc) (by simp [cellsOf, Value.cells])
    rwa [Nat.zero_mul, Nat.add_zero] at this
  · rwa [Nat.zero_mul, Nat.add_zero] at k4
theorem aw_lim : ∀ d ∈ [awDc], TLim d := by
  intro d hd
  rw [List.mem_singleton.1 hd]
  refine ⟨by decide, by decide, ?_, by decide, by decide, by decide⟩
  intro f hf
  simp [awDc] at hf

set_option maxRecDepth 100000 in
set_option maxHeartbeats 4000000 in
theorem awake23_any (w : World) (hpw : Pow w) : Calls Tryz.prog 11 #[] w fun e w' => e = .returned (.bool true) ∧ Below w.heap.size w w' := by
  have HP := Lib.hid hpw
  have P1 := Lib.hid (fun (W : World) => show Calls Tryz.prog 12 #[.string (bs awText)] W (PfPost ([awDc], 0, 0) W) by have h := parse_any (bs awText) W; rw [bs_data, aw_parse] at h; exact h)
  have P2 := Lib.hid (fun (W : World) => show Calls Tryz.prog 12 #[.string (bs awSite)] W (PfPost ([], 1, 2) W) by have h := parse_any (bs awSite) W; rw [bs_data, aw_site] at h; exact h)
  have P3 := Lib.hid (fun (W : World) => show Calls Tryz.prog 15 #[.string (bs awTerm)] W (TfPost (awTm2, 0, 0) W) by have h := termF_any (bs awTerm) W; rw [bs_data, aw_term] at h; exact h)
  clear hpw
  go_enter Tryz.func11, Tryz.ntmps11
  go_wp2_with fail
  refine (P1.out w).mono ?_
  rintro e W1 ⟨A1, c1, rfl, hc1, hl1, hb1⟩
  go_wp2_with fail
  refine (P2.out W1).mono ?_
  rintro e W2 ⟨A2, c2, rfl, hc2, hl2, hb2⟩
  go_wp2_with fail
  refine (P3.out W2).mono ?_
  rintro e W3 ⟨op, nm, nd, wA, wn, wc, kA, kn, kc, rfl, ht3, hb3⟩
  have hs1 := hb1.size
  have hs2 := hb2.size
  have hs3 := hb3.size
  have hbA : ∀ o, Below W3.heap.size W3 (W3.alloc o) := fun o => (Below.refl _ _).alloc (Nat.le_refl _) o
  have hw3 : Below w.heap.size w W3 := (hb1.trans (hb2.mono hs1)).trans (hb3.mono (by omega))
  have H4 := Lib.hid (fun o => formatTerm_any awTm2 _ (W3.alloc o) (fun g => W2.heap.size ≤ g ∧ g < W3.heap.size) ((ht3.mono (fun g h1 h2 => ⟨h1, h2⟩)).keep (kept_all (hbA o))) (fun g hg => by simp; omega) (by decide) (HP.out.below (hw3.trans ((hbA o).mono hw3.size))))
  clear ht3 hl2
  go_wp2_with fail
  refine (H4.out _).mono ?_
  rintro e W4 ⟨rfl, hb4⟩
  have hs4 := hb4.size
  rw [show (W3.alloc (.cells #[.int .i64 op, .string nm, .int .i64 nd, .slice wA wn wc, .slice kA kn kc] 32)).heap.size = W3.heap.size + 1 by simp] at hs4 hb4
  have hw34 : Below W3.heap.size W3 W4 := (hbA _).trans (hb4.mono (by omega))
  have hw14 : Below W1.heap.size W1 W4 := (hb2.trans (hb3.mono hs2)).trans (hw34.mono (by omega))
  have hw4 : Below w.heap.size w W4 := hb1.trans (hw14.mono hs1)
  have hl4 := (hl1.mono (S' := fun g => w.heap.size ≤ g ∧ g < W1.heap.size) (P' := DcAt W1 (fun g => w.heap.size ≤ g ∧ g < W1.heap.size)) (fun g h1 h2 => ⟨h1, h2⟩) (by decide) (fun _ _ h => h.mono fun g h1 h2 => ⟨h1, h2⟩)).keep (P' := DcAt W4 (fun g => w.heap.size ≤ g ∧ g < W1.heap.size)) (kept_of hw14 (fun g hg => hg.2)) (fun _ _ h => h.keep (kept_of hw14 (fun g hg => hg.2)))
  obtain ⟨g, o, g2, o2, kc5, kA3, kc3, rfl, hSg, hSg2, k5, k9, k4⟩ := aw_cells hl4
  have hgs : g < W4.heap.size := by omega
  have hg2s : g2 < W4.heap.size := by omega
  have HF := Lib.hid (format_any [awDc] (some ⟨g, o, none⟩) c1 W4 (fun g => w.heap.size ≤ g ∧ g < W1.heap.size) hl4 (fun g hg => by omega) (by decide) aw_lim (fun _ => aw_len) (HP.out.below hw4))
  rw [aw_formatTerm]
  clear hl1 hl4 H4
  go_wp2_with fail
  refine HF.out.mono ?_
  rintro e W5 ⟨rfl, hb5⟩
  rw [aw_format]
  have q1 : (bs (awText ++ [10])).toList = [113, 117, 111, 114, 117, 109, 32, 113, 32, 61, 32, 50, 40, 97, 44, 32, 98, 32, 38, 32, 99, 44, 32, 100, 117, 97, 108, 40, 97, 108, 108, 40, 104, 111, 109, 101, 41, 41, 41, 32, 124, 32, 109, 97, 106, 111, 114, 105, 116, 121, 40, 115, 101, 114, 118, 101, 114, 115, 41, 59, 10] := by rw [ByteArray.toList_eq, bs_data]; rfl
  have q2 : (bs [97, 32, 124, 32, 98, 32, 38, 32, 99]).toList = [97, 32, 124, 32, 98, 32, 38, 32, 99] := by rw [ByteArray.toList_eq, bs_data]
  go_wp2
  go_ret
  exact ⟨rfl, hw4.trans (hb5.mono hw4.size)⟩
end Go.Proofs.YtipicaoinnblpaaGreatDoor
namespace Go.Proofs.YtipicaoinnblpaaGreatDoor
open Go.ChangeShapes Go.WideShapes Go.ChangeAt Go.RowKit

theorem own_knob : ownKnob Tryz.prog.godebug = none := by kernel_rfl
theorem gPowType : (Tryz.prog.globals[3]?).map (·.type) = some 167 := by kernel_rfl
theorem cellsPow : Tryz.prog.cellsOf 167 = 20 := by kernel_rfl
theorem cellsU64 : Tryz.prog.cellsOf 125 = 1 := by kernel_rfl
def laid3 : List (String × DataW Unit) := [("math/bits.deBruijn32tab", Rows.laid_math_bits_deBruijn32tab), ("math/bits.deBruijn64tab", Rows.laid_math_bits_deBruijn64tab), ("internal/strconv.uint64pow10", Rows.laid_internal_strconv_uint64pow10)]
theorem laid_tail {P : Program} {W : World} {x : String × DataW Unit} {rest : List (String × DataW Unit)} (h : laidMet P (x :: rest) W) : laidMet P rest W := by
  obtain ⟨ps, ⟨g', t', cs, fuel, p, q, hg', ht', hvar, hd, hr, he⟩, hn, hc⟩ := h
  subst he
  exact ⟨q, hr, (List.nodup_append.1 hn).2.1, fun b off hm => hc b off (List.mem_append_right _ hm)⟩
theorem pow_of_laid {W : World} (h : laidMetH Tryz.prog laid3 W) : Pow W := by
  rw [MakeChecks.laidMetH_plain _ _ _ (by kernel_rfl)] at h
  exact Lib.tabIs_of_head gPow gPowType Tryz.underlying167 Tryz.underlying125 cellsU64 cellsPow (rest := []) (zs := Lib.pow10Tab) (by have h2 := laid_tail (laid_tail h); exact h2)
/-- The cells of a table of integers, of a table of tables. -/
def tabVal : DataW Unit → Value
  | .lit (.int k n) => .int k n
  | _ => .bool false
def tabVals : DataW Unit → List Value
  | .agg l => l.map tabVal
  | _ => []
def tabVals2 : DataW Unit → List Value
  | .agg l => l.flatMap tabVals
  | _ => []
def layAt (h : Array Obj) (g : Nat) (vs : List Value) : Array Obj := h.modify g fun
  | .cells _ t frozen => .cells vs.toArray t frozen
  | o => o
/-- A world for the witness: the settled one, the listed tables holding what their initialisers lay. -/
noncomputable def laidWorld (os : Os) : World :=
  { World.holding Tryz.prog os ⟨#[], #[], []⟩ with heap := layAt (layAt (layAt (World.holding Tryz.prog os ⟨#[], #[], []⟩).heap 4 (tabVals Rows.laid_math_bits_deBruijn32tab)) 5 (tabVals Rows.laid_math_bits_deBruijn64tab)) 3 (tabVals Rows.laid_internal_strconv_uint64pow10) }
set_option maxRecDepth 100000 in
theorem laid_met (os : Os) (args : Array Value) : laidMet Tryz.prog laid3 ((laidWorld os).forCall (fun _ _ => 0) ⟨#[], args, []⟩).memory :=
  laidMet_of_run' 8 (by kernel_rfl) (by kernel_rfl)

/-- The row's last step where the call leaves all that was there as it was. -/
theorem post_of_below {H : Type} {enc : TypeId × Value → H} {P : Program} {f : Func} {s : ChangeSpec} {apart fresh handsOn again : Bool} {W W' : World} {args : Array Value} {v : Value} {ds gs : List (DataW H)} {before pa pv : List MemPlace}
    (hW : DataW.Whole enc P f.params.toList s.vars apart W args.toList ds gs before)
    (hres : ∀ (b : Nat) (sp : Nat → Bool) (hd : Bool), DataW.TrodAll enc P W' b sp hd f.resultTypes.toList (v.resultList f.resultTypes.size) (s.fn H (ds ++ gs)).results [])
    (hargs : ∀ sp : Nat → Bool, (∀ p ∈ before, sp p.block = true) → DataW.TrodAll enc P W' 0 sp true f.params.toList args.toList (s.fn H (ds ++ gs)).args pa)
    (hvars : ∀ sp : Nat → Bool, (∀ p ∈ before, sp p.block = true) → DataW.TrodVars enc P W' sp s.vars (s.fn H (ds ++ gs)).vars pv)
    (hps : before = pa ++ pv) (hb : Below W.heap.size W W')
    (hok : ∀ (j : Nat) (t : TypeId) (r : Value), f.resultTypes[j]? = some t → (v.resultList f.resultTypes.size)[j]? = some r → Value.okWide P W' .any 0 t r) :
    s.post enc P f apart fresh handsOn again W args v W' := by
  have hin : ∀ p ∈ before, p.block < W.heap.size := fun p hp => hW.lt p hp
  have hset : ∀ p ∈ before, (fun b => decide (b < W.heap.size)) p.block = true := fun p hp => decide_eq_true (hin p hp)
  refine ⟨ds, gs, before, [], pa, pv, hW, hres _ _ _, hargs _ hset, hvars _ hset, World.keptBut_mono (fun p hp => ⟨hp, ?_⟩) (hb.frame (· ∈ before)), fun _ => ?_⟩
  · rw [hps, List.mem_append] at hp
    exact Or.inr hp
  · obtain ⟨_, _, _, _, _, hz, hn⟩ := hW
    refine ⟨hok, _, _, ([] ++ pa) ++ pv, ⟨[] ++ pa, pv, trodAll_append (hargs _ (fun _ _ => rfl)) (hres _ _ _), hvars _ (fun _ _ => rfl), rfl, fun b off hp => ?_, fun ha => ?_⟩, fun p hp _ => ?_⟩
    · have hp' : MemPlace.cell b off ∈ before := by rw [hps]; simpa using hp
      rw [hb.frozen (hin _ hp')]
      exact hz b off hp'
    · have h := hn ha
      rw [hps] at h
      simpa using h
    · rw [hps]
      simpa using hp
end Go.Proofs.YtipicaoinnblpaaGreatDoor
namespace Go.Proofs.YtipicaoinnblpaaGreatDoor
open Go.ChangeShapes Go.WideShapes Go.ChangeAt Go.RowKit

theorem laidOut : laidOutB Tryz.prog = true := by kernel_rfl

theorem trodAll_stays {H : Type} {enc : TypeId × Value → H} {W W' : World} (hb : Below W.heap.size W W') (sp : Nat → Bool) :
    ∀ {ts : List TypeId} {vs : List Value} {ds : List (DataW H)} {ps : List MemPlace}, (ts.all fun t => Tryz.prog.readableRec t && decide (t < Tryz.prog.types.size)) = true → DataW.TrodAll enc Tryz.prog W 0 (fun _ => true) true ts vs ds ps → (∀ x ∈ ps, x.block < W.heap.size) → (∀ x ∈ ps, sp x.block = true) →
      DataW.TrodAll enc Tryz.prog W' 0 sp true ts vs ds ps := by
  intro ts
  induction ts with
  | nil =>
    intro vs ds ps _ h _ _
    obtain ⟨rfl, rfl, rfl⟩ := trodAll_nil h
    exact trodAll_mk0
  | cons t ts ih =>
    intro vs ds ps hr h hlt hsp
    obtain ⟨v, vs', d, ds', p, q, rfl, rfl, rfl, h1, h2⟩ := trodAll_cons h
    simp only [List.all_cons, Bool.and_eq_true, decide_eq_true_eq] at hr
    refine trodAll_cons_mk (WideElems.Trod_stays laidOut hr.1.1 hr.1.2 h1 (fun x hx => hb.same (hlt x (List.mem_append_left _ hx))) (fun x hx => hsp x (List.mem_append_left _ hx))) (ih (by simpa using hr.2) h2 (fun x hx => hlt x (List.mem_append_right _ hx)) (fun x hx => hsp x (List.mem_append_right _ hx)))

set_option maxRecDepth 100000 in
/-- The law's row, from the walk's end. -/
theorem close_law {H : Type} {enc : TypeId × Value → H} {f : Func} {s : ChangeSpec} {W W' : World} {args : Array Value} {ds : List (DataW H)} {before : List MemPlace}
    (hread : (f.params.toList.all fun t => Tryz.prog.readableRec t && decide (t < Tryz.prog.types.size)) = true) (hres : f.resultTypes = #[4]) (hv : s.vars = [])
    (hW : DataW.Whole enc Tryz.prog f.params.toList s.vars false W args.toList ds [] before) (hfn : s.fn H (ds ++ []) = { results := [.lit (.bool true)], args := ds, vars := [] }) (hb : Below W.heap.size W W') :
    s.post enc Tryz.prog f false true false false W args (.bool true) W' := by
  have hW' := hW
  obtain ⟨p, q, hA, hV, rfl, hfz, hnd⟩ := hW
  rw [hv] at hV
  obtain ⟨_, rfl⟩ := trodVars_none hV
  refine post_of_below (pa := p) (pv := []) hW' ?_ ?_ ?_ rfl hb ?_
  · intro b sp hd
    rw [hfn, hres]
    exact trodAll_cons_mk (shut_bool Tryz.underlying4 _) trodAll_mk0
  · intro sp hsp
    rw [hfn]
    exact trodAll_stays hb sp hread hA (fun x hx => hW'.lt x (by simpa using hx)) (fun x hx => hsp x (by simpa using hx))
  · intro sp _
    rw [hfn, hv]
    rfl
  · exact ok_one hres rfl (okWide_bool_mk Tryz.underlying4 _)
end Go.Proofs.YtipicaoinnblpaaGreatDoor
