/- The contracts of Names and of Size: the names in a term, in order, of the program and of the reference; and the size and depth of a term. Terms of a size up to a bound. The contract of the reference's Size: the size and the depth of a term. Terms of a size up to a bound. -/
import Derived.Test.YtipicaoinnblpaaGreatDoorPkFmta
import Derived.Maps.AppendAt
namespace Go.Proofs.YtipicaoinnblpaaGreatDoor
open Go.RowKit

/-- Strings appended to a row of strings of the call's own, the source nil or not. -/
theorem run_strs (w : World) (ty : TypeId) (base : Nat) (v : Value) (n : Nat) (xs : List Value) (hown : w.ownsRow base 9 1 v n xs) (S : Nat → Prop) (A : Option Addr) (c : Nat) (ss : List ByteArray) (hr : SeesIn w S 1 A ss.length (strVals ss))
    (hn : n ≤ 1000000000000) (hm : ss.length ≤ 1000000000000) (hbase : base ≤ w.heap.size) :
    ∃ v' w', (Builtin.append_ #[45, 45] ty #[v, .slice A ss.length c]).run Tryz.prog w = .ok v' w' ∧ w'.ownsRow base 9 1 v' (n + ss.length) (xs ++ strVals ss) ∧ w.grownBy w' v.ownBlock ∧ (v'.ownBlock = v.ownBlock ∨ v'.ownBlock = some w.heap.size) := by
  obtain ⟨i0, hi, hz0, hz1, hz2⟩ := info_parts info_str
  have hone : ∀ u ∈ strVals ss, u.oneCell' = true := by
    intro u hu
    obtain ⟨s, _, rfl⟩ := List.mem_map.1 hu
    rfl
  cases A with
  | none =>
    have h0 : ss = [] := by
      rcases Nat.eq_zero_or_pos ss.length with h0 | h0
      · exact List.eq_nil_of_length_eq_zero h0
      · obtain ⟨g, o, e, _⟩ := hr.2 h0
        cases e
    subst h0
    refine ⟨v, w, ?_, by simpa [strVals] using hown, grown_refl _ _, Or.inl rfl⟩
    have ht := Tryz.underlying45
    rcases hown.2 with ⟨rfl, rfl⟩ | ⟨g, cap, cur, rfl, _, _, hnc, _⟩
    · simp [Builtin.append_, run_underlying ht, sizeOf, typeInfo, hi, Builtin.lenOf, Builtin.firstCells]
    · simp [Builtin.append_, run_underlying ht, sizeOf, typeInfo, hi, Builtin.lenOf, Builtin.firstCells, hnc, storeCells]
  | some ad =>
    have hc : ∀ j u, (strVals ss)[j]? = some u → w.cell? (ad.add j) = some u := by
      intro j u hu
      have hp : 0 < ss.length := by
        have := (List.getElem?_eq_some_iff.1 hu).1
        simp [strVals] at this; omega
      obtain ⟨g, o, e, _, h⟩ := hr.2 hp
      cases e
      rw [Go.WideShapes.add_plain]; exact h j u hu
    obtain ⟨v', w', h1, h2, h3, _, h5⟩ := run_append_own_at (P := Tryz.prog) w base 45 ty 9 i0 (.string ByteArray.empty) 1 16 Tryz.underlying45 hi hz0 hz1 hz2 rfl (by decide) v n xs hown ad ss.length c (strVals ss) (by simp [strVals]) hc hone (by unfold maxLen; omega) (by omega) hbase
    exact ⟨v', w', h1, h2, h3, h5⟩
theorem wp_strs (w : World) {ops : Array Oper} {rest : List Oper} {o : Oper} {a : Act} {Q : Exit → Act → World → Prop} (hgd : o.guard = none) (s x : Operand)
    (ho : o.op = .call { callee := .builtin .append, args := #[s, x], argTypes := #[45, 45] })
    (base : Nat) (v : Value) (n : Nat) (xs : List Value) (hown : w.ownsRow base 9 1 v n xs) (hs : a.eval s = v)
    (S : Nat → Prop) (A : Option Addr) (m c : Nat) (ss : List ByteArray) (hx : a.eval x = .slice A m c) (hmm : m = ss.length) (hr : SeesIn w S 1 A ss.length (strVals ss))
    (hn : n ≤ 1000000000000) (hm : ss.length ≤ 1000000000000) (hbase : base ≤ w.heap.size)
    (h : ∀ v' w', w'.ownsRow base 9 1 v' (n + ss.length) (xs ++ strVals ss) → w.grownBy w' v.ownBlock → (v'.ownBlock = v.ownBlock ∨ v'.ownBlock = some w.heap.size) → wpList Tryz.prog ops Q rest (a.put o.dst v') w') :
    wpList Tryz.prog ops Q (o :: rest) a w := by
  subst hmm
  refine wpList_plain hgd fun _ hK => ?_
  obtain ⟨v', w', h1, h2, h3, h4⟩ := run_strs w o.type base v n xs hown S A c ss hr hn hm hbase
  unfold Oper.wp execOp
  simp only [ho, resolve, invoke, builtin, Sem.run_bind, Sem.run_pure, Result.andThen_ok, List.map_toArray, List.map_cons, List.map_nil, hs, hx, h1]
  exact hK _ _ (h v' w' h2 h3 h4)

theorem tmsNames_snoc (l : List Tm) (k : Nat) (h : k < l.length) : tmsNames (l.take (k + 1)) = tmsNames (l.take k) ++ tmNames l[k] := by
  rw [tmsNames_flat, tmsNames_flat, List.take_succ_eq_append_getElem h, List.flatMap_append]; simp
mutual
theorem tmNames_le : ∀ t : Tm, (tmNames t).length ≤ tmSize t
  | .mk op name need ws kids => by
    have h := tmsNames_le kids
    rw [tmNames, tmSize, List.length_append]
    have : (if name.size = 0 then ([] : List ByteArray) else [name]).length ≤ 1 := by split <;> simp
    omega
theorem tmsNames_le : ∀ l : List Tm, (tmsNames l).length ≤ tmsSize l
  | [] => by simp [tmsNames]
  | t :: r => by
    have h1 := tmNames_le t
    have h2 := tmsNames_le r
    rw [tmsNames, tmsSize, List.length_append]; omega
end
theorem tmsNames_take (l : List Tm) (k : Nat) : (tmsNames (l.take k)).length ≤ tmsSize l := by
  have h := tmsNames_le l
  have e : tmsNames l = tmsNames (l.take k) ++ tmsNames (l.drop k) := by
    rw [tmsNames_flat, tmsNames_flat, tmsNames_flat, ← List.flatMap_append, List.take_append_drop]
  rw [e, List.length_append] at h
  omega
def ownName (name : ByteArray) : List ByteArray := if name.size = 0 then [] else [name]
theorem tmNames_mk (op : Int) (name : ByteArray) (need : Int) (ws : List Int) (kids : List Tm) : tmNames (.mk op name need ws kids) = ownName name ++ tmsNames kids := by rw [tmNames]; rfl

theorem ownName_le (name : ByteArray) : (ownName name).length ≤ 1 := by unfold ownName; split <;> simp

/-- What Names leaves. -/
def NmPost (ns : List ByteArray) (w : World) (e : Ending) (w' : World) : Prop := ∃ (A : Option Addr) (c : Nat), e = .returned (.slice A ns.length c) ∧ ns.length ≤ c ∧ SeesIn w' (w.heap.size ≤ ·) 1 A ns.length (strVals ns) ∧ Below w.heap.size w w'
def NmOk (f : FuncId) (t : Tm) : Prop := ∀ (v : Value) (w : World) (S : Nat → Prop), TmAt w S t v → (∀ g, S g → g < w.heap.size) → tmSize t ≤ 1000000000 → Calls Tryz.prog f #[v] w (NmPost (tmNames t) w)

set_option maxRecDepth 100000 in
set_option maxHeartbeats 8000000 in
theorem names_step (t : Tm) (ih : ∀ k ∈ t.kids, NmOk 26 k) : NmOk 26 t := by
  intro v w S hv hS hsz
  have hss := tmsSize_kids t
  cases hv with
  | mk op nm need ws kids wA kA cw kc vs hw hwc hk hkc hl h =>
  have hss : tmSize (.mk op nm need ws kids) = 1 + nm.size + ws.length + tmsSize kids := hss
  have hkl := tms_length kids
  have HSZ := Lib.hid (show tmsSize kids ≤ 1000000000 by omega)
  have IH := Lib.hid (show ∀ k ∈ kids, NmOk 26 k from ih)
  have HL := Lib.hid (show ListAt (TmAt w S) w S 5 kA kids from ⟨vs, hl, hk, h⟩)
  have hkb : kids.length ≤ 1000000000 := by omega
  clear ih hw hk hl h hss hsz
  rw [tmNames_mk]
  obtain ⟨w0, hw0⟩ : ∃ w0 : World, w0 = w.alloc (.cells #[.int .i64 op, .string nm, .int .i64 need, .slice wA ws.length cw, .slice kA kids.length kc] 32) := ⟨_, rfl⟩
  have hb0 : Below w.heap.size w w0 := by rw [hw0]; exact (Below.refl _ _).alloc (Nat.le_refl _) _
  have hz0 : w0.heap.size = w.heap.size + 1 := by rw [hw0]; simp
  have hr0 : w0.heap[w.heap.size]? = some (.cells #[.int .i64 op, .string nm, .int .i64 need, .slice wA ws.length cw, .slice kA kids.length kc] 32 (0, 0)) := by rw [hw0]; exact heap_alloc_new w _
  have hlt0 : w.heap.size + 1 ≤ w0.heap.size := by omega
  have HW0 := Lib.hid hw0
  have HZ0 := Lib.hid hz0
  have HR0 := Lib.hid hr0
  obtain ⟨c0, c1, c2, c3, c4, -⟩ := row5 hr0
  clear hw0 hz0 hr0
  by_cases hn0 : nm.size = 0
  · obtain rfl : nm = ⟨#[]⟩ := by
      obtain ⟨⟨l⟩⟩ := nm
      have : l = [] := List.eq_nil_of_length_eq_zero (by simpa [ByteArray.size] using hn0)
      rw [this]
    have HE := Lib.hid (show ownName ⟨#[]⟩ = [] from rfl)
    clear hn0
    go_enter Tryz.func26, Tryz.ntmps26
    go_wp2
    rw [← HW0.out]
    go_loopw [3, 17] (fun v x wr => ∃ k : Nat, k ≤ kids.length ∧ x = .int .i64 k ∧ wr.ownsRow (w.heap.size + 1) 9 1 v (ownName ⟨#[]⟩ ++ tmsNames (kids.take k)).length (strVals (ownName ⟨#[]⟩ ++ tmsNames (kids.take k))) ∧ Below (w.heap.size + 1) w0 wr) (fun _ x _ => kids.length - (intOf x).toNat)
    case atStart => exact ⟨0, Nat.zero_le _, rfl, World.ownsRow_nil _ _ _ _, Below.refl _ _⟩
    case round =>
      obtain ⟨k, hk, rfl, hown, hb⟩ := hrel
      have hsr := hb.size
      have hbw : Below w.heap.size w wr := hb0.trans (hb.mono (by omega))
      have hr1 := (hb.block _ (by omega)).trans HR0.out
      obtain ⟨c0, c1, c2, c3, c4, -⟩ := row5 hr1
      clear hr1
      by_cases hlt : k < kids.length
      · have hlr := HL.out.keep (P' := TmAt wr S) (kept_of hbw hS) (fun _ _ h => h.keep (kept_of hbw hS))
        obtain ⟨g, o, op1, nm1, nd1, wA1, wn1, wc1, kA1, kn1, kc1, rfl, hSg, htm, k0, k1, k2, k3, k4, -⟩ := term_cells hlr hlt
        have hgs : g < wr.heap.size := World.block_lt_of_cell? wr _ k0
        have hkI : (k : Int) < (kids.length : Int) := by omega
        have hk0 : (0 : Int) ≤ (k : Int) := by omega
        have hmem : kids[k] ∈ kids := List.getElem_mem hlt
        have hts := tm_size_mem hmem
        have HC := Lib.hid (fun (W : World) (hW : Below wr.heap.size wr W) => IH.out _ hmem _ W S (htm.keep (kept_all hW)) (fun g hg => by have := hS g hg; have := hbw.size; have := hW.size; omega) (by have := HSZ.out; omega))
        have hsn := tmsNames_snoc kids k hlt
        have hln := tmsNames_take kids (k + 1)
        rw [hsn, List.length_append] at hln
        have hol := ownName_le ⟨#[]⟩
        obtain ⟨ns, hns⟩ : ∃ ns, ns = tmNames kids[k] := ⟨_, rfl⟩
        rw [← hns] at HC hsn hln
        have HSN := Lib.hid hsn
        have HBZ := Lib.hid HSZ.out
        have hlen2 : (ownName ⟨#[]⟩ ++ tmsNames (kids.take k)).length ≤ 1000000001 := by rw [List.length_append]; have := HSZ.out; omega
        have hlen3 : ns.length ≤ 1000000000 := by have := HSZ.out; omega
        clear htm hlr hns hsn hln
        go_wp2_with fail
        refine (HC.out _ ((Below.refl _ _).alloc (Nat.le_refl _) _)).mono ?_
        rintro e W2 ⟨A2, c2', rfl, hc2, hs2, hb2⟩
        rw [show (wr.alloc (.cells #[.int .i64 op1, .string nm1, .int .i64 nd1, .slice wA1 wn1 wc1, .slice kA1 kn1 kc1] 32)).heap.size = wr.heap.size + 1 by simp] at hs2 hb2
        have hb3 : Below wr.heap.size wr W2 := ((Below.refl _ _).alloc (Nat.le_refl _) _).trans (hb2.mono (by omega))
        have hown2 := own_below hown hb3 (Nat.le_refl _)
        have hsW := hb3.size
        clear k0 k1 k2 k3 k4 c0 c1 c2 c3 c4 hown hb2 HC
        go_wp2_with (at_builtin; refine wp_strs W2 rfl (.tmp 21) (.tmp 23) rfl (w.heap.size + 1) _ _ _ hown2 rfl _ A2 ns.length c2' ns rfl rfl hs2 (by omega) (by omega) (by omega) ?_; intro v' W3 hown3 hg3 _)
        have hbl := below_own hown2 hg3 (by omega)
        go_roundw
        case rel =>
          refine ⟨k + 1, by omega, by go_num, ?_, hb.trans ((hb3.mono (by omega)).trans hbl)⟩
          rw [HSN.out, ← List.append_assoc, List.length_append (bs := ns), show strVals ((ownName ⟨#[]⟩ ++ tmsNames (kids.take k)) ++ ns) = strVals (ownName ⟨#[]⟩ ++ tmsNames (kids.take k)) ++ strVals ns by simp [strVals]]
          exact hown3
        case measure => simp [intOf]; omega
      · obtain rfl : k = kids.length := by omega
        rw [List.take_length] at hown
        obtain ⟨A9, c9, rfl, hc9⟩ := own_slice hown
        have hkI : ¬ (kids.length : Int) < (kids.length : Int) := by omega
        have HO := Lib.hid hown
        clear hown
        go_wp2
        go_ret
        exact ⟨A9, c9, by rw [List.length_append]; rfl, hc9, (SeesIn.own HO.out).mono (fun g hg _ => by omega) (by decide), hbw⟩
  · have HE := Lib.hid (show ownName nm = [nm] by unfold ownName; rw [if_neg hn0])
    have hne2 := toList_ne (show 0 < nm.size by omega)
    have hne := toList_isEmpty (show 0 < nm.size by omega)
    clear hn0
    go_enter Tryz.func26, Tryz.ntmps26
    go_wp2_with (at_builtin; refine push_str _ rfl (.tmp 9) (.tmp 12) rfl (w.heap.size + 1) _ _ _ (World.ownsRow_nil _ _ _ _) rfl nm (by rw [alloc_size]; rfl) (by omega) (by rw [alloc_size]; omega) ?_; intro v' W1 hown1 hg1 _; rw [← HW0.out] at hg1; have hb1 : Below (w.heap.size + 1) w0 W1 := below_own (World.ownsRow_nil w0 (w.heap.size + 1) 9 1) hg1 hlt0; obtain ⟨-, -, -, -, d4, -⟩ := row5 ((hb1.block _ (by omega)).trans HR0.out))
    go_loopw [3, 17] (fun v x wr => ∃ k : Nat, k ≤ kids.length ∧ x = .int .i64 k ∧ wr.ownsRow (w.heap.size + 1) 9 1 v (ownName nm ++ tmsNames (kids.take k)).length (strVals (ownName nm ++ tmsNames (kids.take k))) ∧ Below (w.heap.size + 1) w0 wr) (fun _ x _ => kids.length - (intOf x).toNat)
    case atStart => exact ⟨0, Nat.zero_le _, rfl, by rw [HE.out]; exact hown1, hb1⟩
    case round =>
      obtain ⟨k, hk, rfl, hown, hb⟩ := hrel
      have hsr := hb.size
      have hbw : Below w.heap.size w wr := hb0.trans (hb.mono (by omega))
      have hr1 := (hb.block _ (by omega)).trans HR0.out
      obtain ⟨c0, c1, c2, c3, c4, -⟩ := row5 hr1
      clear hr1
      by_cases hlt : k < kids.length
      · have hlr := HL.out.keep (P' := TmAt wr S) (kept_of hbw hS) (fun _ _ h => h.keep (kept_of hbw hS))
        obtain ⟨g, o, op1, nm1, nd1, wA1, wn1, wc1, kA1, kn1, kc1, rfl, hSg, htm, k0, k1, k2, k3, k4, -⟩ := term_cells hlr hlt
        have hgs : g < wr.heap.size := World.block_lt_of_cell? wr _ k0
        have hkI : (k : Int) < (kids.length : Int) := by omega
        have hk0 : (0 : Int) ≤ (k : Int) := by omega
        have hmem : kids[k] ∈ kids := List.getElem_mem hlt
        have hts := tm_size_mem hmem
        have HC := Lib.hid (fun (W : World) (hW : Below wr.heap.size wr W) => IH.out _ hmem _ W S (htm.keep (kept_all hW)) (fun g hg => by have := hS g hg; have := hbw.size; have := hW.size; omega) (by have := HSZ.out; omega))
        have hsn := tmsNames_snoc kids k hlt
        have hln := tmsNames_take kids (k + 1)
        rw [hsn, List.length_append] at hln
        have hol := ownName_le nm
        obtain ⟨ns, hns⟩ : ∃ ns, ns = tmNames kids[k] := ⟨_, rfl⟩
        rw [← hns] at HC hsn hln
        have HSN := Lib.hid hsn
        have HBZ := Lib.hid HSZ.out
        have hlen2 : (ownName nm ++ tmsNames (kids.take k)).length ≤ 1000000001 := by rw [List.length_append]; have := HSZ.out; omega
        have hlen3 : ns.length ≤ 1000000000 := by have := HSZ.out; omega
        clear htm hlr hns hsn hln
        go_wp2_with fail
        refine (HC.out _ ((Below.refl _ _).alloc (Nat.le_refl _) _)).mono ?_
        rintro e W2 ⟨A2, c2', rfl, hc2, hs2, hb2⟩
        rw [show (wr.alloc (.cells #[.int .i64 op1, .string nm1, .int .i64 nd1, .slice wA1 wn1 wc1, .slice kA1 kn1 kc1] 32)).heap.size = wr.heap.size + 1 by simp] at hs2 hb2
        have hb3 : Below wr.heap.size wr W2 := ((Below.refl _ _).alloc (Nat.le_refl _) _).trans (hb2.mono (by omega))
        have hown2 := own_below hown hb3 (Nat.le_refl _)
        have hsW := hb3.size
        clear k0 k1 k2 k3 k4 c0 c1 c2 c3 c4 hown hb2 HC
        go_wp2_with (at_builtin; refine wp_strs W2 rfl (.tmp 21) (.tmp 23) rfl (w.heap.size + 1) _ _ _ hown2 rfl _ A2 ns.length c2' ns rfl rfl hs2 (by omega) (by omega) (by omega) ?_; intro v' W3 hown3 hg3 _)
        have hbl := below_own hown2 hg3 (by omega)
        go_roundw
        case rel =>
          refine ⟨k + 1, by omega, by go_num, ?_, hb.trans ((hb3.mono (by omega)).trans hbl)⟩
          rw [HSN.out, ← List.append_assoc, List.length_append (bs := ns), show strVals ((ownName nm ++ tmsNames (kids.take k)) ++ ns) = strVals (ownName nm ++ tmsNames (kids.take k)) ++ strVals ns by simp [strVals]]
          exact hown3
        case measure => simp [intOf]; omega
      · obtain rfl : k = kids.length := by omega
        rw [List.take_length] at hown
        obtain ⟨A9, c9, rfl, hc9⟩ := own_slice hown
        have hkI : ¬ (kids.length : Int) < (kids.length : Int) := by omega
        have HO := Lib.hid hown
        clear hown
        go_wp2
        go_ret
        exact ⟨A9, c9, by rw [List.length_append]; rfl, hc9, (SeesIn.own HO.out).mono (fun g hg _ => by omega) (by decide), hbw⟩
theorem names_of (t : Tm) : NmOk 26 t := by
  have : ∀ (n : Nat) (t : Tm), tmSize t ≤ n → NmOk 26 t := by
    intro n
    induction n with
    | zero => intro t ht; have : 0 < tmSize t := by (cases t; rw [tmSize]; omega)
              omega
    | succ n ih => intro t ht; exact names_step t (fun k hk => ih k (by have := tm_kid_size hk; omega))
  exact this _ t (Nat.le_refl _)
set_option maxRecDepth 100000 in
set_option maxHeartbeats 8000000 in
theorem names_rstep (t : Tm) (ih : ∀ k ∈ t.kids, NmOk 27 k) : NmOk 27 t := by
  intro v w S hv hS hsz
  have hss := tmsSize_kids t
  cases hv with
  | mk op nm need ws kids wA kA cw kc vs hw hwc hk hkc hl h =>
  have hss : tmSize (.mk op nm need ws kids) = 1 + nm.size + ws.length + tmsSize kids := hss
  have hkl := tms_length kids
  have HSZ := Lib.hid (show tmsSize kids ≤ 1000000000 by omega)
  have IH := Lib.hid (show ∀ k ∈ kids, NmOk 27 k from ih)
  have HL := Lib.hid (show ListAt (TmAt w S) w S 5 kA kids from ⟨vs, hl, hk, h⟩)
  have hkb : kids.length ≤ 1000000000 := by omega
  clear ih hw hk hl h hss hsz
  rw [tmNames_mk]
  obtain ⟨w0, hw0⟩ : ∃ w0 : World, w0 = w.alloc (.cells #[.int .i64 op, .string nm, .int .i64 need, .slice wA ws.length cw, .slice kA kids.length kc] 32) := ⟨_, rfl⟩
  have hb0 : Below w.heap.size w w0 := by rw [hw0]; exact (Below.refl _ _).alloc (Nat.le_refl _) _
  have hz0 : w0.heap.size = w.heap.size + 1 := by rw [hw0]; simp
  have hr0 : w0.heap[w.heap.size]? = some (.cells #[.int .i64 op, .string nm, .int .i64 need, .slice wA ws.length cw, .slice kA kids.length kc] 32 (0, 0)) := by rw [hw0]; exact heap_alloc_new w _
  have hlt0 : w.heap.size + 1 ≤ w0.heap.size := by omega
  have HW0 := Lib.hid hw0
  have HZ0 := Lib.hid hz0
  have HR0 := Lib.hid hr0
  obtain ⟨c0, c1, c2, c3, c4, -⟩ := row5 hr0
  clear hw0 hz0 hr0
  by_cases hn0 : nm.size = 0
  · obtain rfl : nm = ⟨#[]⟩ := by
      obtain ⟨⟨l⟩⟩ := nm
      have : l = [] := List.eq_nil_of_length_eq_zero (by simpa [ByteArray.size] using hn0)
      rw [this]
    have HE := Lib.hid (show ownName ⟨#[]⟩ = [] from rfl)
    clear hn0
    go_enter Tryz.func27, Tryz.ntmps27
    go_wp2
    rw [← HW0.out]
    go_loopw [3, 4] (fun v x wr => ∃ k : Nat, k ≤ kids.length ∧ x = .int .i64 k ∧ wr.ownsRow (w.heap.size + 1) 9 1 v (ownName ⟨#[]⟩ ++ tmsNames (kids.take k)).length (strVals (ownName ⟨#[]⟩ ++ tmsNames (kids.take k))) ∧ Below (w.heap.size + 1) w0 wr) (fun _ x _ => kids.length - (intOf x).toNat)
    case atStart => exact ⟨0, Nat.zero_le _, rfl, World.ownsRow_nil _ _ _ _, Below.refl _ _⟩
    case round =>
      obtain ⟨k, hk, rfl, hown, hb⟩ := hrel
      have hsr := hb.size
      have hbw : Below w.heap.size w wr := hb0.trans (hb.mono (by omega))
      have hr1 := (hb.block _ (by omega)).trans HR0.out
      obtain ⟨c0, c1, c2, c3, c4, -⟩ := row5 hr1
      clear hr1
      by_cases hlt : k < kids.length
      · have hlr := HL.out.keep (P' := TmAt wr S) (kept_of hbw hS) (fun _ _ h => h.keep (kept_of hbw hS))
        obtain ⟨g, o, op1, nm1, nd1, wA1, wn1, wc1, kA1, kn1, kc1, rfl, hSg, htm, k0, k1, k2, k3, k4, -⟩ := term_cells hlr hlt
        have hgs : g < wr.heap.size := World.block_lt_of_cell? wr _ k0
        have hkI : (k : Int) < (kids.length : Int) := by omega
        have hk0 : (0 : Int) ≤ (k : Int) := by omega
        have hmem : kids[k] ∈ kids := List.getElem_mem hlt
        have hts := tm_size_mem hmem
        have HC := Lib.hid (fun (W : World) (hW : Below wr.heap.size wr W) => IH.out _ hmem _ W S (htm.keep (kept_all hW)) (fun g hg => by have := hS g hg; have := hbw.size; have := hW.size; omega) (by have := HSZ.out; omega))
        have hsn := tmsNames_snoc kids k hlt
        have hln := tmsNames_take kids (k + 1)
        rw [hsn, List.length_append] at hln
        have hol := ownName_le ⟨#[]⟩
        obtain ⟨ns, hns⟩ : ∃ ns, ns = tmNames kids[k] := ⟨_, rfl⟩
        rw [← hns] at HC hsn hln
        have HSN := Lib.hid hsn
        have HBZ := Lib.hid HSZ.out
        have hlen2 : (ownName ⟨#[]⟩ ++ tmsNames (kids.take k)).length ≤ 1000000001 := by rw [List.length_append]; have := HSZ.out; omega
        have hlen3 : ns.length ≤ 1000000000 := by have := HSZ.out; omega
        clear htm hlr hns hsn hln
        go_wp2_with fail
        refine (HC.out _ (Below.refl _ _)).mono ?_
        rintro e W2 ⟨A2, c2', rfl, hc2, hs2, hb2⟩
        skip
        have hb3 : Below wr.heap.size wr W2 := hb2
        have hown2 := own_below hown hb3 (Nat.le_refl _)
        have hsW := hb3.size
        clear k0 k1 k2 k3 k4 c0 c1 c2 c3 c4 hown hb2 HC
        go_wp2_with (at_builtin; refine wp_strs W2 rfl (.tmp 20) (.tmp 26) rfl (w.heap.size + 1) _ _ _ hown2 rfl _ A2 ns.length c2' ns rfl rfl hs2 (by omega) (by omega) (by omega) ?_; intro v' W3 hown3 hg3 _)
        have hbl := below_own hown2 hg3 (by omega)
        go_roundw
        case rel =>
          refine ⟨k + 1, by omega, by go_num, ?_, hb.trans ((hb3.mono (by omega)).trans hbl)⟩
          rw [HSN.out, ← List.append_assoc, List.length_append (bs := ns), show strVals ((ownName ⟨#[]⟩ ++ tmsNames (kids.take k)) ++ ns) = strVals (ownName ⟨#[]⟩ ++ tmsNames (kids.take k)) ++ strVals ns by simp [strVals]]
          exact hown3
        case measure => simp [intOf]; omega
      · obtain rfl : k = kids.length := by omega
        rw [List.take_length] at hown
        obtain ⟨A9, c9, rfl, hc9⟩ := own_slice hown
        have hkI : ¬ (kids.length : Int) < (kids.length : Int) := by omega
        have HO := Lib.hid hown
        clear hown
        go_wp2
        go_ret
        exact ⟨A9, c9, by rw [List.length_append]; rfl, hc9, (SeesIn.own HO.out).mono (fun g hg _ => by omega) (by decide), hbw⟩
  · have HE := Lib.hid (show ownName nm = [nm] by unfold ownName; rw [if_neg hn0])
    have hne2 := toList_ne (show 0 < nm.size by omega)
    have hne := toList_isEmpty (show 0 < nm.size by omega)
    clear hn0
    go_enter Tryz.func27, Tryz.ntmps27
    go_wp2_with (at_builtin; refine push_str _ rfl (.tmp 8) (.tmp 11) rfl (w.heap.size + 1) _ _ _ (World.ownsRow_nil _ _ _ _) rfl nm (by rw [alloc_size]; rfl) (by omega) (by rw [alloc_size]; omega) ?_; intro v' W1 hown1 hg1 _; rw [← HW0.out] at hg1; have hb1 : Below (w.heap.size + 1) w0 W1 := below_own (World.ownsRow_nil w0 (w.heap.size + 1) 9 1) hg1 hlt0; obtain ⟨-, -, -, -, d4, -⟩ := row5 ((hb1.block _ (by omega)).trans HR0.out))
    go_loopw [3, 4] (fun v x wr => ∃ k : Nat, k ≤ kids.length ∧ x = .int .i64 k ∧ wr.ownsRow (w.heap.size + 1) 9 1 v (ownName nm ++ tmsNames (kids.take k)).length (strVals (ownName nm ++ tmsNames (kids.take k))) ∧ Below (w.heap.size + 1) w0 wr) (fun _ x _ => kids.length - (intOf x).toNat)
    case atStart => exact ⟨0, Nat.zero_le _, rfl, by rw [HE.out]; exact hown1, hb1⟩
    case round =>
      obtain ⟨k, hk, rfl, hown, hb⟩ := hrel
      have hsr := hb.size
      have hbw : Below w.heap.size w wr := hb0.trans (hb.mono (by omega))
      have hr1 := (hb.block _ (by omega)).trans HR0.out
      obtain ⟨c0, c1, c2, c3, c4, -⟩ := row5 hr1
      clear hr1
      by_cases hlt : k < kids.length
      · have hlr := HL.out.keep (P' := TmAt wr S) (kept_of hbw hS) (fun _ _ h => h.keep (kept_of hbw hS))
        obtain ⟨g, o, op1, nm1, nd1, wA1, wn1, wc1, kA1, kn1, kc1, rfl, hSg, htm, k0, k1, k2, k3, k4, -⟩ := term_cells hlr hlt
        have hgs : g < wr.heap.size := World.block_lt_of_cell? wr _ k0
        have hkI : (k : Int) < (kids.length : Int) := by omega
        have hk0 : (0 : Int) ≤ (k : Int) := by omega
        have hmem : kids[k] ∈ kids := List.getElem_mem hlt
        have hts := tm_size_mem hmem
        have HC := Lib.hid (fun (W : World) (hW : Below wr.heap.size wr W) => IH.out _ hmem _ W S (htm.keep (kept_all hW)) (fun g hg => by have := hS g hg; have := hbw.size; have := hW.size; omega) (by have := HSZ.out; omega))
        have hsn := tmsNames_snoc kids k hlt
        have hln := tmsNames_take kids (k + 1)
        rw [hsn, List.length_append] at hln
        have hol := ownName_le nm
        obtain ⟨ns, hns⟩ : ∃ ns, ns = tmNames kids[k] := ⟨_, rfl⟩
        rw [← hns] at HC hsn hln
        have HSN := Lib.hid hsn
        have HBZ := Lib.hid HSZ.out
        have hlen2 : (ownName nm ++ tmsNames (kids.take k)).length ≤ 1000000001 := by rw [List.length_append]; have := HSZ.out; omega
        have hlen3 : ns.length ≤ 1000000000 := by have := HSZ.out; omega
        clear htm hlr hns hsn hln
        go_wp2_with fail
        refine (HC.out _ (Below.refl _ _)).mono ?_
        rintro e W2 ⟨A2, c2', rfl, hc2, hs2, hb2⟩
        skip
        have hb3 : Below wr.heap.size wr W2 := hb2
        have hown2 := own_below hown hb3 (Nat.le_refl _)
        have hsW := hb3.size
        clear k0 k1 k2 k3 k4 c0 c1 c2 c3 c4 hown hb2 HC
        go_wp2_with (at_builtin; refine wp_strs W2 rfl (.tmp 20) (.tmp 26) rfl (w.heap.size + 1) _ _ _ hown2 rfl _ A2 ns.length c2' ns rfl rfl hs2 (by omega) (by omega) (by omega) ?_; intro v' W3 hown3 hg3 _)
        have hbl := below_own hown2 hg3 (by omega)
        go_roundw
        case rel =>
          refine ⟨k + 1, by omega, by go_num, ?_, hb.trans ((hb3.mono (by omega)).trans hbl)⟩
          rw [HSN.out, ← List.append_assoc, List.length_append (bs := ns), show strVals ((ownName nm ++ tmsNames (kids.take k)) ++ ns) = strVals (ownName nm ++ tmsNames (kids.take k)) ++ strVals ns by simp [strVals]]
          exact hown3
        case measure => simp [intOf]; omega
      · obtain rfl : k = kids.length := by omega
        rw [List.take_length] at hown
        obtain ⟨A9, c9, rfl, hc9⟩ := own_slice hown
        have hkI : ¬ (kids.length : Int) < (kids.length : Int) := by omega
        have HO := Lib.hid hown
        clear hown
        go_wp2
        go_ret
        exact ⟨A9, c9, by rw [List.length_append]; rfl, hc9, (SeesIn.own HO.out).mono (fun g hg _ => by omega) (by decide), hbw⟩
theorem names_ref (t : Tm) : NmOk 27 t := by
  have : ∀ (n : Nat) (t : Tm), tmSize t ≤ n → NmOk 27 t := by
    intro n
    induction n with
    | zero => intro t ht; have : 0 < tmSize t := by (cases t; rw [tmSize]; omega)
              omega
    | succ n ih => intro t ht; exact names_rstep t (fun k hk => ih k (by have := tm_kid_size hk; omega))
  exact this _ t (Nat.le_refl _)
end Go.Proofs.YtipicaoinnblpaaGreatDoor
namespace Go.Proofs.YtipicaoinnblpaaGreatDoor
open Go.RowKit

theorem tmsDepth_snoc (l : List Tm) (k : Nat) (h : k < l.length) : tmsDepth (l.take (k + 1)) = max (tmsDepth (l.take k)) (tmDepth l[k]) := by
  have : ∀ (a : List Tm) (t : Tm), tmsDepth (a ++ [t]) = max (tmsDepth a) (tmDepth t) := by
    intro a t
    induction a with
    | nil => simp [tmsDepth]
    | cons x r ih => simp only [List.cons_append, tmsDepth, ih]; omega
  rw [List.take_succ_eq_append_getElem h, this]
theorem tmsSize_snoc (l : List Tm) (k : Nat) (h : k < l.length) : tmsSize (l.take (k + 1)) = tmsSize (l.take k) + tmSize l[k] := by
  have : ∀ (a : List Tm) (t : Tm), tmsSize (a ++ [t]) = tmsSize a + tmSize t := by
    intro a t
    induction a with
    | nil => simp [tmsSize]
    | cons x r ih => simp only [List.cons_append, tmsSize, ih]; omega
  rw [List.take_succ_eq_append_getElem h, this]
theorem tmsSize_take (l : List Tm) (k : Nat) : tmsSize (l.take k) ≤ tmsSize l := by
  have : ∀ (a b : List Tm), tmsSize (a ++ b) = tmsSize a + tmsSize b := by
    intro a b
    induction a with
    | nil => simp [tmsSize]
    | cons x r ih => simp only [List.cons_append, tmsSize, ih]; omega
  have h := this (l.take k) (l.drop k)
  rw [List.take_append_drop] at h; omega
mutual
theorem tmDepth_le : ∀ t : Tm, tmDepth t ≤ tmSize t
  | .mk op name need ws kids => by
    have h := tmsDepth_le kids
    rw [tmDepth, tmSize]; omega
theorem tmsDepth_le : ∀ l : List Tm, tmsDepth l ≤ tmsSize l
  | [] => by simp [tmsDepth]
  | t :: r => by
    have h1 := tmDepth_le t
    have h2 := tmsDepth_le r
    rw [tmsDepth, tmsSize]; omega
end
def SzOk (t : Tm) : Prop := ∀ (v : Value) (w : World) (S : Nat → Prop), TmAt w S t v → (∀ g, S g → g < w.heap.size) → tmSize t ≤ 1000000000 → Calls Tryz.prog 18 #[v] w fun e w' => e = .returned (.tuple #[.int .i64 (tmSize t), .int .i64 (tmDepth t)]) ∧ Below w.heap.size w w'

set_option maxRecDepth 100000 in
set_option maxHeartbeats 4000000 in
theorem size_step (t : Tm) (ih : ∀ k ∈ t.kids, SzOk k) : SzOk t := by
  intro v w S hv hS hsz
  have HSS0 := Lib.hid (tmsSize_kids t)
  cases hv with
  | mk op nm need ws kids wA kA cw kc vs hw hwc hk hkc hl h =>
  have hss : tmSize (.mk op nm need ws kids) = 1 + nm.size + ws.length + tmsSize kids := HSS0.out
  have hdd : tmDepth (.mk op nm need ws kids) = tmsDepth kids + 1 := by rw [tmDepth]
  have hkl := tms_length kids
  have hbig : 1 + nm.size + ws.length + tmsSize kids ≤ 1000000000 := by omega
  have IH := Lib.hid (show ∀ k ∈ kids, SzOk k from ih)
  have HL := Lib.hid (show ListAt (TmAt w S) w S 5 kA kids from ⟨vs, hl, hk, h⟩)
  have hkb : kids.length ≤ 1000000000 := by omega
  have HSS := Lib.hid hss
  have HDD := Lib.hid hdd
  clear ih hw hk hl h hss hdd hsz
  obtain ⟨w0, hw0⟩ : ∃ w0 : World, w0 = w.alloc (.cells #[.int .i64 op, .string nm, .int .i64 need, .slice wA ws.length cw, .slice kA kids.length kc] 32) := ⟨_, rfl⟩
  have hb0 : Below w.heap.size w w0 := by rw [hw0]; exact (Below.refl _ _).alloc (Nat.le_refl _) _
  have hz0 : w0.heap.size = w.heap.size + 1 := by rw [hw0]; simp
  have hr0 : w0.heap[w.heap.size]? = some (.cells #[.int .i64 op, .string nm, .int .i64 need, .slice wA ws.length cw, .slice kA kids.length kc] 32 (0, 0)) := by rw [hw0]; exact heap_alloc_new w _
  have hlt0 : w.heap.size + 1 ≤ w0.heap.size := by omega
  have HR0 := Lib.hid hr0
  have hnI : (nm.size : Int) ≤ 1000000000 := by omega
  have hwI : (ws.length : Int) ≤ 1000000000 := by omega
  have HW0 := Lib.hid hw0
  clear hz0 hr0 hw0
  go_enter Tryz.func18, Tryz.ntmps18
  go_wp2
  rw [← HW0.out]
  go_loopw [4, 5, 6] (fun x y z wr => ∃ k : Nat, k ≤ kids.length ∧ z = .int .i64 k ∧ x = .int .i64 ((1 + nm.size + ws.length + tmsSize (kids.take k) : Nat) : Int) ∧ y = .int .i64 (tmsDepth (kids.take k) : Nat) ∧ Below (w.heap.size + 1) w0 wr) (fun _ _ z _ => kids.length - (intOf z).toNat)
  case atStart => exact ⟨0, Nat.zero_le _, rfl, by simp [tmsSize], by simp [tmsDepth], Below.refl _ _⟩
  case round =>
    obtain ⟨k, hk, rfl, rfl, rfl, hb⟩ := hrel
    have hsr := hb.size
    have hbw : Below w.heap.size w wr := hb0.trans (hb.mono (by omega))
    have hr1 := (hb.block _ (by omega)).trans HR0.out
    obtain ⟨c0, c1, c2, c3, c4, -⟩ := row5 hr1
    clear hr1
    by_cases hlt : k < kids.length
    · have hlr := HL.out.keep (P' := TmAt wr S) (kept_of hbw hS) (fun _ _ h => h.keep (kept_of hbw hS))
      obtain ⟨g, o, op1, nm1, nd1, wA1, wn1, wc1, kA1, kn1, kc1, rfl, hSg, htm, k0, k1, k2, k3, k4, -⟩ := term_cells hlr hlt
      have hgs : g < wr.heap.size := World.block_lt_of_cell? wr _ k0
      have hkI : (k : Int) < (kids.length : Int) := by omega
      have hk0 : (0 : Int) ≤ (k : Int) := by omega
      have hmem : kids[k] ∈ kids := List.getElem_mem hlt
      have hts := tm_size_mem hmem
      have hsn := tmsSize_snoc kids k hlt
      have hdn := tmsDepth_snoc kids k hlt
      have htk := tmsSize_take kids (k + 1)
      have hdl := tmDepth_le kids[k]
      have hdk := tmsDepth_le (kids.take k)
      have HC := Lib.hid (IH.out _ hmem _ wr S htm (fun g hg => by have := hS g hg; have := hbw.size; omega) (by omega))
      obtain ⟨a, ha⟩ : ∃ a, a = tmSize kids[k] := ⟨_, rfl⟩
      obtain ⟨d, hd⟩ : ∃ d, d = tmDepth kids[k] := ⟨_, rfl⟩
      rw [← ha, ← hd] at HC
      rw [← ha] at hsn
      rw [← hd] at hdn
      obtain ⟨p, hp⟩ : ∃ p, p = 1 + nm.size + ws.length + tmsSize (kids.take k) := ⟨_, rfl⟩
      obtain ⟨q, hq⟩ : ∃ q, q = tmsDepth (kids.take k) := ⟨_, rfl⟩
      have hpa : p + a ≤ 1000000000 := by omega
      have hqb : q ≤ 1000000000 := by omega
      have hdb : d ≤ 1000000000 := by omega
      have HSN := Lib.hid (show 1 + nm.size + ws.length + tmsSize (kids.take (k + 1)) = p + a by omega)
      have HDN := Lib.hid (show tmsDepth (kids.take (k + 1)) = max q d by rw [hdn, hq])
      rw [← hp, ← hq]
      clear htm hlr hsn hdn htk hdl hdk ha hd hp hq hts
      by_cases hqd : q ≤ d
      · have m1 : (q : Int) ≤ (d : Int) := by omega
        have m2 : ¬ (d : Int) < (q : Int) := by omega
        have HM := Lib.hid (show max q d = d by omega)
        go_wp2_with fail
        refine HC.out.mono ?_
        rintro e W2 ⟨rfl, hb2⟩
        go_wp2
        go_roundw
        case rel => exact ⟨k + 1, by omega, by go_num, by rw [HSN.out]; go_num, by rw [HDN.out, HM.out]; congr 1; omega, hb.trans (hb2.mono (by omega))⟩
        case measure => simp [intOf]; omega
      · have m1 : ¬ (q : Int) ≤ (d : Int) := by omega
        have m2 : (d : Int) < (q : Int) := by omega
        have HM := Lib.hid (show max q d = q by omega)
        go_wp2_with fail
        refine HC.out.mono ?_
        rintro e W2 ⟨rfl, hb2⟩
        go_wp2
        go_roundw
        case rel => exact ⟨k + 1, by omega, by go_num, by rw [HSN.out]; go_num, by rw [HDN.out, HM.out]; congr 1; omega, hb.trans (hb2.mono (by omega))⟩
        case measure => simp [intOf]; omega
    · obtain rfl : k = kids.length := by omega
      have hkI : ¬ (kids.length : Int) < (kids.length : Int) := by omega
      rw [List.take_length]
      have hdl := tmsDepth_le kids
      obtain ⟨q, hq⟩ : ∃ q, q = tmsDepth kids := ⟨_, rfl⟩
      obtain ⟨p, hp⟩ : ∃ p, p = 1 + nm.size + ws.length + tmsSize kids := ⟨_, rfl⟩
      have HSZ := Lib.hid (HSS.out.trans hp.symm)
      have HDZ := Lib.hid (show tmDepth (.mk op nm need ws kids) = q + 1 by rw [HDD.out, hq])
      have hqb : q ≤ 1000000000 := by omega
      rw [← hp, ← hq]
      clear hq hp hdl
      go_wp2
      go_ret2
      refine ⟨?_, hbw⟩
      rw [HSZ.out, HDZ.out]; rfl
theorem size_ref (t : Tm) : SzOk t := by
  have : ∀ (n : Nat) (t : Tm), tmSize t ≤ n → SzOk t := by
    intro n
    induction n with
    | zero => intro t ht; have : 0 < tmSize t := by (cases t; rw [tmSize]; omega)
              omega
    | succ n ih => intro t ht; exact size_step t (fun k hk => ih k (by have := tm_kid_size hk; omega))
  exact this _ t (Nat.le_refl _)
end Go.Proofs.YtipicaoinnblpaaGreatDoor
