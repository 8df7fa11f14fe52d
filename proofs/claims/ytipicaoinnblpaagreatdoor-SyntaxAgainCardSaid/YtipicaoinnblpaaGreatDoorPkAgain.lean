/- What the plain parser reads without an error is valid, and its text has at most three times as many tokens: names and terms. No condition. What the plain parser reads without an error is valid, and its text is not too long: faults, declarations, texts of up to 700 bytes. No condition. Valid declarations whose text has few tokens have few names, faults and terms. No condition. -/
import Derived.Test.YtipicaoinnblpaaGreatDoorPkRound
import Derived.Test.YtipicaoinnblpaaGreatDoorPkEqb
import Derived.Test.YtipicaoinnblpaaGreatDoorPkFmtb
namespace Go.Proofs.YtipicaoinnblpaaGreatDoor

/-- The words among the tokens are names. -/
def LexOk (L : Toks) : Prop := ∀ p ∈ L, p.1.kind = 1 → lexName p.1.text.data.toList = true
theorem tk_lex {L : Toks} (h : LexOk L) {s : St} {t : Tok} (e : tk L s = some t) : t.kind = 1 → lexName t.text.data.toList = true := by
  obtain ⟨-, -, n, hn⟩ := tk_some e
  exact h (t, n) (List.mem_of_getElem? hn)
theorem fails_err (e : Nat) (he : e ≠ 0) (s : St) : (fails e s).err ≠ 0 := by
  unfold fails
  split
  · exact he
  · assumption
theorem adv_err (s : St) : (adv s).err = s.err := rfl
theorem adv_pos (s : St) : (adv s).pos = s.pos + 1 := rfl
theorem name_ok {L : Toks} (hL : LexOk L) {s : St} (h : (pName L s).2.err = 0) : okName (pName L s).1 = true ∧ (pName L s).2.pos = s.pos + 1 ∧ s.err = 0 := by
  unfold pName at h ⊢
  split
  · rename_i hn
    rw [if_pos hn] at h
    refine ⟨?_, rfl, h⟩
    unfold isName at hn
    unfold txt
    split at hn
    · rename_i t e
      simp only
      unfold isNameTok at hn
      simp only [Bool.and_eq_true, beq_iff_eq] at hn
      unfold okName
      rw [Bool.and_eq_true]
      exact ⟨tk_lex hL e hn.1, hn.2⟩
    · cases hn
  · rename_i hn
    rw [if_neg hn] at h
    exact absurd h (fails_err 2 (by decide) s)
theorem need_ok {L : Toks} {x : ByteArray} {s : St} (h : (need L x s).err = 0) : (need L x s).pos = s.pos + 1 ∧ s.err = 0 := by
  unfold need at h ⊢
  split
  · rename_i hn
    rw [if_pos hn] at h
    exact ⟨rfl, h⟩
  · rename_i hn
    rw [if_neg hn] at h
    exact absurd h (fails_err 2 (by decide) s)
theorem num_ok {L : Toks} {s : St} (h : (pNum L s).2.err = 0) : small (pNum L s).1 = true ∧ (pNum L s).2.pos = s.pos + 1 ∧ s.err = 0 := by
  unfold pNum at h ⊢
  split
  · rename_i hn
    rw [if_pos hn] at h
    split
    · rename_i hg
      rw [if_pos hg] at h
      exact absurd h (fails_err 7 (by decide) s)
    · rename_i hg
      rw [if_neg hg] at h
      refine ⟨?_, rfl, h⟩
      unfold small
      simp; omega
  · rename_i hn
    rw [if_neg hn] at h
    exact absurd h (fails_err 2 (by decide) s)

theorem joinT_length (l : List (List Tok)) (c : Tok) : (joinT l c).length = (l.map List.length).sum + (l.length - 1) := by
  cases l with
  | nil => rfl
  | cons x r =>
    simp only [joinT, List.length_append, List.map_cons, List.sum_cons, List.length_cons]
    have : ∀ (q : List (List Tok)), (q.flatMap (c :: ·)).length = (q.map List.length).sum + q.length := by
      intro q
      induction q with
      | nil => rfl
      | cons y q ih => simp only [List.flatMap_cons, List.length_append, List.length_cons, List.map_cons, List.sum_cons, ih]; omega
    rw [this]; omega
theorem names_len (l : List ByteArray) : (toksOf (namesP l)).length = l.length + (l.length - 1) := by
  rw [names_toks, joinT_length]
  have : ((l.map fun x => [nameT x]).map List.length).sum = l.length := by
    induction l with
    | nil => rfl
    | cons x r ih => simp only [List.map_cons, List.sum_cons, List.length_cons, List.length_nil, ih]; omega
  rw [this, List.length_map]
theorem namesGo_ok {L : Toks} (hL : LexOk L) (f : Nat) : ∀ (acc : List ByteArray) (s : St), okNames acc = true → (namesGo L f acc s).2.err = 0 →
    okNames (namesGo L f acc s).1 = true ∧ acc.length ≤ (namesGo L f acc s).1.length ∧ (namesGo L f acc s).2.pos = s.pos + 2 * ((namesGo L f acc s).1.length - acc.length) ∧ s.err = 0 := by
  induction f with
  | zero => intro acc s ha h; exact ⟨ha, Nat.le_refl _, by simp [namesGo], h⟩
  | succ f ih =>
    intro acc s ha h
    rw [namesGo] at h ⊢
    split
    · rename_i hw
      rw [if_pos hw] at h
      have hs := (isW_ok hw).1
      generalize hn : pName L (adv s) = q at h ⊢
      have key : ∀ (he : q.2.err = 0), okName q.1 = true ∧ q.2.pos = s.pos + 2 := by
        intro he
        rw [← hn] at he ⊢
        have := name_ok hL he
        exact ⟨this.1, this.2.1⟩
      by_cases he : q.2.err = 0
      · obtain ⟨k1, k2⟩ := key he
        obtain ⟨a1, a2, a3, -⟩ := ih (acc ++ [q.1]) q.2 (by unfold okNames at ha ⊢; rw [List.all_append, ha]; simp [k1]) h
        simp only [List.length_append, List.length_cons, List.length_nil] at a2 a3
        exact ⟨a1, by omega, by omega, hs⟩
      · have e : ∀ g (a : List ByteArray), namesGo L g a q.2 = (a, q.2) := by
          intro g a
          cases g with
          | zero => rfl
          | succ g => rw [namesGo, isW_err he]; rfl
        rw [e] at h
        exact absurd h he
    · rename_i hw
      rw [if_neg hw] at h
      exact ⟨ha, Nat.le_refl _, by simp, h⟩
theorem names_ok {L : Toks} (hL : LexOk L) {s : St} (h : (pNames L s).2.err = 0) : okNames (pNames L s).1 = true ∧ 0 < (pNames L s).1.length ∧ (pNames L s).2.pos = s.pos + (toksOf (namesP (pNames L s).1)).length ∧ s.err = 0 := by
  unfold pNames at h ⊢
  generalize hn : pName L s = q at h ⊢
  by_cases he : q.2.err = 0
  · have hk : okName q.1 = true ∧ q.2.pos = s.pos + 1 ∧ s.err = 0 := by rw [← hn] at he ⊢; exact name_ok hL he
    obtain ⟨a1, a2, a3, -⟩ := namesGo_ok hL L.length [q.1] q.2 (by simp [okNames, hk.1]) h
    simp only [List.length_cons, List.length_nil] at a2 a3
    refine ⟨a1, by omega, ?_, hk.2.2⟩
    rw [names_len]; omega
  · have e : ∀ g (a : List ByteArray), namesGo L g a q.2 = (a, q.2) := by
      intro g a
      cases g with
      | zero => rfl
      | succ g => rw [namesGo, isW_err he]; rfl
    rw [e] at h
    exact absurd h he
theorem braces_ok {L : Toks} (hL : LexOk L) {s : St} (h : (pBraces L s).2.err = 0) : okNames (pBraces L s).1 = true ∧ 0 < (pBraces L s).1.length ∧ (pBraces L s).2.pos = s.pos + (toksOf (namesP (pBraces L s).1)).length + 2 ∧ s.err = 0 := by
  unfold pBraces at h ⊢
  obtain ⟨a1, a2⟩ := need_ok h
  obtain ⟨b1, b2, b3, b4⟩ := names_ok hL a2
  obtain ⟨c1, c2⟩ := need_ok b4
  exact ⟨b1, b2, by simp only; omega, c2⟩

/-- The number of tokens of a term's text, in parentheses if its Op is one of some. -/
def plen (ops : List Int) (t : Tm) : Nat := (toksOf (parP ops t (tmPcs t))).length
theorem plen_le (ops : List Int) (t : Tm) : (tt t).length ≤ plen ops t := par_len ops t
theorem plen_yes {ops : List Int} {t : Tm} (h : ops.contains t.op = true) : plen ops t = (tt t).length + 2 := by unfold plen; rw [tt_par_yes h]; simp
theorem plen_no {ops : List Int} {t : Tm} (h : ops.contains t.op = false) : plen ops t = (tt t).length := by unfold plen; rw [tt_par_no h]
theorem plen_max (ops : List Int) (t : Tm) : plen ops t ≤ (tt t).length + 2 := by
  cases h : ops.contains t.op
  · rw [plen_no h]; omega
  · rw [plen_yes h]; exact Nat.le_refl _
theorem plen_34 (t : Tm) : plen [4] t ≤ plen [3, 4] t := by
  cases h : ([4] : List Int).contains t.op
  · rw [plen_no h]; exact plen_le _ _
  · have h4 : t.op = 4 := by simpa using h
    rw [plen_yes h, plen_yes (by rw [h4]; decide)]; exact Nat.le_refl _

/-- What a part reads from a token on is valid, and its text has at most three times as many tokens. -/
def Vd (L : Toks) (m : Nat) (ops : List Int) (part : St → Tm × St) : Prop := ∀ s, m ≤ s.pos → s.pos ≤ L.length → (part s).2.err = 0 → okTm (part s).1 = true ∧ plen ops (part s).1 + 2 + 3 * s.pos ≤ 3 * (part s).2.pos
def sumP (ops : List Int) (l : List Tm) : Nat := (l.map (plen ops)).sum
theorem sumP_snoc (ops : List Int) (l : List Tm) (t : Tm) : sumP ops (l ++ [t]) = sumP ops l + plen ops t := by simp [sumP]
theorem joinGo_ok {L : Toks} {m : Nat} {ops : List Int} {part : St → Tm × St} (hg : Good L part) (hv : Vd L m ops part) (x : ByteArray) (f : Nat) : ∀ (acc : List Tm) (s : St), m ≤ s.pos → s.pos ≤ L.length → (∀ t ∈ acc, okTm t = true) → (joinGo L x part f acc s).2.err = 0 →
    (∀ t ∈ (joinGo L x part f acc s).1, okTm t = true) ∧ acc.length ≤ (joinGo L x part f acc s).1.length ∧ sumP ops (joinGo L x part f acc s).1 + 5 * ((joinGo L x part f acc s).1.length - acc.length) + 3 * s.pos ≤ sumP ops acc + 3 * (joinGo L x part f acc s).2.pos ∧ s.err = 0 := by
  induction f with
  | zero => intro acc s _ _ ha h; exact ⟨ha, Nat.le_refl _, by simp [joinGo], h⟩
  | succ f ih =>
    intro acc s hm hs ha h
    rw [joinGo] at h ⊢
    split
    · rename_i hw
      rw [if_pos hw] at h
      obtain ⟨hs0, hs1⟩ := isW_ok hw
      have hgd := hg (adv s) hs1
      have hvd := hv (adv s) (by rw [adv_pos]; omega) hs1
      generalize part (adv s) = q at h hgd hvd ⊢
      by_cases he : q.2.err = 0
      · obtain ⟨k1, k2⟩ := hvd he
        have hle := hgd.le
        rw [adv_pos] at hle k2
        obtain ⟨a1, a2, a3, -⟩ := ih (acc ++ [q.1]) q.2 (by omega) hgd.fit (by
          intro t ht
          rcases List.mem_append.1 ht with ht | ht
          · exact ha t ht
          · rw [List.mem_singleton.1 ht]; exact k1) h
        rw [sumP_snoc] at a3
        simp only [List.length_append, List.length_cons, List.length_nil] at a2 a3
        exact ⟨a1, by omega, by omega, hs0⟩
      · rw [joinGo_err he] at h
        exact absurd h he
    · rename_i hw
      rw [if_neg hw] at h
      exact ⟨ha, Nat.le_refl _, by simp, h⟩
theorem op_mk (op : Int) (nm : ByteArray) (nd : Int) (ws : List Int) (ks : List Tm) : (Tm.mk op nm nd ws ks).op = op := rfl
/-- A chain of parts: op 3 with parts that stand in parentheses if they are chains, op 4 likewise. -/
theorem join_ok {L : Toks} {m : Nat} {op : Int} {ops ops' : List Int} {x : ByteArray} {part : St → Tm × St} (hg : Good L part) (hv : Vd L m ops part)
    (hok : ∀ l : List Tm, 2 ≤ l.length → (∀ t ∈ l, okTm t = true) → okTm (.mk op (bs []) 0 [] l) = true) (hlen : ∀ l : List Tm, (tt (.mk op (bs []) 0 [] l)).length = sumP ops l + (l.length - 1))
    (hops : ops'.contains op = false) (hle : ∀ t, plen ops' t ≤ plen ops t) : Vd L m ops' (pJoin L op x part) := by
  intro s hm hs h
  unfold pJoin at h ⊢
  have hgd := hg s hs
  have hvd := hv s hm hs
  generalize part s = q at h hgd hvd ⊢
  simp only at h ⊢
  by_cases he : q.2.err = 0
  · obtain ⟨k1, k2⟩ := hvd he
    have hle1 := hgd.le
    obtain ⟨a1, a2, a3, -⟩ := joinGo_ok hg hv x L.length [q.1] q.2 (by omega) hgd.fit (by intro t ht; rw [List.mem_singleton.1 ht]; exact k1) h
    generalize joinGo L x part L.length [q.1] q.2 = g at a1 a2 a3 h ⊢
    have e1 : sumP ops [q.1] = plen ops q.1 := by simp [sumP]
    rw [e1] at a3
    simp only [List.length_cons, List.length_nil] at a2 a3
    match hl : g.1 with
    | [] => rw [hl] at a2; simp at a2
    | [t] =>
      rw [hl] at a1 a3
      have e2 : sumP ops [t] = plen ops t := by simp [sumP]
      rw [e2] at a3
      simp only [List.length_cons, List.length_nil] at a3
      refine ⟨a1 t (by simp), ?_⟩
      show plen ops' t + 2 + 3 * s.pos ≤ 3 * g.2.pos
      have := hle t
      omega
    | t1 :: t2 :: r =>
      rw [hl] at a1 a3
      have h2 : 2 ≤ (t1 :: t2 :: r).length := by simp
      rw [joinTm_more op _ h2]
      refine ⟨hok _ h2 a1, ?_⟩
      rw [plen_no (by rw [op_mk]; exact hops), hlen]
      generalize sumP ops (t1 :: t2 :: r) = Q at a3 ⊢
      generalize (t1 :: t2 :: r).length = n at a3 h2 ⊢
      omega
  · rw [joinGo_err he] at h
    exact absurd h he
theorem tt3_length (l : List Tm) : (tt (.mk 3 (bs []) 0 [] l)).length = sumP [3, 4] l + (l.length - 1) := by
  unfold tt sumP
  rw [pcs3, toks_join _ andSep (symTok 38) rfl, joinT_length, List.map_map, List.map_map, List.length_map, List.length_map]; rfl
theorem tt4_length (l : List Tm) : (tt (.mk 4 (bs []) 0 [] l)).length = sumP [4] l + (l.length - 1) := by
  unfold tt sumP
  rw [pcs4, toks_join _ orSep (symTok 124) rfl, joinT_length, List.map_map, List.map_map, List.length_map, List.length_map]; rfl
theorem ok_mk {op : Int} {nm : ByteArray} {nd : Int} {ws : List Int} {ks : List Tm} (h1 : okHead (.mk op nm nd ws ks) = true) (h2 : ∀ w ∈ ws, small w = true) (h3 : ∀ k ∈ ks, okTm k = true) : okTm (.mk op nm nd ws ks) = true := by
  rw [okTm_eq, Bool.and_eq_true, Bool.and_eq_true]
  exact ⟨⟨h1, List.all_eq_true.2 h2⟩, List.all_eq_true.2 h3⟩
theorem okAnd (l : List Tm) (h2 : 2 ≤ l.length) (h : ∀ t ∈ l, okTm t = true) : okTm (.mk 3 (bs []) 0 [] l) = true := ok_mk (by rw [head_ok3]; simp [bs_size, h2]) (by simp) h
theorem okOr (l : List Tm) (h2 : 2 ≤ l.length) (h : ∀ t ∈ l, okTm t = true) : okTm (.mk 4 (bs []) 0 [] l) = true := ok_mk (by rw [head_ok4]; simp [bs_size, h2]) (by simp) h

/-- Thresholds. -/
structure ThrOk (r : Thr) : Prop where
  kids : ∀ k ∈ r.kids, okTm k = true
  ws : ∀ w ∈ r.ws, small w = true
  len : r.ws.length = r.kids.length
def sumT (l : List Tm) : Nat := (l.map fun t => (tt t).length).sum
theorem sumT_snoc (l : List Tm) (t : Tm) : sumT (l ++ [t]) = sumT l + (tt t).length := by simp [sumT]
theorem thrBody_ok {L : Toks} {m : Nat} {pt : St → Tm × St} (hg : Good L pt) (hv : Vd L m [] pt) {r : Thr} {s : St} (hm : m ≤ s.pos) (hs : s.pos ≤ L.length) (hr : ThrOk r) (h : (thrBody L pt r s).2.err = 0) :
    ThrOk (thrBody L pt r s).1 ∧ (thrBody L pt r s).1.kids.length = r.kids.length + 1 ∧ sumT (thrBody L pt r s).1.kids + 2 + 3 * s.pos ≤ sumT r.kids + 3 * (thrBody L pt r s).2.pos := by
  have hgd := hg s hs
  have hvd := hv s hm hs
  unfold thrBody at h ⊢
  generalize pt s = q at h hgd hvd ⊢
  have mem : ∀ {α : Type} {P : α → Prop} {l : List α} {y : α}, (∀ x ∈ l, P x) → P y → ∀ x ∈ l ++ [y], P x := by
    intro α P l y hl hy x hx
    rcases List.mem_append.1 hx with hx | hx
    · exact hl x hx
    · rw [List.mem_singleton.1 hx]; exact hy
  split
  · rename_i hw
    rw [if_pos hw] at h
    obtain ⟨n1, n2, n3⟩ := num_ok h
    obtain ⟨k1, k2⟩ := hvd n3
    have k3 := plen_le [] q.1
    rw [adv_pos] at n2
    refine ⟨⟨mem hr.kids k1, mem hr.ws n1, by simp [hr.len]⟩, by simp, ?_⟩
    show sumT (r.kids ++ [q.1]) + 2 + 3 * s.pos ≤ sumT r.kids + 3 * (pNum L (adv q.2)).2.pos
    rw [sumT_snoc]
    omega
  · rename_i hw
    rw [if_neg hw] at h
    obtain ⟨k1, k2⟩ := hvd h
    have k3 := plen_le [] q.1
    refine ⟨⟨mem hr.kids k1, mem hr.ws (by decide), by simp [hr.len]⟩, by simp, ?_⟩
    show sumT (r.kids ++ [q.1]) + 2 + 3 * s.pos ≤ sumT r.kids + 3 * q.2.pos
    rw [sumT_snoc]
    omega
theorem thrGo_ok {L : Toks} {m : Nat} {pt : St → Tm × St} (hg : Good L pt) (hv : Vd L m [] pt) (f : Nat) : ∀ (r : Thr) (s : St), m ≤ s.pos → s.pos ≤ L.length → ThrOk r → (thrGo L pt f r s).2.err = 0 →
    ThrOk (thrGo L pt f r s).1 ∧ r.kids.length ≤ (thrGo L pt f r s).1.kids.length ∧ (0 < f → r.kids.length < (thrGo L pt f r s).1.kids.length) ∧ sumT (thrGo L pt f r s).1.kids + 5 * ((thrGo L pt f r s).1.kids.length - r.kids.length) + 3 * s.pos ≤ sumT r.kids + 3 + 3 * (thrGo L pt f r s).2.pos ∧ s.err = 0 := by
  induction f with
  | zero => intro r s _ _ hr h; exact ⟨hr, Nat.le_refl _, fun h => by omega, by simp [thrGo], h⟩
  | succ f ih =>
    intro r s hm hs hr h
    rw [thrGo] at h ⊢
    by_cases he : s.err = 0
    · rw [if_pos he] at h ⊢
      have hgd := ahead_thrBody hg r hs
      have hvd := thrBody_ok hg hv (r := r) hm hs hr
      generalize thrBody L pt r s = q at h hgd hvd ⊢
      split
      · rename_i hw
        rw [if_pos hw] at h
        obtain ⟨hw1, hw2⟩ := isW_ok hw
        obtain ⟨k1, k2, k3⟩ := hvd hw1
        have hle := hgd.le
        obtain ⟨a1, a2, a3, a4, -⟩ := ih q.1 (adv q.2) (by rw [adv_pos]; omega) hw2 k1 h
        rw [adv_pos] at a4
        exact ⟨a1, by omega, fun _ => by omega, by omega, he⟩
      · rename_i hw
        rw [if_neg hw] at h
        obtain ⟨k1, k2, k3⟩ := hvd h
        exact ⟨k1, by omega, fun _ => by omega, by omega, he⟩
    · rw [if_neg he] at h
      exact absurd h he
theorem tt2_length (nd : Int) (ws : List Int) (ks : List Tm) (h : ws.length = 0 ∨ ws.length = ks.length) : (tt (.mk 2 (bs []) nd ws ks)).length ≤ sumT ks + 2 * ks.length + 3 + (ks.length - 1) := by
  unfold tt
  rw [pcs2, toksOf_append, toksOf_append, toks_join _ comSep comma rfl]
  simp only [List.length_append, joinT_length, List.length_map]
  have e1 : (toksOf [Pc.int nd, Pc.sym 40]).length = 2 := rfl
  have e2 : (toksOf [Pc.sym 41]).length = 1 := rfl
  rw [e1, e2]
  have e3 : (weighedP ws (ks.map tmPcs)).length = ks.length := by
    unfold weighedP
    split
    · simp
    · rw [List.length_zipWith, List.length_map]; omega
  rw [e3]
  have e4 : (((weighedP ws (ks.map tmPcs)).map toksOf).map List.length).sum ≤ sumT ks + 2 * ks.length := by
    have plain : ∀ (l : List Tm), (((l.map tmPcs).map toksOf).map List.length).sum = sumT l := by
      intro l
      unfold sumT
      rw [List.map_map, List.map_map]; rfl
    have wgt : ∀ (l : List Tm) (u : List Int), ((((List.zipWith (fun x w => x ++ [Pc.sym 42, Pc.int w]) (l.map tmPcs) u)).map toksOf).map List.length).sum ≤ sumT l + 2 * l.length := by
      intro l
      induction l with
      | nil => intro u; simp
      | cons k r ih =>
        intro u
        cases u with
        | nil => simp
        | cons w u =>
          have := ih u
          simp only [List.map_cons, List.zipWith_cons_cons, List.sum_cons, toksOf_append, List.length_append, List.length_cons]
          have e : (toksOf [Pc.sym 42, Pc.int w]).length = 2 := rfl
          have e' : sumT (k :: r) = (toksOf (tmPcs k)).length + sumT r := by simp [sumT, tt]
          rw [e, e']; omega
    unfold weighedP
    split
    · rw [plain]; omega
    · exact wgt ks ws
  omega
theorem factor_ok {L : Toks} (hL : LexOk L) {m : Nat} {pt : St → Tm × St} (hg : Good L pt) (hv : Vd L (m + 1) [] pt) : Vd L m [3, 4] (pFactor L pt) := by
  intro s hm hs h
  have out : ∀ (t : Tm) (n : Nat), t.op ≠ 3 → t.op ≠ 4 → (tt t).length + 2 + 3 * s.pos ≤ 3 * n → plen [3, 4] t + 2 + 3 * s.pos ≤ 3 * n := by
    intro t n h3 h4 hl
    rw [plen_no (by simp [h3, h4])]; exact hl
  unfold pFactor at h ⊢
  split
  · rename_i hi
    rw [if_pos hi] at h
    unfold pThr at h ⊢
    simp only at h ⊢
    obtain ⟨r1, r2⟩ := need_ok h
    have hn := ahead_num (L := L) hs
    have hnn := num_ok (L := L) (s := s)
    generalize pNum L s = nq at *
    have hn1 := hn.trans (ahead_need (⟨#[40]⟩ : ByteArray) hn.fit)
    have hnk := need_ok (L := L) (x := (⟨#[40]⟩ : ByteArray)) (s := nq.2)
    generalize need L (⟨#[40]⟩ : ByteArray) nq.2 = s1 at *
    by_cases he1 : s1.err = 0
    · obtain ⟨p1, p2⟩ := hnk he1
      obtain ⟨q1, q2, -⟩ := hnn p2
      obtain ⟨a1, a2, a3, a4, -⟩ := thrGo_ok hg hv (L.length + 1) ⟨[], [], false⟩ s1 (by omega) hn1.fit ⟨by simp, by simp, rfl⟩ r2
      generalize thrGo L pt (L.length + 1) ⟨[], [], false⟩ s1 = g at *
      have hk0 : 0 < g.1.kids.length := by have := a3 (by omega); simpa using this
      have hww : (if g.1.heavy then g.1.ws else []).length = 0 ∨ (if g.1.heavy then g.1.ws else []).length = g.1.kids.length := by
        split
        · exact Or.inr a1.len
        · exact Or.inl rfl
      have hws : ∀ w ∈ (if g.1.heavy then g.1.ws else []), small w = true := by
        split
        · exact a1.ws
        · simp
      refine ⟨ok_mk (by rw [head_ok2]; simp only [bs_size, List.length_nil, decide_true, q1, Bool.true_and, Bool.and_eq_true, Bool.or_eq_true, decide_eq_true_eq]; exact ⟨hk0, hww⟩) hws a1.kids, ?_⟩
      refine out _ _ (by rw [op_mk]; decide) (by rw [op_mk]; decide) ?_
      have hl := tt2_length nq.1 _ g.1.kids hww
      have e0 : sumT ([] : List Tm) = 0 := rfl
      rw [e0] at a4
      simp only [List.length_nil] at a4
      omega
    · have e : thrGo L pt (L.length + 1) ⟨[], [], false⟩ s1 = (⟨[], [], false⟩, s1) := by rw [thrGo, if_neg he1]
      rw [e] at r2
      exact absurd r2 he1
  · rename_i hi
    rw [if_neg hi] at h
    split
    · rename_i hw
      rw [if_pos hw] at h
      simp only at h ⊢
      obtain ⟨r1, r2⟩ := need_ok h
      obtain ⟨w1, w2⟩ := isW_ok hw
      obtain ⟨k1, k2⟩ := hv (adv s) (by rw [adv_pos]; omega) w2 r2
      refine ⟨k1, ?_⟩
      have k3 := plen_le [] (pt (adv s)).1
      have k4 := plen_max [3, 4] (pt (adv s)).1
      rw [adv_pos] at k2
      omega
    · rename_i hw
      rw [if_neg hw] at h
      split
      · rename_i hf
        rw [if_pos hf] at h
        obtain ⟨w1, w2⟩ := isFun_ok hf
        split
        · rename_i h5
          rw [if_pos h5] at h
          simp only at h ⊢
          obtain ⟨r1, r2⟩ := need_ok h
          have hnk := need_ok (L := L) (x := (⟨#[40]⟩ : ByteArray)) (s := adv s)
          have hn1 := ahead_need (L := L) (s := adv s) (⟨#[40]⟩ : ByteArray) w2
          have hgd := hg (need L (⟨#[40]⟩ : ByteArray) (adv s)) hn1.fit
          obtain ⟨p1, p2⟩ := hnk (hgd.ok r2)
          rw [adv_pos] at p1
          obtain ⟨k1, k2⟩ := hv _ (by omega) hn1.fit r2
          generalize need L (⟨#[40]⟩ : ByteArray) (adv s) = s1 at *
          refine ⟨ok_mk (by rw [head_ok5]; simp [bs_size]) (by simp) (by intro k hk; rw [List.mem_singleton.1 hk]; exact k1), ?_⟩
          refine out _ _ (by rw [op_mk]; decide) (by rw [op_mk]; decide) ?_
          have k3 := plen_le [] (pt s1).1
          have e : (tt (.mk 5 (bs []) 0 [] [(pt s1).1])).length = (tt (pt s1).1).length + 3 := by
            unfold tt
            rw [pcs5, toksOf_append, toksOf_append]
            simp only [List.length_append, toksOf_cons, toksOf_nil, Pc.toks, List.length_cons, List.length_nil]; omega
          rw [e]; omega
        · rename_i h5
          rw [if_neg h5] at h
          simp only at h ⊢
          obtain ⟨r1, r2⟩ := need_ok h
          have hnk := need_ok (L := L) (x := (⟨#[40]⟩ : ByteArray)) (s := adv s)
          have hn1 := ahead_need (L := L) (s := adv s) (⟨#[40]⟩ : ByteArray) w2
          have hgd := ahead_group (L := L) hn1.fit
          obtain ⟨p1, p2⟩ := hnk (hgd.ok r2)
          rw [adv_pos] at p1
          generalize need L (⟨#[40]⟩ : ByteArray) (adv s) = s1 at *
          have hgr : (okName (pGroup L s1).1 || (pGroup L s1).1 == (⟨#[115, 101, 114, 118, 101, 114, 115]⟩ : ByteArray)) = true ∧ (pGroup L s1).2.pos = s1.pos + 1 := by
            unfold pGroup at r2 ⊢
            split
            · refine ⟨?_, rfl⟩
              rw [Bool.or_eq_true]; exact Or.inr ((ba_iff _ _).2 rfl)
            · rename_i hsv
              rw [if_neg hsv] at r2
              obtain ⟨n1, n2, -⟩ := name_ok hL r2
              exact ⟨by rw [n1]; rfl, n2⟩
          generalize pGroup L s1 = gq at *
          have hop : funOp (txt L s) = 6 ∨ funOp (txt L s) = 7 ∨ funOp (txt L s) = 8 := by
            unfold isFun at hf
            unfold txt at h5 ⊢
            split at hf
            · rename_i t e
              have h5 : ¬ funOp t.text = 5 := by rw [e] at h5; exact h5
              show funOp t.text = 6 ∨ funOp t.text = 7 ∨ funOp t.text = 8
              simp only [Bool.and_eq_true, bne_iff_ne] at hf
              have hf2 := hf.2
              unfold funOp at h5 hf2 ⊢
              split at h5
              · exact absurd rfl h5
              · rename_i g5
                rw [if_neg g5] at hf2 ⊢
                split
                · exact Or.inl rfl
                · rename_i g6
                  rw [if_neg g6] at hf2
                  split
                  · exact Or.inr (Or.inl rfl)
                  · rename_i g7
                    rw [if_neg g7] at hf2
                    split
                    · exact Or.inr (Or.inr rfl)
                    · rename_i g8
                      rw [if_neg g8] at hf2
                      exact absurd rfl hf2
            · cases hf
          have hb : ∀ k : Int, bare (.mk k gq.1 0 [] []) = true := fun k => rfl
          rcases hop with ho | ho | ho <;> rw [ho]
          · refine ⟨ok_mk (by rw [show (((6 : Nat) : Int)) = 6 from rfl, head_ok6, hgr.1, hb]; rfl) (by simp) (by simp), ?_⟩
            refine out _ _ (by rw [op_mk]; decide) (by rw [op_mk]; decide) ?_
            have e : (tt (.mk 6 gq.1 0 [] [])).length = 4 := by unfold tt; rw [pcs6]; rfl
            rw [show (((6 : Nat) : Int)) = 6 from rfl, e]; omega
          · refine ⟨ok_mk (by rw [show (((7 : Nat) : Int)) = 7 from rfl, head_ok7, hgr.1, hb]; rfl) (by simp) (by simp), ?_⟩
            refine out _ _ (by rw [op_mk]; decide) (by rw [op_mk]; decide) ?_
            have e : (tt (.mk 7 gq.1 0 [] [])).length = 4 := by unfold tt; rw [pcs7]; rfl
            rw [show (((7 : Nat) : Int)) = 7 from rfl, e]; omega
          · refine ⟨ok_mk (by rw [show (((8 : Nat) : Int)) = 8 from rfl, head_ok8, hgr.1, hb]; rfl) (by simp) (by simp), ?_⟩
            refine out _ _ (by rw [op_mk]; decide) (by rw [op_mk]; decide) ?_
            have e : (tt (.mk 8 gq.1 0 [] [])).length = 4 := by unfold tt; rw [pcs8]; rfl
            rw [show (((8 : Nat) : Int)) = 8 from rfl, e]; omega
      · rename_i hf
        rw [if_neg hf] at h
        simp only at h ⊢
        obtain ⟨n1, n2, -⟩ := name_ok hL h
        have hb : bare (.mk 1 (pName L s).1 0 [] []) = true := rfl
        refine ⟨ok_mk (by rw [head_ok1, n1, hb]; rfl) (by simp) (by simp), ?_⟩
        refine out _ _ (by unfold Tm.named; rw [op_mk]; decide) (by unfold Tm.named; rw [op_mk]; decide) ?_
        have e : (tt (Tm.named (pName L s).1)).length = 1 := by unfold tt Tm.named; rw [pcs1]; rfl
        rw [e]; omega
theorem Vd.mono {L : Toks} {m : Nat} {ops ops' : List Int} {part : St → Tm × St} (h : Vd L m ops part) (hle : ∀ t, plen ops' t ≤ plen ops t) : Vd L m ops' part := fun s h1 h2 h3 => by
  have := h s h1 h2 h3
  have := hle (part s).1
  exact ⟨(h s h1 h2 h3).1, by omega⟩
theorem plen_nil (t : Tm) : plen [] t = (tt t).length := plen_no rfl
theorem termN_ok {L : Toks} (hL : LexOk L) (f : Nat) : ∀ m, L.length < m + f → Vd L m [] (pTermN L f) := by
  induction f with
  | zero => intro m hm s h1 h2; omega
  | succ f ih =>
    intro m hm
    have hf := factor_ok hL (m := m) (good_termN L f) (ih (m + 1) (by omega))
    have hc : Vd L m [4] (pConj L (pTermN L f)) := join_ok (good_factor (good_termN L f)) hf okAnd tt3_length (by decide) plen_34
    exact join_ok (good_join (good_factor (good_termN L f)) _ _) hc okOr tt4_length (by decide) (fun t => by rw [plen_nil]; exact plen_le _ _)
theorem term_ok {L : Toks} (hL : LexOk L) {s : St} (hs : s.pos ≤ L.length) (h : (pTerm L s).2.err = 0) : okTm (pTerm L s).1 = true ∧ (tt (pTerm L s).1).length + 2 + 3 * s.pos ≤ 3 * (pTerm L s).2.pos := by
  have := termN_ok hL (L.length + 1) s.pos (by omega) s (Nat.le_refl _) hs h
  rw [plen_nil] at this; exact this
end Go.Proofs.YtipicaoinnblpaaGreatDoor
namespace Go.Proofs.YtipicaoinnblpaaGreatDoor

theorem take_pre (p : Nat → Bool) (l : List UInt8) : l.take (pre p l) = l.takeWhile fun c => p c.toNat := by
  unfold pre
  induction l with
  | nil => rfl
  | cons c r ih =>
    rw [List.takeWhile_cons]
    split
    · rw [List.length_cons, List.take_succ_cons, ih]
    · rfl
theorem takeWhile_all (p : Nat → Bool) (l : List UInt8) : ∀ c ∈ l.takeWhile (fun c => p c.toNat), p c.toNat = true := by
  induction l with
  | nil => intro c hc; simp at hc
  | cons d r ih =>
    intro c hc
    rw [List.takeWhile_cons] at hc
    split at hc
    · rename_i hd
      rcases List.mem_cons.1 hc with rfl | hc
      · exact hd
      · exact ih c hc
    · simp at hc
theorem lexOne_word {l : List UInt8} {t : Tok} {n : Nat} (h : lexOne l = some (t, n)) (hk : t.kind = 1) : lexName t.text.data.toList = true := by
  match l with
  | [] => simp [lexOne] at h
  | c :: r =>
    rw [lexOne] at h
    split at h
    · rename_i hc
      split at h
      · simp at h
      · rename_i hl
        simp only [Option.some.injEq, Prod.mk.injEq] at h
        obtain ⟨rfl, -⟩ := h
        simp only [bs_data]
        rw [take_pre]
        have hp : pre isCont (c :: r) ≤ 24 := by omega
        have hcc : isCont c.toNat = true := by unfold isCont; rw [hc]; rfl
        have e : (c :: r).takeWhile (fun c => isCont c.toNat) = c :: r.takeWhile (fun c => isCont c.toNat) := by rw [List.takeWhile_cons, if_pos hcc]
        have hall := takeWhile_all isCont (c :: r)
        unfold pre at hp
        rw [e] at hp hall ⊢
        unfold lexName
        simp only [Bool.and_eq_true, decide_eq_true_eq, beq_iff_eq]
        refine ⟨⟨hp, hc⟩, ?_⟩
        have := pre_append isCont (c :: r.takeWhile fun c => isCont c.toNat) [] hall (by simp)
        rw [List.append_nil] at this; exact this
    · split at h
      · split at h
        · simp at h
        · simp only [Option.some.injEq, Prod.mk.injEq] at h
          obtain ⟨rfl, -⟩ := h
          simp at hk
      · split at h
        · split at h
          · simp at h
          · simp only [Option.some.injEq, Prod.mk.injEq] at h
            obtain ⟨rfl, -⟩ := h
            simp at hk
        · split at h
          · simp only [Option.some.injEq, Prod.mk.injEq] at h
            obtain ⟨rfl, -⟩ := h
            simp at hk
          · simp at h
theorem lexF_ok (f : Nat) : ∀ (l : List UInt8) (line : Nat) (acc : Toks), LexOk acc → LexOk (lexF f l line acc).1 ∧ (lexF f l line acc).1.length ≤ acc.length + l.length := by
  induction f with
  | zero => intro l line acc h; exact ⟨h, by simp [lexF]⟩
  | succ f ih =>
    intro l line acc h
    match l with
    | [] => exact ⟨h, by simp [lexF]⟩
    | c :: r =>
      rw [lexF]
      split
      · obtain ⟨a, b⟩ := ih r (if c = 10 then line + 1 else line) acc h
        exact ⟨a, by simp only [List.length_cons]; omega⟩
      · split
        · obtain ⟨a, b⟩ := ih (dropLine (c :: r)) line acc h
          have := dropLine_length (c :: r)
          exact ⟨a, by omega⟩
        · split
          · exact ⟨fun p hp => by simp at hp, by simp⟩
          · rename_i t n e
            have hn := lexOne_pos _ _ _ e
            obtain ⟨a, b⟩ := ih ((c :: r).drop n) line (acc ++ [(t, line)]) (by
              intro p hp hk
              rcases List.mem_append.1 hp with hp | hp
              · exact h p hp hk
              · rw [List.mem_singleton.1 hp] at hk ⊢
                exact lexOne_word e hk)
            refine ⟨a, ?_⟩
            simp only [List.length_append, List.length_cons, List.length_nil, List.length_drop] at b ⊢
            omega
theorem lex_ok (l : List UInt8) : LexOk (lex l 1 []).1 ∧ (lex l 1 []).1.length ≤ l.length := by
  have := lexF_ok l.length l 1 [] (fun p hp => by simp at hp)
  simpa [lex] using this

theorem ftP3 (nm : ByteArray) (x y : Int) (bl cl : List ByteArray) : ftP ⟨3, nm, x, y, bl, cl⟩ = setsP ⟨3, nm, x, y, bl, cl⟩ := rfl
theorem fault_ok {L : Toks} (hL : LexOk L) (x : Int) {s : St} (h : (pFault L x s).2.err = 0) : okFt (pFault L x s).1 = true ∧ (pFault L x s).2.pos = s.pos + (toksOf (ftP (pFault L x s).1)).length ∧ s.err = 0 := by
  unfold pFault at h ⊢
  split
  · rename_i hw
    rw [if_pos hw] at h
    exact ⟨show okFt ⟨1, bs [], 0, 0, [], []⟩ = true by decide, rfl, h⟩
  · rename_i hw
    rw [if_neg hw] at h
    clear hw
    split
    · rename_i hw
      rw [if_pos hw] at h
      simp only at h ⊢
      obtain ⟨a1, a2, a3⟩ := num_ok h
      obtain ⟨b1, b2, b3⟩ := num_ok a3
      rw [adv_pos] at b2
      refine ⟨?_, ?_, b3⟩
      · show (decide ((bs []).size = 0) && small _ && small _ && true) = true
        rw [b1, a1]; rfl
      · show _ = s.pos + 3
        omega
    · rename_i hw
      rw [if_neg hw] at h
      clear hw
      split
      · rename_i hw
        rw [if_pos hw] at h
        split
        · rename_i hc
          rw [if_pos hc] at h
          simp only at h ⊢
          obtain ⟨a1, a2, a3, a4⟩ := braces_ok hL h
          obtain ⟨b1, b2, b3, b4⟩ := braces_ok hL (s := adv s) a4
          rw [adv_pos] at a3 b3
          refine ⟨?_, ?_, b4⟩
          · show (decide ((bs []).size = 0) && true && decide (0 < _ + _) && okNames _ && okNames _) = true
            rw [a1, b1, decide_eq_true (show 0 < (pBraces L (adv s)).1.length + _ by omega)]; rfl
          · rw [ftP3]
            unfold setsP
            simp only
            rw [if_neg (by omega), if_neg (by omega), toksOf_append, toksOf_cons, braced_toks, braced_toks]
            simp only [List.length_append, List.length_cons, List.length_nil, Pc.toks]
            omega
        · rename_i hc
          rw [if_neg hc] at h
          simp only at h ⊢
          obtain ⟨b1, b2, b3, b4⟩ := braces_ok hL (s := adv s) h
          rw [adv_pos] at b3
          refine ⟨?_, ?_, b4⟩
          · show (decide ((bs []).size = 0) && true && decide (0 < (pBraces L (adv s)).1.length + 0) && okNames _ && true) = true
            rw [b1, decide_eq_true (show 0 < (pBraces L (adv s)).1.length + 0 by omega)]; rfl
          · rw [ftP3]
            unfold setsP
            simp only
            rw [if_neg (by omega), if_pos (show ([] : List ByteArray).length = 0 from rfl), braced_toks]
            simp only [List.length_append, List.length_cons, List.length_nil]
            omega
      · rename_i hw
        rw [if_neg hw] at h
        clear hw
        split
        · rename_i hw
          rw [if_pos hw] at h
          simp only at h ⊢
          obtain ⟨b1, b2, b3, b4⟩ := braces_ok hL (s := adv s) h
          rw [adv_pos] at b3
          refine ⟨?_, ?_, b4⟩
          · show (decide ((bs []).size = 0) && true && decide (0 < 0 + (pBraces L (adv s)).1.length) && true && okNames _) = true
            rw [b1, decide_eq_true (show 0 < 0 + (pBraces L (adv s)).1.length by omega)]; rfl
          · rw [ftP3]
            unfold setsP
            simp only
            rw [if_pos (show ([] : List ByteArray).length = 0 from rfl), braced_toks]
            simp only [List.length_append, List.length_cons, List.length_nil]
            omega
        · rename_i hw
          rw [if_neg hw] at h
          clear hw
          split
          · rename_i hw
            rw [if_pos hw] at h
            split
            · rename_i hc
              rw [if_pos hc] at h
              simp only at h ⊢
              obtain ⟨b1, b2, b3⟩ := name_ok hL (s := adv s) h
              rw [adv_pos] at b2
              refine ⟨?_, ?_, b3⟩
              · show (okName _ && true && true) = true
                rw [b1]; rfl
              · show (pName L (adv s)).2.pos + 1 = s.pos + 3
                omega
            · rename_i hc
              rw [if_neg hc] at h
              split
              · rename_i hb
                rw [if_pos hb] at h
                simp only at h ⊢
                obtain ⟨b1, b2, b3⟩ := name_ok hL (s := adv s) h
                rw [adv_pos] at b2
                refine ⟨?_, ?_, b3⟩
                · show (okName _ && true && true) = true
                  rw [b1]; rfl
                · show (pName L (adv s)).2.pos + 1 = s.pos + 3
                  omega
              · rename_i hb
                rw [if_neg hb] at h
                exact absurd h (fails_err 2 (by decide) _)
          · rename_i hw
            rw [if_neg hw] at h
            simp only at h ⊢
            obtain ⟨b1, b2, b3⟩ := name_ok hL h
            refine ⟨?_, ?_, b3⟩
            · show (okName _ && true && true) = true
              rw [b1]; rfl
            · show _ = s.pos + 1
              omega
def sumF (l : List Ft) : Nat := (l.map fun f => (toksOf (ftP f)).length).sum
theorem fault_err {L : Toks} (x : Int) {s : St} (hs : s.pos ≤ L.length) (h : s.err ≠ 0) : (pFault L x s).2.err ≠ 0 := by
  have := (ahead_fault (L := L) x hs).err h
  rw [this]; exact h
theorem faultsGo_err {L : Toks} (x : Int) {s : St} (h : s.err ≠ 0) (acc : List Ft) (f : Nat) : faultsGo L x f acc s = (acc, s) := by
  cases f with
  | zero => rfl
  | succ f => rw [faultsGo, isW_err h, if_neg (by simp)]
theorem faultsGo_ok {L : Toks} (hL : LexOk L) (x : Int) (f : Nat) : ∀ (acc : List Ft) (s : St), acc.all okFt = true → (faultsGo L x f acc s).2.err = 0 →
    (faultsGo L x f acc s).1.all okFt = true ∧ acc.length ≤ (faultsGo L x f acc s).1.length ∧ (faultsGo L x f acc s).2.pos + sumF acc = s.pos + sumF (faultsGo L x f acc s).1 + ((faultsGo L x f acc s).1.length - acc.length) ∧ s.err = 0 := by
  induction f with
  | zero => intro acc s ha h; exact ⟨ha, Nat.le_refl _, by simp [faultsGo], h⟩
  | succ f ih =>
    intro acc s ha h
    rw [faultsGo] at h ⊢
    split
    · rename_i hw
      rw [if_pos hw] at h
      have hs := (isW_ok hw).1
      have hk := fault_ok hL x (s := adv s)
      generalize pFault L x (adv s) = q at h hk ⊢
      by_cases he : q.2.err = 0
      · obtain ⟨k1, k2, -⟩ := hk he
        rw [adv_pos] at k2
        obtain ⟨a1, a2, a3, -⟩ := ih (acc ++ [q.1]) q.2 (by rw [List.all_append, ha]; simp [k1]) h
        have e : sumF (acc ++ [q.1]) = sumF acc + (toksOf (ftP q.1)).length := by simp [sumF]
        rw [e] at a3
        simp only [List.length_append, List.length_cons, List.length_nil] at a2 a3
        exact ⟨a1, by omega, by omega, hs⟩
      · rw [faultsGo_err x he] at h
        exact absurd h he
    · rename_i hw
      rw [if_neg hw] at h
      exact ⟨ha, Nat.le_refl _, by simp, h⟩
theorem faults_len (l : List Ft) : (toksOf (joinP (l.map ftP) orSep)).length = sumF l + (l.length - 1) := by
  rw [toks_join _ orSep bar rfl, joinT_length, List.map_map, List.map_map, List.length_map, List.length_map]; rfl
theorem faults_ok {L : Toks} (hL : LexOk L) (x : Int) {s : St} (h : (pFaults L x s).2.err = 0) : (pFaults L x s).1.all okFt = true ∧ 0 < (pFaults L x s).1.length ∧ (pFaults L x s).2.pos = s.pos + (toksOf (joinP ((pFaults L x s).1.map ftP) orSep)).length ∧ s.err = 0 := by
  unfold pFaults at h ⊢
  have hk := fault_ok hL x (s := s)
  generalize pFault L x s = q at h hk ⊢
  by_cases he : q.2.err = 0
  · obtain ⟨k1, k2, k3⟩ := hk he
    obtain ⟨a1, a2, a3, -⟩ := faultsGo_ok hL x L.length [q.1] q.2 (by simp [k1]) h
    have e : sumF [q.1] = (toksOf (ftP q.1)).length := by simp [sumF]
    rw [e] at a3
    simp only [List.length_cons, List.length_nil] at a2 a3
    refine ⟨a1, by omega, ?_, k3⟩
    rw [faults_len]; omega
  · rw [faultsGo_err x he] at h
    exact absurd h he

theorem blank_of : blank .zero = true := by decide
theorem okNameB {x : ByteArray} (h : okName x = true) : decide (x.size = 0) = false := by
  obtain ⟨c, r, e, -, -, -⟩ := lexName_parts (okName_lex h)
  have e0 : x.data.toList.length = x.size := by simp
  rw [e] at e0
  simp only [List.length_cons] at e0
  exact decide_eq_false (by omega)
/-- A valid declaration, from its parts. -/
theorem dcOk_mk {d : Dc} (h : DcOk d) : okDc d = true := by
  unfold okDc
  rw [decide_eq_true h.lo, decide_eq_true h.hi, h.hname, h.hnames, h.hfaults, h.names, h.faults, h.term, h.conf]
  have e1 : (decide (d.name.size = 0) || okName d.name) = true := by rcases h.name with h | h <;> simp [h]
  have e2 : (decide (d.use.size = 0) || okName d.use) = true := by rcases h.use with h | h <;> simp [h]
  rw [e1, e2]
  simp
theorem conf_plain {k : Int} {u : ByteArray} (hc : hasConfig k = false) (hu : (mayUse k || decide (u.size = 0)) = true) : (if hasConfig k = true then (bs [] == (⟨#[99, 114, 97, 115, 104]⟩ : ByteArray) || bs [] == (⟨#[98, 121, 122, 97, 110, 116, 105, 110, 101]⟩ : ByteArray)) && okTm .zero && okTm .zero && !decide (u.size = 0)
   else decide ((bs []).size = 0) && blank .zero && blank .zero && (mayUse k || decide (u.size = 0))) = true := by
  rw [hc, if_neg (by simp), hu]; decide
theorem conf_yes {k : Int} {p u : ByteArray} {r v : Tm} (hc : hasConfig k = true) (h : ((p == (⟨#[99, 114, 97, 115, 104]⟩ : ByteArray) || p == (⟨#[98, 121, 122, 97, 110, 116, 105, 110, 101]⟩ : ByteArray)) && okTm r && okTm v && !decide (u.size = 0)) = true) : (if hasConfig k = true then (p == (⟨#[99, 114, 97, 115, 104]⟩ : ByteArray) || p == (⟨#[98, 121, 122, 97, 110, 116, 105, 110, 101]⟩ : ByteArray)) && okTm r && okTm v && !decide (u.size = 0)
   else decide (p.size = 0) && blank r && blank v && (mayUse k || decide (u.size = 0))) = true := by
  rw [if_pos hc]; exact h
theorem term_plain {k : Int} (hc : hasTerm k = false) : (if hasTerm k = true then okTm .zero else blank .zero) = true := by
  rw [hc, if_neg (by simp)]; decide
theorem hn_yes {k : Int} {n : ByteArray} (hc : hasName k = true) (h : okName n = true) : hasName k = !decide (n.size = 0) := by rw [hc, okNameB h]; rfl
theorem hn_no {k : Int} (hc : hasName k = false) : hasName k = !decide ((bs []).size = 0) := by rw [hc]; decide
theorem hl_yes {k : Int} {n : List ByteArray} (hc : hasNames k = true) (h : 0 < n.length) : hasNames k = decide (0 < n.length) := by rw [hc, decide_eq_true h]
theorem hl_no {k : Int} (hc : hasNames k = false) : hasNames k = decide (0 < ([] : List ByteArray).length) := by rw [hc]; decide
theorem hf_yes {k : Int} {n : List Ft} (hc : hasFaults k = true) (h : 0 < n.length) : hasFaults k = decide (0 < n.length) := by rw [hc, decide_eq_true h]
theorem hf_no {k : Int} (hc : hasFaults k = false) : hasFaults k = decide (0 < ([] : List Ft).length) := by rw [hc]; decide
theorem body_ok {L : Toks} (hL : LexOk L) (x : Int) (line : Int) {s : St} (h : (pBody L x (.zero line) s).2.err = 0) :
    okDc (pBody L x (.zero line) s).1 = true ∧ (toksOf (dcP (pBody L x (.zero line) s).1)).length + 3 * s.pos ≤ 3 * (pBody L x (.zero line) s).2.pos + 3 := by
  unfold pBody at h ⊢
  split
  · rename_i hw
    rw [if_pos hw] at h
    unfold pSite at h ⊢
    simp only at h ⊢
    obtain ⟨a1, a2, a3, a4⟩ := braces_ok hL h
    obtain ⟨b1, b2, b3⟩ := name_ok hL (s := adv s) a4
    rw [adv_pos] at b2
    generalize pBraces L (pName L (adv s)).2 = g at *
    generalize pName L (adv s) = n at *
    refine ⟨dcOk_mk ⟨(by show (1 : Int) ≤ 1; decide), (by show (1 : Int) ≤ 7; decide), hn_yes (k := 1) (by decide) b1, hl_yes (k := 1) (by decide) a2, hf_no (k := 1) (by decide), Or.inr b1, Or.inl rfl, a1, rfl, term_plain (k := 1) (by decide), conf_plain (k := 1) (u := bs []) (by decide) (by decide)⟩, ?_⟩
    · show (toksOf ([.word [115, 105, 116, 101], .gap [32], .word n.1.data.toList, .gap [32], .sym 123, .gap [32]] ++ (namesP g.1 ++ [.gap [32], .sym 125, .sym 59]))).length + 3 * s.pos ≤ 3 * g.2.pos + 3
      simp only [toksOf_append, toksOf_cons, toksOf_nil, Pc.toks, List.length_append, List.length_cons, List.length_nil]
      omega
  · rename_i hw
    rw [if_neg hw] at h
    clear hw
    split
    · rename_i hw
      rw [if_pos hw] at h
      unfold pFaultsD at h ⊢
      simp only at h ⊢
      obtain ⟨a1, a2, a3, a4⟩ := faults_ok hL x h
      obtain ⟨c1, c2⟩ := need_ok a4
      obtain ⟨b1, b2, b3⟩ := name_ok hL (s := adv s) c2
      rw [adv_pos] at b2
      generalize pFaults L x (need L (⟨#[61]⟩ : ByteArray) (pName L (adv s)).2) = g at *
      generalize need L (⟨#[61]⟩ : ByteArray) (pName L (adv s)).2 = s2 at *
      generalize pName L (adv s) = n at *
      refine ⟨dcOk_mk ⟨(by show (1 : Int) ≤ 2; decide), (by show (2 : Int) ≤ 7; decide), hn_yes (k := 2) (by decide) b1, hl_no (k := 2) (by decide), hf_yes (k := 2) (by decide) a2, Or.inr b1, Or.inl rfl, rfl, a1, term_plain (k := 2) (by decide), conf_plain (k := 2) (u := bs []) (by decide) (by decide)⟩, ?_⟩
      · show (toksOf ([.word [102, 97, 117, 108, 116, 115], .gap [32], .word n.1.data.toList, .gap [32], .sym 61, .gap [32]] ++ (joinP (g.1.map ftP) orSep ++ [.sym 59]))).length + 3 * s.pos ≤ 3 * g.2.pos + 3
        simp only [toksOf_append, toksOf_cons, toksOf_nil, Pc.toks, List.length_append, List.length_cons, List.length_nil]
        omega
    · rename_i hw
      rw [if_neg hw] at h
      clear hw
      split
      · rename_i hw
        rw [if_pos hw] at h
        unfold pQuorum at h ⊢
        simp only at h ⊢
        have hw2 := (isW_ok hw).2
        have f1 := ahead_name (L := L) (s := adv s) hw2
        have f2 := ahead_need (L := L) (⟨#[61]⟩ : ByteArray) f1.fit
        obtain ⟨a1, a2⟩ := term_ok hL f2.fit h
        obtain ⟨c1, c2⟩ := need_ok ((good_term L _ f2.fit).ok h)
        obtain ⟨b1, b2, b3⟩ := name_ok hL (s := adv s) c2
        rw [adv_pos] at b2
        generalize pTerm L (need L (⟨#[61]⟩ : ByteArray) (pName L (adv s)).2) = g at *
        generalize need L (⟨#[61]⟩ : ByteArray) (pName L (adv s)).2 = s2 at *
        generalize pName L (adv s) = n at *
        refine ⟨dcOk_mk ⟨(by show (1 : Int) ≤ 3; decide), (by show (3 : Int) ≤ 7; decide), hn_yes (k := 3) (by decide) b1, hl_no (k := 3) (by decide), hf_no (k := 3) (by decide), Or.inr b1, Or.inl rfl, rfl, rfl, (by show (if hasTerm 3 = true then okTm g.1 else blank g.1) = true; rw [if_pos (show hasTerm 3 = true by decide)]; exact a1), conf_plain (k := 3) (u := bs []) (by decide) (by decide)⟩, ?_⟩
        · show (toksOf ([.word [113, 117, 111, 114, 117, 109], .gap [32], .word n.1.data.toList, .gap [32], .sym 61, .gap [32]] ++ (tmPcs g.1 ++ [.sym 59]))).length + 3 * s.pos ≤ 3 * g.2.pos + 3
          simp only [toksOf_append, toksOf_cons, toksOf_nil, Pc.toks, List.length_append, List.length_cons, List.length_nil]
          have : (toksOf (tmPcs g.1)).length = (tt g.1).length := rfl
          omega
      · rename_i hw
        rw [if_neg hw] at h
        clear hw
        split
        · rename_i hw
          rw [if_pos hw] at h
          unfold pConfig pCfg at h ⊢
          simp only at h ⊢
          have hw2 := (isW_ok hw).2
          have f1 := ahead_name (L := L) (s := adv s) hw2
          have fn := name_ok hL (s := adv s)
          generalize pName L (adv s) = n at *
          have fp : ∀ (q : St), q = (if isW L (⟨#[99, 114, 97, 115, 104]⟩ : ByteArray) n.2 = true then adv n.2 else need L (⟨#[98, 121, 122, 97, 110, 116, 105, 110, 101]⟩ : ByteArray) n.2) → Ahead L n.2 q ∧ (q.err = 0 → q.pos = n.2.pos + 1 ∧ n.2.err = 0) := by
            intro q hq
            subst hq
            split
            · rename_i hc
              exact ⟨ahead_adv (isW_ok hc), fun he => ⟨rfl, he⟩⟩
            · exact ⟨ahead_need _ f1.fit, fun he => need_ok he⟩
          have fpp := fp _ rfl
          generalize (if isW L (⟨#[99, 114, 97, 115, 104]⟩ : ByteArray) n.2 = true then adv n.2 else need L (⟨#[98, 121, 122, 97, 110, 116, 105, 110, 101]⟩ : ByteArray) n.2) = s1 at *
          have f2 := ahead_need (L := L) (⟨#[114, 101, 97, 100]⟩ : ByteArray) fpp.1.fit
          have g2 := need_ok (L := L) (x := (⟨#[114, 101, 97, 100]⟩ : ByteArray)) (s := s1)
          generalize need L (⟨#[114, 101, 97, 100]⟩ : ByteArray) s1 = s2 at *
          have f3 := good_term L s2 f2.fit
          have g3 := term_ok hL f2.fit
          generalize pTerm L s2 = r at *
          have f4 := ahead_need (L := L) (⟨#[119, 114, 105, 116, 101]⟩ : ByteArray) f3.fit
          have g4 := need_ok (L := L) (x := (⟨#[119, 114, 105, 116, 101]⟩ : ByteArray)) (s := r.2)
          generalize need L (⟨#[119, 114, 105, 116, 101]⟩ : ByteArray) r.2 = s3 at *
          have f5 := good_term L s3 f4.fit
          have g5 := term_ok hL f4.fit
          generalize pTerm L s3 = v at *
          have g6 := need_ok (L := L) (x := (⟨#[102, 97, 117, 108, 116, 115]⟩ : ByteArray)) (s := v.2)
          generalize need L (⟨#[102, 97, 117, 108, 116, 115]⟩ : ByteArray) v.2 = s4 at *
          have g7 := name_ok hL (s := s4)
          generalize pName L s4 = u at *
          obtain ⟨u1, u2, u3⟩ := g7 h
          obtain ⟨v1, v2⟩ := g6 u3
          obtain ⟨w1, w2⟩ := g5 v2
          obtain ⟨x1, x2⟩ := g4 (f5.ok v2)
          obtain ⟨y1, y2⟩ := g3 x2
          obtain ⟨z1, z2⟩ := g2 (f3.ok x2)
          obtain ⟨p1, p2⟩ := fpp.2 z2
          obtain ⟨b1, b2, -⟩ := fn p2
          rw [adv_pos] at b2
          have hpr : ∀ (b : Bool), ((if b = true then (⟨#[99, 114, 97, 115, 104]⟩ : ByteArray) else (⟨#[98, 121, 122, 97, 110, 116, 105, 110, 101]⟩ : ByteArray)) == (⟨#[99, 114, 97, 115, 104]⟩ : ByteArray) || (if b = true then (⟨#[99, 114, 97, 115, 104]⟩ : ByteArray) else (⟨#[98, 121, 122, 97, 110, 116, 105, 110, 101]⟩ : ByteArray)) == (⟨#[98, 121, 122, 97, 110, 116, 105, 110, 101]⟩ : ByteArray)) = true := by intro b; cases b <;> decide
          refine ⟨dcOk_mk ⟨(by show (1 : Int) ≤ 4; decide), (by show (4 : Int) ≤ 7; decide), hn_yes (k := 4) (by decide) b1, hl_no (k := 4) (by decide), hf_no (k := 4) (by decide), Or.inr b1, Or.inr u1, rfl, rfl, term_plain (k := 4) (by decide), conf_yes (k := 4) (by decide) ?_⟩, ?_⟩
          · show (((if isW L (⟨#[99, 114, 97, 115, 104]⟩ : ByteArray) n.2 = true then (⟨#[99, 114, 97, 115, 104]⟩ : ByteArray) else (⟨#[98, 121, 122, 97, 110, 116, 105, 110, 101]⟩ : ByteArray)) == (⟨#[99, 114, 97, 115, 104]⟩ : ByteArray) || (if isW L (⟨#[99, 114, 97, 115, 104]⟩ : ByteArray) n.2 = true then (⟨#[99, 114, 97, 115, 104]⟩ : ByteArray) else (⟨#[98, 121, 122, 97, 110, 116, 105, 110, 101]⟩ : ByteArray)) == (⟨#[98, 121, 122, 97, 110, 116, 105, 110, 101]⟩ : ByteArray)) && okTm r.1 && okTm v.1 && !decide (u.1.size = 0)) = true
            rw [hpr, y1, w1, okNameB u1]; rfl
          · show (toksOf ([.word [99, 111, 110, 102, 105, 103], .gap [32], .word n.1.data.toList, .gap [32], .word (if isW L (⟨#[99, 114, 97, 115, 104]⟩ : ByteArray) n.2 = true then (⟨#[99, 114, 97, 115, 104]⟩ : ByteArray) else (⟨#[98, 121, 122, 97, 110, 116, 105, 110, 101]⟩ : ByteArray)).data.toList, .gap [32], .word [114, 101, 97, 100], .gap [32]] ++ (tmPcs r.1 ++ (.gap [32] :: .word [119, 114, 105, 116, 101] :: .gap [32] :: (tmPcs v.1 ++ [.gap [32], .word [102, 97, 117, 108, 116, 115], .gap [32], .word u.1.data.toList, .sym 59]))))).length + 3 * s.pos ≤ 3 * u.2.pos + 3
            simp only [toksOf_append, toksOf_cons, toksOf_nil, Pc.toks, List.length_append, List.length_cons, List.length_nil]
            have : (toksOf (tmPcs r.1)).length = (tt r.1).length := rfl
            have : (toksOf (tmPcs v.1)).length = (tt v.1).length := rfl
            omega
        · rename_i hw
          rw [if_neg hw] at h
          clear hw
          split
          · rename_i hw
            rw [if_pos hw] at h
            simp only at h ⊢
            obtain ⟨a1, a2, a3, a4⟩ := names_ok hL (s := adv s) h
            rw [adv_pos] at a3
            generalize pNames L (adv s) = g at *
            refine ⟨dcOk_mk ⟨(by show (1 : Int) ≤ 5; decide), (by show (5 : Int) ≤ 7; decide), hn_no (k := 5) (by decide), hl_yes (k := 5) (by decide) a2, hf_no (k := 5) (by decide), Or.inl rfl, Or.inl rfl, a1, rfl, term_plain (k := 5) (by decide), conf_plain (k := 5) (u := bs []) (by decide) (by decide)⟩, ?_⟩
            · show (toksOf ([.word [119, 105, 116, 110, 101, 115, 115], .gap [32]] ++ (namesP g.1 ++ [.sym 59]))).length + 3 * s.pos ≤ 3 * g.2.pos + 3
              simp only [toksOf_append, toksOf_cons, toksOf_nil, Pc.toks, List.length_append, List.length_cons, List.length_nil]
              omega
          · rename_i hw
            rw [if_neg hw] at h
            clear hw
            split
            · rename_i hw
              rw [if_pos hw] at h
              unfold pClient at h ⊢
              split
              · rename_i hf
                rw [if_pos hf] at h
                simp only at h ⊢
                obtain ⟨u1, u2, u3⟩ := name_ok hL h
                obtain ⟨b1, b2, b3⟩ := name_ok hL (s := adv s) u3
                rw [adv_pos] at b2 u2
                generalize pName L (adv (pName L (adv s)).2) = u at *
                generalize pName L (adv s) = n at *
                refine ⟨dcOk_mk ⟨(by show (1 : Int) ≤ 6; decide), (by show (6 : Int) ≤ 7; decide), hn_yes (k := 6) (by decide) b1, hl_no (k := 6) (by decide), hf_no (k := 6) (by decide), Or.inr b1, Or.inr u1, rfl, rfl, term_plain (k := 6) (by decide), conf_plain (k := 6) (u := u.1) (by decide) (by rw [show mayUse 6 = true by decide]; rfl)⟩, ?_⟩
                · show (toksOf (if u.1.size = 0 then [.word [99, 108, 105, 101, 110, 116], .gap [32], .word n.1.data.toList, .sym 59] else [.word [99, 108, 105, 101, 110, 116], .gap [32], .word n.1.data.toList, .gap [32], .word [102, 97, 117, 108, 116, 115], .gap [32], .word u.1.data.toList, .sym 59])).length + 3 * s.pos ≤ 3 * u.2.pos + 3
                  split <;> simp only [toksOf_cons, toksOf_nil, Pc.toks, List.length_append, List.length_cons, List.length_nil] <;> omega
              · rename_i hf
                rw [if_neg hf] at h
                simp only at h ⊢
                obtain ⟨b1, b2, b3⟩ := name_ok hL (s := adv s) h
                rw [adv_pos] at b2
                generalize pName L (adv s) = n at *
                refine ⟨dcOk_mk ⟨(by show (1 : Int) ≤ 6; decide), (by show (6 : Int) ≤ 7; decide), hn_yes (k := 6) (by decide) b1, hl_no (k := 6) (by decide), hf_no (k := 6) (by decide), Or.inr b1, Or.inl rfl, rfl, rfl, term_plain (k := 6) (by decide), conf_plain (k := 6) (u := bs []) (by decide) (by decide)⟩, ?_⟩
                · show (toksOf [.word [99, 108, 105, 101, 110, 116], .gap [32], .word n.1.data.toList, .sym 59]).length + 3 * s.pos ≤ 3 * n.2.pos + 3
                  simp only [toksOf_cons, toksOf_nil, Pc.toks, List.length_append, List.length_cons, List.length_nil]; omega
            · rename_i hw
              rw [if_neg hw] at h
              clear hw
              split
              · rename_i hw
                rw [if_pos hw] at h
                simp only at h ⊢
                obtain ⟨a1, a2, a3, a4⟩ := names_ok hL (s := adv s) h
                rw [adv_pos] at a3
                generalize pNames L (adv s) = g at *
                refine ⟨dcOk_mk ⟨(by show (1 : Int) ≤ 7; decide), (by show (7 : Int) ≤ 7; decide), hn_no (k := 7) (by decide), hl_yes (k := 7) (by decide) a2, hf_no (k := 7) (by decide), Or.inl rfl, Or.inl rfl, a1, rfl, term_plain (k := 7) (by decide), conf_plain (k := 7) (u := bs []) (by decide) (by decide)⟩, ?_⟩
                · show (toksOf ([.word [99, 104, 97, 105, 110], .gap [32]] ++ (namesP g.1 ++ [.sym 59]))).length + 3 * s.pos ≤ 3 * g.2.pos + 3
                  simp only [toksOf_append, toksOf_cons, toksOf_nil, Pc.toks, List.length_append, List.length_cons, List.length_nil]
                  omega
              · rename_i hw
                rw [if_neg hw] at h
                exact absurd h (fails_err 2 (by decide) _)
theorem decl_ok {L : Toks} (hL : LexOk L) (x : Int) {s : St} (h : (pDecl L x s).2.err = 0) :
    okDc (pDecl L x s).1 = true ∧ (toksOf (dcP (pDecl L x s).1)).length + 3 * s.pos ≤ 3 * (pDecl L x s).2.pos := by
  unfold pDecl at h ⊢
  simp only at h ⊢
  obtain ⟨a1, a2⟩ := need_ok h
  obtain ⟨b1, b2⟩ := body_ok hL x (lineOf L s.pos) a2
  exact ⟨b1, by omega⟩
def sumD (l : List Dc) : Nat := ((l.map fun d => toksOf (dcP d)).flatten).length
theorem declsGo_ok {L : Toks} (hL : LexOk L) (x : Int) (f : Nat) : ∀ (acc : List Dc) (s : St), s.pos ≤ L.length → acc.all okDc = true → (declsGo L x f acc s).2.err = 0 →
    (declsGo L x f acc s).1.all okDc = true ∧ sumD (declsGo L x f acc s).1 + 3 * s.pos ≤ sumD acc + 3 * (declsGo L x f acc s).2.pos ∧ (declsGo L x f acc s).2.pos ≤ L.length := by
  induction f with
  | zero => intro acc s hs ha h; exact ⟨ha, by simp [declsGo], hs⟩
  | succ f ih =>
    intro acc s hs ha h
    rw [declsGo] at h ⊢
    split
    · rename_i hw
      rw [if_pos hw] at h
      have hg := ahead_decl (L := L) x hs
      have hk := decl_ok hL x (s := s)
      generalize pDecl L x s = q at h hk hg ⊢
      by_cases he : q.2.err = 0
      · obtain ⟨k1, k2⟩ := hk he
        obtain ⟨a1, a2, a3⟩ := ih (acc ++ [q.1]) q.2 hg.fit (by rw [List.all_append, ha]; simp [k1]) h
        have e : sumD (acc ++ [q.1]) = sumD acc + (toksOf (dcP q.1)).length := by simp [sumD]
        rw [e] at a2
        exact ⟨a1, by omega, a3⟩
      · have e : declsGo L x f (acc ++ [q.1]) q.2 = (acc ++ [q.1], q.2) := by
          cases f with
          | zero => rfl
          | succ f => rw [declsGo, if_neg (by rintro ⟨a, -⟩; exact he a)]
        rw [e] at h
        exact absurd h he
    · rename_i hw
      rw [if_neg hw] at h
      exact ⟨ha, by simp, hs⟩

/-- The bytes are at most 25 for each token. -/
def Bd (ps : List Pc) : Prop := (bytesOf ps).length ≤ 25 * (toksOf ps).length
instance (ps : List Pc) : Decidable (Bd ps) := by unfold Bd; infer_instance
theorem Bd.app {a b : List Pc} (ha : Bd a) (hb : Bd b) : Bd (a ++ b) := by
  unfold Bd at *
  rw [bytesOf_append, toksOf_append, List.length_append, List.length_append]; omega
theorem bd_join {sep : List Pc} (hs : Bd sep) (l : List (List Pc)) (h : ∀ x ∈ l, Bd x) : Bd (joinP l sep) := by
  cases l with
  | nil => exact Nat.le_refl _
  | cons x r =>
    refine (h x (by simp)).app ?_
    have : ∀ (q : List (List Pc)), (∀ y ∈ q, Bd y) → Bd (q.flatMap (sep ++ ·)) := by
      intro q
      induction q with
      | nil => intro _; exact Nat.le_refl _
      | cons y q ih =>
        intro hq
        rw [List.flatMap_cons]
        exact (hs.app (hq y (by simp))).app (ih fun z hz => hq z (by simp [hz]))
    exact this r fun y hy => h y (by simp [hy])
theorem bd_word {b : List UInt8} (h : lexName b = true) : b.length ≤ 24 := by
  obtain ⟨c, r, rfl, -, hl, -⟩ := lexName_parts h
  exact hl
theorem bd_names {l : List ByteArray} (h : okNames l = true) : Bd (namesP l) := by
  refine bd_join (by decide) _ fun x hx => ?_
  obtain ⟨y, hy, rfl⟩ := List.mem_map.1 hx
  have := bd_word (okName_lex (okNames_mem h y hy))
  unfold Bd nameP
  simp only [bytesOf_cons, bytesOf_nil, toksOf_cons, toksOf_nil, Pc.bytes, Pc.toks, List.length_append, List.length_cons, List.length_nil]
  omega
theorem bd_par {ops : List Int} {t : Tm} {x : List Pc} (h : Bd x) : Bd (parP ops t x) := by
  unfold parP
  split
  · exact (Bd.app (by decide) h).app (by decide)
  · exact h
theorem tm_bd : ∀ (n : Nat) (t : Tm), tmSize t ≤ n → okTm t = true → Bd (tmPcs t) := by
  intro n
  induction n with
  | zero => intro t ht; have : 0 < tmSize t := by (cases t; rw [tmSize]; omega)
            omega
  | succ n ih =>
    intro t ht hok
    obtain ⟨h1, h2, h3⟩ := okTm_parts hok
    have hs := tmsSize_kids t
    obtain ⟨op, nm, nd, ws, ks⟩ := t
    have hs : tmSize (.mk op nm nd ws ks) = 1 + nm.size + ws.length + tmsSize ks := hs
    have hk : ∀ k ∈ ks, Bd (tmPcs k) := fun k hk => ih k (by have := tm_size_mem hk; omega) (h3 k hk)
    have h2 : ∀ w ∈ ws, small w = true := h2
    rcases head_op h1 with rfl | rfl | rfl | rfl | rfl | rfl | rfl | rfl
    · rw [head_ok1, Bool.and_eq_true] at h1
      have := bd_word (okName_lex h1.1)
      rw [pcs1]
      unfold Bd
      simp only [bytesOf_cons, bytesOf_nil, toksOf_cons, toksOf_nil, Pc.bytes, Pc.toks, List.length_append, List.length_cons, List.length_nil]; omega
    · rw [head_ok2] at h1
      simp only [Bool.and_eq_true] at h1
      have hi := itoa_small h1.1.1.2
      rw [pcs2]
      refine Bd.app (Bd.app ?_ (bd_join (by decide) _ fun x hx => ?_)) (by decide)
      · unfold Bd
        simp only [bytesOf_cons, bytesOf_nil, toksOf_cons, toksOf_nil, Pc.bytes, Pc.toks, List.length_append, List.length_cons, List.length_nil]; omega
      · obtain ⟨y, hy, hxy⟩ := weighedP_mem hx
        obtain ⟨k, hkk, rfl⟩ := List.mem_map.1 hy
        rcases hxy with rfl | ⟨w, hw, rfl⟩
        · exact hk k hkk
        · refine (hk k hkk).app ?_
          have := itoa_small (h2 w hw)
          unfold Bd
          simp only [bytesOf_cons, bytesOf_nil, toksOf_cons, toksOf_nil, Pc.bytes, Pc.toks, List.length_append, List.length_cons, List.length_nil]; omega
    · rw [pcs3]
      refine bd_join (by decide) _ fun x hx => ?_
      obtain ⟨k, hkk, rfl⟩ := List.mem_map.1 hx
      exact bd_par (hk k hkk)
    · rw [pcs4]
      refine bd_join (by decide) _ fun x hx => ?_
      obtain ⟨k, hkk, rfl⟩ := List.mem_map.1 hx
      exact bd_par (hk k hkk)
    · rw [head_ok5] at h1
      simp only [Bool.and_eq_true, decide_eq_true_eq] at h1
      obtain ⟨k, rfl⟩ := List.length_eq_one_iff.1 h1.2
      rw [pcs5]
      exact (Bd.app (by decide) (hk k (by simp))).app (by decide)
    · rw [head_ok6, Bool.and_eq_true] at h1
      have := bd_word (group_lex h1.1)
      rw [pcs6]
      unfold Bd
      simp only [bytesOf_cons, bytesOf_nil, toksOf_cons, toksOf_nil, Pc.bytes, Pc.toks, List.length_append, List.length_cons, List.length_nil]; omega
    · rw [head_ok7, Bool.and_eq_true] at h1
      have := bd_word (group_lex h1.1)
      rw [pcs7]
      unfold Bd
      simp only [bytesOf_cons, bytesOf_nil, toksOf_cons, toksOf_nil, Pc.bytes, Pc.toks, List.length_append, List.length_cons, List.length_nil]; omega
    · rw [head_ok8, Bool.and_eq_true] at h1
      have := bd_word (group_lex h1.1)
      rw [pcs8]
      unfold Bd
      simp only [bytesOf_cons, bytesOf_nil, toksOf_cons, toksOf_nil, Pc.bytes, Pc.toks, List.length_append, List.length_cons, List.length_nil]; omega
theorem bd_tm {t : Tm} (h : okTm t = true) : Bd (tmPcs t) := tm_bd _ t (Nat.le_refl _) h
theorem bd_braced {w : List UInt8} {l : List ByteArray} (hw : w.length ≤ 5) (h : okNames l = true) : (bytesOf (bracedP w l)).length + 1 ≤ 25 * (toksOf (bracedP w l)).length := by
  have := bd_names h
  unfold Bd at this
  unfold bracedP
  simp only [bytesOf_append, toksOf_append, bytesOf_cons, bytesOf_nil, toksOf_cons, toksOf_nil, Pc.bytes, Pc.toks, List.length_append, List.length_cons, List.length_nil]
  omega
theorem bd_ft {f : Ft} (h : okFt f = true) : Bd (ftP f) := by
  unfold ftP
  rcases ft_ok h with ⟨h1, -⟩ | ⟨h1, h2, h3, -⟩ | ⟨h1, h2, h3, h4, -⟩ | ⟨h1, h2, -⟩
  · rw [if_pos h1]; decide
  · rw [if_neg (by omega), if_pos h1]
    have := itoa_small h2
    have := itoa_small h3
    unfold Bd
    simp only [bytesOf_cons, bytesOf_nil, toksOf_cons, toksOf_nil, Pc.bytes, Pc.toks, List.length_append, List.length_cons, List.length_nil]; omega
  · rw [if_neg (by omega), if_neg (by omega), if_neg (by omega), if_neg (by omega), if_pos h1]
    unfold setsP
    have a := bd_braced (w := [98, 121, 122]) (by decide) h3
    have b := bd_braced (w := [99, 114, 97, 115, 104]) (by decide) h4
    split
    · unfold Bd; omega
    split
    · unfold Bd; omega
    · unfold Bd
      rw [bytesOf_append, bytesOf_cons, toksOf_append, toksOf_cons]
      simp only [Pc.bytes, Pc.toks, List.length_append, List.length_cons, List.length_nil]
      omega
  · have := bd_word (okName_lex h2)
    rcases h1 with h1 | h1 | h1
    · rw [if_neg (by omega), if_neg (by omega), if_pos h1]
      unfold Bd
      simp only [bytesOf_cons, bytesOf_nil, toksOf_cons, toksOf_nil, Pc.bytes, Pc.toks, List.length_append, List.length_cons, List.length_nil]; omega
    · rw [if_neg (by omega), if_neg (by omega), if_neg (by omega), if_pos h1]
      unfold Bd
      simp only [bytesOf_cons, bytesOf_nil, toksOf_cons, toksOf_nil, Pc.bytes, Pc.toks, List.length_append, List.length_cons, List.length_nil]; omega
    · rw [if_neg (by omega), if_neg (by omega), if_neg (by omega), if_neg (by omega), if_neg (by omega)]
      unfold Bd
      simp only [bytesOf_cons, bytesOf_nil, toksOf_cons, toksOf_nil, Pc.bytes, Pc.toks, List.length_append, List.length_cons, List.length_nil]; omega
theorem bd_dc {d : Dc} (h0 : okDc d = true) : Bd (dcP d ++ [.gap [10]]) := by
  have h := dc_ok h0
  unfold dcP Bd
  rcases dc_kind h with hk | hk | hk | hk | hk | hk | hk
  · rw [if_pos hk]
    have a := bd_word (okName_lex (dc_named h (by rw [hk]; rfl)))
    have b := bd_names h.names
    unfold Bd at b
    simp only [bytesOf_append, toksOf_append, bytesOf_cons, bytesOf_nil, toksOf_cons, toksOf_nil, Pc.bytes, Pc.toks, List.length_append, List.length_cons, List.length_nil]; omega
  · rw [if_neg (by omega), if_pos hk]
    have a := bd_word (okName_lex (dc_named h (by rw [hk]; rfl)))
    have b : Bd (joinP (d.faults.map ftP) orSep) := bd_join (by decide) _ fun x hx => by
      obtain ⟨f, hf, rfl⟩ := List.mem_map.1 hx
      exact bd_ft (List.all_eq_true.1 h.faults f hf)
    unfold Bd at b
    simp only [bytesOf_append, toksOf_append, bytesOf_cons, bytesOf_nil, toksOf_cons, toksOf_nil, Pc.bytes, Pc.toks, List.length_append, List.length_cons, List.length_nil]; omega
  · rw [if_neg (by omega), if_neg (by omega), if_pos hk]
    have a := bd_word (okName_lex (dc_named h (by rw [hk]; rfl)))
    have b : Bd (tmPcs d.term) := bd_tm (by have := h.term; rw [hk] at this; exact this)
    unfold Bd at b
    simp only [bytesOf_append, toksOf_append, bytesOf_cons, bytesOf_nil, toksOf_cons, toksOf_nil, Pc.bytes, Pc.toks, List.length_append, List.length_cons, List.length_nil]; omega
  · rw [if_neg (by omega), if_neg (by omega), if_neg (by omega), if_pos hk]
    have a := bd_word (okName_lex (dc_named h (by rw [hk]; rfl)))
    obtain ⟨hp, hr, hw, hu⟩ := dc_conf h (by rw [hk]; rfl)
    have p := bd_word (proto_lex hp)
    have u := bd_word (okName_lex hu)
    have b := bd_tm hr
    have c := bd_tm hw
    unfold Bd at b c
    simp only [bytesOf_append, toksOf_append, bytesOf_cons, bytesOf_nil, toksOf_cons, toksOf_nil, Pc.bytes, Pc.toks, List.length_append, List.length_cons, List.length_nil]; omega
  · rw [if_neg (by omega), if_neg (by omega), if_neg (by omega), if_neg (by omega), if_pos hk]
    have b := bd_names h.names
    unfold Bd at b
    simp only [bytesOf_append, toksOf_append, bytesOf_cons, bytesOf_nil, toksOf_cons, toksOf_nil, Pc.bytes, Pc.toks, List.length_append, List.length_cons, List.length_nil]; omega
  · rw [if_neg (by omega), if_neg (by omega), if_neg (by omega), if_neg (by omega), if_neg (by omega), if_neg (by omega)]
    have a := bd_word (okName_lex (dc_named h (by rw [hk]; rfl)))
    split
    · simp only [bytesOf_append, toksOf_append, bytesOf_cons, bytesOf_nil, toksOf_cons, toksOf_nil, Pc.bytes, Pc.toks, List.length_append, List.length_cons, List.length_nil]; omega
    · rename_i hu
      have hu2 : okName d.use = true := by rcases h.use with h | h
                                           · exact absurd h hu
                                           · exact h
      have u := bd_word (okName_lex hu2)
      simp only [bytesOf_append, toksOf_append, bytesOf_cons, bytesOf_nil, toksOf_cons, toksOf_nil, Pc.bytes, Pc.toks, List.length_append, List.length_cons, List.length_nil]; omega
  · rw [if_neg (by omega), if_neg (by omega), if_neg (by omega), if_neg (by omega), if_neg (by omega), if_pos hk]
    have b := bd_names h.names
    unfold Bd at b
    simp only [bytesOf_append, toksOf_append, bytesOf_cons, bytesOf_nil, toksOf_cons, toksOf_nil, Pc.bytes, Pc.toks, List.length_append, List.length_cons, List.length_nil]; omega
theorem bd_dcs {l : List Dc} (h : l.all okDc = true) : Bd (dcsP l) := by
  unfold dcsP
  induction l with
  | nil => exact Nat.le_refl _
  | cons d r ih =>
    rw [List.all_cons, Bool.and_eq_true] at h
    rw [List.flatMap_cons]
    exact (bd_dc h.1).app (ih h.2)
/-- The declarations of a short text are valid, and their text is not too long. -/
theorem again_plain (x : Int) {text : List UInt8} (ht : text.length ≤ 700) {l : List Dc} {n : Nat} (h : parseOf x text = (l, n, 0)) : l.all okDc = true ∧ sizedOk (dcsText l) = true := by
  obtain ⟨hL, hlen⟩ := lex_ok text
  unfold parseOf at h
  generalize hr : lex text 1 [] = r at h hL hlen
  simp only at h
  rw [if_neg (by omega)] at h
  split at h
  · rename_i he
    simp only [Prod.mk.injEq] at h
    exact absurd h.2.2 he
  · rw [if_neg (by omega)] at h
    split at h
    · rename_i he
      simp only [Prod.mk.injEq] at h
      exact absurd h.2.2 he
    · rename_i he
      have he : (declsGo r.1 x r.1.length [] ⟨0, 0⟩).2.err = 0 := by simpa using he
      obtain ⟨a1, a2, a3⟩ := declsGo_ok hL x r.1.length [] ⟨0, 0⟩ (Nat.zero_le _) rfl he
      simp only [Prod.mk.injEq] at h
      rw [h.1] at a1 a2
      have e0 : sumD [] = 0 := rfl
      rw [e0] at a2
      simp only at a2
      refine ⟨a1, ?_⟩
      have hn := dcs_neat a1
      obtain ⟨L, h1, h2⟩ := lex_pcs (dcsP l) false hn.1 hn.2 1 []
      have hll : L.length = (toksOf (dcsP l)).length := by rw [← List.length_map (f := (·.1)), h2]
      have hb := dcs_bytes a1
      have hbd := bd_dcs a1
      unfold Bd at hbd
      rw [hb] at h1 hbd
      rw [List.nil_append] at h1
      have hs : (toksOf (dcsP l)).length = sumD l := by rw [dcs_toks]; rfl
      unfold sizedOk
      rw [h1]
      simp only [decide_true, Bool.and_true, Bool.and_eq_true, decide_eq_true_eq]
      exact ⟨by omega, by omega⟩
end Go.Proofs.YtipicaoinnblpaaGreatDoor
namespace Go.Proofs.YtipicaoinnblpaaGreatDoor

theorem tt2_low (nd : Int) (ws : List Int) (ks : List Tm) (h : ws.length = 0 ∨ ws.length = ks.length) : sumT ks + 3 + (ks.length - 1) ≤ (tt (.mk 2 (bs []) nd ws ks)).length := by
  unfold tt
  rw [pcs2, toksOf_append, toksOf_append, toks_join _ comSep comma rfl]
  simp only [List.length_append, joinT_length, List.length_map]
  have e1 : (toksOf [Pc.int nd, Pc.sym 40]).length = 2 := rfl
  have e2 : (toksOf [Pc.sym 41]).length = 1 := rfl
  rw [e1, e2]
  have e3 : (weighedP ws (ks.map tmPcs)).length = ks.length := by
    unfold weighedP
    split
    · simp
    · rw [List.length_zipWith, List.length_map]; omega
  rw [e3]
  have e4 : sumT ks ≤ (((weighedP ws (ks.map tmPcs)).map toksOf).map List.length).sum := by
    have plain : ∀ (l : List Tm), (((l.map tmPcs).map toksOf).map List.length).sum = sumT l := by
      intro l
      unfold sumT
      rw [List.map_map, List.map_map]; rfl
    have wgt : ∀ (l : List Tm) (u : List Int), u.length = l.length → sumT l ≤ ((((List.zipWith (fun x w => x ++ [Pc.sym 42, Pc.int w]) (l.map tmPcs) u)).map toksOf).map List.length).sum := by
      intro l
      induction l with
      | nil => intro u _; simp [sumT]
      | cons k r ih =>
        intro u hu
        cases u with
        | nil => simp at hu
        | cons w u =>
          have := ih u (by simpa using hu)
          simp only [List.map_cons, List.zipWith_cons_cons, List.sum_cons, toksOf_append, List.length_append]
          have e' : sumT (k :: r) = (toksOf (tmPcs k)).length + sumT r := by simp [sumT, tt]
          rw [e']; omega
    unfold weighedP
    split
    · rw [plain]; omega
    · rename_i h0
      exact wgt ks ws (by omega)
  omega
theorem sumT_P (ops : List Int) (l : List Tm) : sumT l ≤ sumP ops l := by
  unfold sumT sumP
  induction l with
  | nil => simp
  | cons k r ih => simp only [List.map_cons, List.sum_cons]; have := plen_le ops k; omega
theorem sizes_le {l : List Tm} (h : ∀ k ∈ l, tmSize k ≤ 26 * (tt k).length) : tmsSize l ≤ 26 * sumT l := by
  induction l with
  | nil => simp [tmsSize]
  | cons k r ih =>
    have a := h k (by simp)
    have b := ih (fun q hq => h q (by simp [hq]))
    have e : sumT (k :: r) = (tt k).length + sumT r := by simp [sumT]
    rw [tmsSize, e]; omega
theorem tm_size_toks : ∀ (n : Nat) (t : Tm), tmSize t ≤ n → okTm t = true → tmSize t ≤ 26 * (tt t).length := by
  intro n
  induction n with
  | zero => intro t ht; have : 0 < tmSize t := by (cases t; rw [tmSize]; omega)
            omega
  | succ n ih =>
    intro t ht hok
    obtain ⟨h1, h2, h3⟩ := okTm_parts hok
    have hs := tmsSize_kids t
    obtain ⟨op, nm, nd, ws, ks⟩ := t
    have hs : tmSize (.mk op nm nd ws ks) = 1 + nm.size + ws.length + tmsSize ks := hs
    have hk : ∀ k ∈ ks, tmSize k ≤ 26 * (tt k).length := fun k hk => ih k (by have := tm_size_mem hk; omega) (h3 k hk)
    have hkk := sizes_le hk
    have hnm : nm.data.toList.length = nm.size := by simp
    rcases head_op h1 with rfl | rfl | rfl | rfl | rfl | rfl | rfl | rfl
    · rw [head_ok1, Bool.and_eq_true] at h1
      obtain ⟨rfl, rfl, rfl⟩ := bare_parts h1.2
      have a := bd_word (okName_lex h1.1)
      have e : (tt (.mk 1 nm 0 [] [])).length = 1 := by unfold tt; rw [pcs1]; rfl
      have e2 : tmsSize [] = 0 := rfl
      rw [hs, e, e2]; simp only [List.length_nil]; omega
    · rw [head_ok2] at h1
      simp only [Bool.and_eq_true, Bool.or_eq_true, decide_eq_true_eq] at h1
      obtain ⟨⟨⟨hnm0, hnd⟩, hk0⟩, hww⟩ := h1
      obtain rfl := size_nil hnm0
      have a := tt2_low nd ws ks hww
      rw [hs, hnm0]; omega
    · rw [head_ok3] at h1
      simp only [Bool.and_eq_true, decide_eq_true_eq] at h1
      obtain ⟨⟨⟨hnm0, hnd⟩, hw⟩, hkl⟩ := h1
      obtain rfl := size_nil hnm0
      subst hnd
      obtain rfl : ws = [] := List.length_eq_zero_iff.1 hw
      have a := tt3_length ks
      have b := sumT_P [3, 4] ks
      rw [hs, a, hnm0]; simp only [List.length_nil]; omega
    · rw [head_ok4] at h1
      simp only [Bool.and_eq_true, decide_eq_true_eq] at h1
      obtain ⟨⟨⟨hnm0, hnd⟩, hw⟩, hkl⟩ := h1
      obtain rfl := size_nil hnm0
      subst hnd
      obtain rfl : ws = [] := List.length_eq_zero_iff.1 hw
      have a := tt4_length ks
      have b := sumT_P [4] ks
      rw [hs, a, hnm0]; simp only [List.length_nil]; omega
    · rw [head_ok5] at h1
      simp only [Bool.and_eq_true, decide_eq_true_eq] at h1
      obtain ⟨⟨⟨hnm0, hnd⟩, hw⟩, hkl⟩ := h1
      obtain ⟨k, rfl⟩ := List.length_eq_one_iff.1 hkl
      have a := hk k (by simp)
      have e : (tt (.mk 5 nm nd ws [k])).length = (tt k).length + 3 := by
        unfold tt
        rw [pcs5, toksOf_append, toksOf_append]
        simp only [List.length_append, toksOf_cons, toksOf_nil, Pc.toks, List.length_cons, List.length_nil]; omega
      have e2 : tmsSize [k] = tmSize k + 0 := rfl
      rw [hs, e, e2, hnm0, hw]; omega
    · rw [head_ok6, Bool.and_eq_true] at h1
      obtain ⟨rfl, rfl, rfl⟩ := bare_parts h1.2
      have a := bd_word (group_lex h1.1)
      have e : (tt (.mk 6 nm 0 [] [])).length = 4 := by unfold tt; rw [pcs6]; rfl
      have e2 : tmsSize [] = 0 := rfl
      rw [hs, e, e2]; simp only [List.length_nil]; omega
    · rw [head_ok7, Bool.and_eq_true] at h1
      obtain ⟨rfl, rfl, rfl⟩ := bare_parts h1.2
      have a := bd_word (group_lex h1.1)
      have e : (tt (.mk 7 nm 0 [] [])).length = 4 := by unfold tt; rw [pcs7]; rfl
      have e2 : tmsSize [] = 0 := rfl
      rw [hs, e, e2]; simp only [List.length_nil]; omega
    · rw [head_ok8, Bool.and_eq_true] at h1
      obtain ⟨rfl, rfl, rfl⟩ := bare_parts h1.2
      have a := bd_word (group_lex h1.1)
      have e : (tt (.mk 8 nm 0 [] [])).length = 4 := by unfold tt; rw [pcs8]; rfl
      have e2 : tmsSize [] = 0 := rfl
      rw [hs, e, e2]; simp only [List.length_nil]; omega
theorem tm_few {t : Tm} {N : Nat} (h : okTm t = true) (hN : (toksOf (tmPcs t)).length ≤ N) : tmSize t ≤ 26 * N := by
  have := tm_size_toks _ t (Nat.le_refl _) h
  have e : (tt t).length = (toksOf (tmPcs t)).length := rfl
  omega
theorem ft_few {f : Ft} (h : okFt f = true) : 1 ≤ (toksOf (ftP f)).length ∧ f.byzNames.length + f.crashNames.length ≤ (toksOf (ftP f)).length := by
  rcases ft_ok h with ⟨h1, h2⟩ | ⟨h1, -, -, h2⟩ | ⟨h1, h2, h3, h4, -⟩ | ⟨h1, -, h2⟩
  · unfold ftP
    rw [if_pos h1, h2]; simp [toksOf, Pc.toks]
  · unfold ftP
    rw [if_neg (by omega), if_pos h1]
    rw [h2]; simp [toksOf, Pc.toks]
  · unfold ftP
    rw [if_neg (by omega), if_neg (by omega), if_neg (by omega), if_neg (by omega), if_pos h1]
    unfold setsP
    have a := names_len f.byzNames
    have b := names_len f.crashNames
    split
    · rw [braced_toks]; simp only [List.length_cons, List.length_append, List.length_nil]; omega
    split
    · rw [braced_toks]; simp only [List.length_cons, List.length_append, List.length_nil]; omega
    · rw [toksOf_append, toksOf_cons, braced_toks, braced_toks]; simp only [List.length_cons, List.length_append, List.length_nil]; omega
  · have e1 : f.byzNames = [] := by rw [h2]
    have e2 : f.crashNames = [] := by rw [h2]
    rw [e1, e2]
    unfold ftP
    rcases h1 with h1 | h1 | h1
    · rw [if_neg (by omega), if_neg (by omega), if_pos h1]; simp [toksOf, Pc.toks]
    · rw [if_neg (by omega), if_neg (by omega), if_neg (by omega), if_pos h1]; simp [toksOf, Pc.toks]
    · rw [if_neg (by omega), if_neg (by omega), if_neg (by omega), if_neg (by omega), if_neg (by omega)]; simp [toksOf, Pc.toks]
theorem sumF_few {l : List Ft} (h : l.all okFt = true) : l.length ≤ sumF l ∧ ∀ f ∈ l, f.byzNames.length + f.crashNames.length ≤ sumF l := by
  induction l with
  | nil => exact ⟨by simp, fun f hf => by simp at hf⟩
  | cons g r ih =>
    rw [List.all_cons, Bool.and_eq_true] at h
    obtain ⟨a, b⟩ := ih h.2
    obtain ⟨c, d⟩ := ft_few h.1
    have e : sumF (g :: r) = (toksOf (ftP g)).length + sumF r := by simp [sumF]
    rw [e]
    refine ⟨by simp only [List.length_cons]; omega, fun f hf => ?_⟩
    rcases List.mem_cons.1 hf with rfl | hf
    · omega
    · have := b f hf; omega
/-- What a declaration with few tokens is. -/
theorem dc_few {d : Dc} (h0 : okDc d = true) {N : Nat} (hN : (toksOf (dcP d)).length ≤ N) : d.names.length ≤ N ∧ d.faults.length ≤ N ∧ (∀ f ∈ d.faults, f.byzNames.length + f.crashNames.length ≤ N) ∧ tmSize d.term ≤ 26 * N + 1 ∧ tmSize d.read ≤ 26 * N + 1 ∧ tmSize d.write ≤ 26 * N + 1 := by
  have h := dc_ok h0
  have z : tmSize .zero = 1 := rfl
  have a := names_len d.names
  have b := faults_len d.faults
  obtain ⟨c1, c2⟩ := sumF_few h.faults
  have nofaults : d.faults = [] → ∀ f ∈ d.faults, f.byzNames.length + f.crashNames.length ≤ N := fun e f hf => by rw [e] at hf; simp at hf
  unfold dcP at hN
  rcases dc_kind h with hk | hk | hk | hk | hk | hk | hk
  · rw [if_pos hk] at hN
    simp only [toksOf_append, toksOf_cons, toksOf_nil, Pc.toks, List.length_append, List.length_cons, List.length_nil] at hN
    obtain ⟨e1, e2, e3, -⟩ := dc_plain h (by rw [hk]; rfl)
    have e5 := dc_nofaults h (by rw [hk]; rfl)
    rw [e2, e3, dc_noterm h (by rw [hk]; rfl), z]
    exact ⟨by omega, by rw [e5]; simp, nofaults e5, by omega, by omega, by omega⟩
  · rw [if_neg (by omega), if_pos hk] at hN
    simp only [toksOf_append, toksOf_cons, toksOf_nil, Pc.toks, List.length_append, List.length_cons, List.length_nil] at hN
    obtain ⟨e1, e2, e3, -⟩ := dc_plain h (by rw [hk]; rfl)
    rw [e2, e3, dc_noterm h (by rw [hk]; rfl), z, dc_nonames h (by rw [hk]; rfl)]
    exact ⟨by simp, by omega, fun f hf => by have := c2 f hf; omega, by omega, by omega, by omega⟩
  · rw [if_neg (by omega), if_neg (by omega), if_pos hk] at hN
    simp only [toksOf_append, toksOf_cons, toksOf_nil, Pc.toks, List.length_append, List.length_cons, List.length_nil] at hN
    obtain ⟨e1, e2, e3, -⟩ := dc_plain h (by rw [hk]; rfl)
    have e5 := dc_nofaults h (by rw [hk]; rfl)
    have ht : okTm d.term = true := by have := h.term; rw [hk] at this; exact this
    have ht2 := tm_few ht (N := N) (by omega)
    rw [e2, e3, z, dc_nonames h (by rw [hk]; rfl)]
    exact ⟨by simp, by rw [e5]; simp, nofaults e5, by omega, by omega, by omega⟩
  · rw [if_neg (by omega), if_neg (by omega), if_neg (by omega), if_pos hk] at hN
    simp only [toksOf_append, toksOf_cons, toksOf_nil, Pc.toks, List.length_append, List.length_cons, List.length_nil] at hN
    obtain ⟨hp, hr, hw, hu⟩ := dc_conf h (by rw [hk]; rfl)
    have e5 := dc_nofaults h (by rw [hk]; rfl)
    have r2 := tm_few hr (N := N) (by omega)
    have w2 := tm_few hw (N := N) (by omega)
    rw [dc_noterm h (by rw [hk]; rfl), z, dc_nonames h (by rw [hk]; rfl)]
    exact ⟨by simp, by rw [e5]; simp, nofaults e5, by omega, by omega, by omega⟩
  · rw [if_neg (by omega), if_neg (by omega), if_neg (by omega), if_neg (by omega), if_pos hk] at hN
    simp only [toksOf_append, toksOf_cons, toksOf_nil, Pc.toks, List.length_append, List.length_cons, List.length_nil] at hN
    obtain ⟨e1, e2, e3, -⟩ := dc_plain h (by rw [hk]; rfl)
    have e5 := dc_nofaults h (by rw [hk]; rfl)
    rw [e2, e3, dc_noterm h (by rw [hk]; rfl), z]
    exact ⟨by omega, by rw [e5]; simp, nofaults e5, by omega, by omega, by omega⟩
  · obtain ⟨e1, e2, e3, -⟩ := dc_plain h (by rw [hk]; rfl)
    have e5 := dc_nofaults h (by rw [hk]; rfl)
    rw [e2, e3, dc_noterm h (by rw [hk]; rfl), z, dc_nonames h (by rw [hk]; rfl)]
    exact ⟨by simp, by rw [e5]; simp, nofaults e5, by omega, by omega, by omega⟩
  · rw [if_neg (by omega), if_neg (by omega), if_neg (by omega), if_neg (by omega), if_neg (by omega), if_pos hk] at hN
    simp only [toksOf_append, toksOf_cons, toksOf_nil, Pc.toks, List.length_append, List.length_cons, List.length_nil] at hN
    obtain ⟨e1, e2, e3, -⟩ := dc_plain h (by rw [hk]; rfl)
    have e5 := dc_nofaults h (by rw [hk]; rfl)
    rw [e2, e3, dc_noterm h (by rw [hk]; rfl), z]
    exact ⟨by omega, by rw [e5]; simp, nofaults e5, by omega, by omega, by omega⟩
theorem dc_lims {d : Dc} (h0 : okDc d = true) (hN : (toksOf (dcP d)).length ≤ 3000) : TLim d ∧ QLim d := by
  obtain ⟨a, b, c, e, f, g⟩ := dc_few h0 hN
  exact ⟨⟨by omega, by omega, fun q hq => by have := c q hq; omega, by omega, by omega, by omega⟩, ⟨by omega, by omega, fun q hq => by have := c q hq; omega, by omega, by omega, by omega⟩⟩
/-- Valid declarations whose text is not too long. -/
theorem dcs_lims {l : List Dc} (h : l.all okDc = true) (hs : sizedOk (dcsText l) = true) : (∀ d ∈ l, TLim d ∧ QLim d) ∧ (dcsText l).length ≤ 65536 ∧ l.length ≤ 65536 := by
  have hn := dcs_neat h
  obtain ⟨L, h1, h2⟩ := lex_pcs (dcsP l) false hn.1 hn.2 1 []
  have hll : L.length = (toksOf (dcsP l)).length := by rw [← List.length_map (f := (·.1)), h2]
  have hb := dcs_bytes h
  rw [hb, List.nil_append] at h1
  unfold sizedOk at hs
  rw [h1] at hs
  simp only [Bool.and_eq_true, decide_eq_true_eq] at hs
  refine ⟨fun d hd => dc_lims (List.all_eq_true.1 h d hd) ?_, hs.1.1, ?_⟩
  · have : ∀ (q : List Dc), d ∈ q → (toksOf (dcP d)).length ≤ (toksOf (dcsP q)).length := by
      intro q
      induction q with
      | nil => intro hq; simp at hq
      | cons x r ih =>
        intro hq
        have e : dcsP (x :: r) = (dcP x ++ [.gap [10]]) ++ dcsP r := rfl
        rw [e, toksOf_append, toksOf_append, List.length_append, List.length_append]
        rcases List.mem_cons.1 hq with rfl | hq
        · omega
        · have := ih hq; omega
    have := this l hd
    omega
  · have : ∀ (q : List Dc), q.length ≤ (dcsText q).length := by
      intro q
      induction q with
      | nil => simp
      | cons x r ih =>
        have e : dcsText (x :: r) = (dcText x ++ [10]) ++ dcsText r := rfl
        rw [e, List.length_append, List.length_append, List.length_cons]
        simp only [List.length_cons, List.length_nil]; omega
    have := this l
    omega
end Go.Proofs.YtipicaoinnblpaaGreatDoor
