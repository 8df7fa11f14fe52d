/- What is read from a text is small, with an error or without. No condition. The contracts of the statements SyntaxParse and SyntaxTerm: they return true. -/
import Derived.Test.YtipicaoinnblpaaGreatDoorPkPlain
import Derived.Test.YtipicaoinnblpaaGreatDoorPkRefd
import Derived.Test.YtipicaoinnblpaaGreatDoorPkEqb
import Derived.Test.YtipicaoinnblpaaGreatDoorPkAw
namespace Go.Proofs.YtipicaoinnblpaaGreatDoor

/-- The names of the tokens are short. -/
def Short (L : Toks) : Prop := ∀ p ∈ L, p.1.kind = 1 → p.1.text.size ≤ 24
theorem lexOne_short {l : List UInt8} {t : Tok} {n : Nat} (h : lexOne l = some (t, n)) : t.kind = 1 → t.text.size ≤ 24 := by
  match l with
  | [] => simp [lexOne] at h
  | c :: r =>
    rw [lexOne] at h
    split at h
    · split at h
      · simp at h
      · rename_i h24
        simp only [Option.some.injEq, Prod.mk.injEq] at h
        rw [← h.1]; intro _
        show (bs ((c :: r).take (pre isCont (c :: r)))).size ≤ 24
        rw [show ∀ x : List UInt8, (bs x).size = x.length from fun x => by show x.toArray.size = x.length; simp, List.length_take]; omega
    · split at h
      · split at h
        · simp at h
        · simp only [Option.some.injEq, Prod.mk.injEq] at h
          rw [← h.1]; intro k; simp at k
      · split at h
        · split at h
          · simp at h
          · simp only [Option.some.injEq, Prod.mk.injEq] at h
            rw [← h.1]; intro k; simp at k
        · split at h
          · simp only [Option.some.injEq, Prod.mk.injEq] at h
            rw [← h.1]; intro k; simp at k
          · simp at h
theorem lexF_short (f : Nat) : ∀ (l : List UInt8) (line : Nat) (acc : List (Tok × Nat)), Short acc → Short (lexF f l line acc).1 := by
  induction f with
  | zero => intro l line acc h; exact h
  | succ f ih =>
    intro l line acc h
    match l with
    | [] => exact h
    | c :: r =>
      rw [lexF]
      split
      · exact ih _ _ _ h
      · split
        · exact ih _ _ _ h
        · split
          · intro t ht; simp at ht
          · rename_i t n e
            refine ih _ _ _ ?_
            intro u hu
            rcases List.mem_append.1 hu with hu | hu
            · exact h u hu
            · rw [List.mem_singleton.1 hu]; exact lexOne_short e
theorem lex_short (l : List UInt8) (line : Nat) : Short (lex l line []).1 := lexF_short _ _ _ _ (fun t ht => by simp at ht)

theorem bs_nil_size : (bs []).size = 0 := rfl
theorem name_short {L : Toks} (hL : Short L) (s : St) : (pName L s).1.size + 30 * s.pos ≤ 30 * (pName L s).2.pos := by
  unfold pName
  split
  · rename_i h
    show (txt L s).size + 30 * s.pos ≤ 30 * (s.pos + 1)
    unfold isName at h
    unfold txt
    cases e : tk L s with
    | none => rw [e] at h; simp at h
    | some t =>
      rw [e] at h
      obtain ⟨-, -, n, hn⟩ := tk_some e
      have hk : t.kind = 1 := by
        have := (Bool.and_eq_true_iff.1 h).1
        simpa using this
      have := hL _ (List.mem_of_getElem? hn) hk
      show t.text.size + 30 * s.pos ≤ _
      simp only at this
      omega
  · unfold fails
    split
    · show (bs []).size + 30 * s.pos ≤ 30 * s.pos; rw [bs_nil_size]; omega
    · show (bs []).size + 30 * s.pos ≤ 30 * s.pos; rw [bs_nil_size]; omega
/-- A part that reads makes little from what it reads. -/
def Small (L : Toks) (part : St → Tm × St) : Prop := ∀ s, s.pos ≤ L.length → tmSize (part s).1 + 30 * s.pos ≤ 30 * (part s).2.pos + 1
theorem tms_app (l : List Tm) (t : Tm) : tmsSize (l ++ [t]) = tmsSize l + tmSize t := by
  induction l with
  | nil => simp [tmsSize]
  | cons k r ih => rw [List.cons_append, tmsSize, ih, tmsSize]; omega
theorem size_mk (op : Int) (nm : ByteArray) (nd : Int) (ws : List Int) (ks : List Tm) : tmSize (.mk op nm nd ws ks) = 1 + nm.size + ws.length + tmsSize ks := rfl
theorem named_size (n : ByteArray) : tmSize (.named n) = 1 + n.size := by show 1 + n.size + 0 + 0 = _; omega
theorem joinGo_small {L : Toks} {part : St → Tm × St} (hg : Good L part) (hp : Small L part) (x : ByteArray) (f : Nat) : ∀ (acc : List Tm) (s : St), s.pos ≤ L.length → 0 < acc.length →
    (joinGo L x part f acc s).1.length ≥ acc.length ∧ tmsSize (joinGo L x part f acc s).1 + 30 * s.pos + 29 * ((joinGo L x part f acc s).1.length - acc.length) ≤ tmsSize acc + 30 * (joinGo L x part f acc s).2.pos := by
  induction f with
  | zero => intro acc s h _; exact ⟨Nat.le_refl _, by simp [joinGo]⟩
  | succ f ih =>
    intro acc s h ha
    rw [joinGo]
    split
    · rename_i hw
      have h1 := ahead_adv (isW_ok hw)
      have h2 := hg _ h1.fit
      have h3 := hp _ h1.fit
      obtain ⟨a, b⟩ := ih (acc ++ [(part (adv s)).1]) (part (adv s)).2 h2.fit (by simp)
      rw [tms_app] at b
      rw [List.length_append] at a b
      simp only [List.length_cons, List.length_nil] at a b
      have e : (adv s).pos = s.pos + 1 := rfl
      rw [e] at h3
      exact ⟨by omega, by omega⟩
    · exact ⟨Nat.le_refl _, by simp⟩
theorem join_small {L : Toks} {part : St → Tm × St} (hg : Good L part) (hp : Small L part) (op : Int) (x : ByteArray) : Small L (pJoin L op x part) := by
  intro s h
  have h1 := hg s h
  have h2 := hp s h
  obtain ⟨a, b⟩ := joinGo_small hg hp x L.length [(part s).1] (part s).2 h1.fit (by simp)
  unfold pJoin
  generalize joinGo L x part L.length [(part s).1] (part s).2 = r at a b ⊢
  obtain ⟨l, s'⟩ := r
  simp only [List.length_cons, List.length_nil] at a b ⊢
  have e0 : tmsSize [(part s).1] = tmSize (part s).1 + 0 := rfl
  rw [e0] at b
  match l, a, b with
  | [t], a, b =>
    show tmSize t + _ ≤ _
    have e : tmsSize [t] = tmSize t + 0 := rfl
    rw [e] at b
    simp only [List.length_cons, List.length_nil] at b
    omega
  | t :: u :: r, a, b =>
    show tmSize (.mk op (bs []) 0 [] (t :: u :: r)) + _ ≤ _
    rw [size_mk, bs_nil_size]
    simp only [List.length_cons, List.length_nil] at b ⊢
    omega
theorem num_pos {L : Toks} (s : St) : s.pos ≤ (pNum L s).2.pos ∧ (isInt L s = true → (pNum L s).2.err = 0 → (pNum L s).2.pos = s.pos + 1) := by
  unfold pNum
  split
  · split
    · unfold fails
      split
      · exact ⟨Nat.le_refl _, fun _ h => by simp at h⟩
      · rename_i h0; exact ⟨Nat.le_refl _, fun _ h => absurd h h0⟩
    · exact ⟨Nat.le_succ _, fun _ _ => rfl⟩
  · unfold fails
    rename_i hi
    split
    · exact ⟨Nat.le_refl _, fun h => absurd h hi⟩
    · exact ⟨Nat.le_refl _, fun h => absurd h hi⟩
theorem thrGo_small {L : Toks} {pt : St → Tm × St} (hg : Good L pt) (hp : Small L pt) (f : Nat) : ∀ (r : Thr) (s : St), s.pos ≤ L.length →
    tmsSize (thrGo L pt f r s).1.kids + (thrGo L pt f r s).1.ws.length + 30 * s.pos ≤ tmsSize r.kids + r.ws.length + 30 * (thrGo L pt f r s).2.pos + 2 ∧
    (s.err ≠ 0 → thrGo L pt f r s = (r, s)) := by
  induction f with
  | zero => intro r s h; exact ⟨by simp only [thrGo]; omega, fun _ => rfl⟩
  | succ f ih =>
    intro r s h
    rw [thrGo]
    split
    · rename_i h0
      refine ⟨?_, fun he => absurd h0 he⟩
      have hb := ahead_thrBody hg r h
      have hs : tmsSize (thrBody L pt r s).1.kids + (thrBody L pt r s).1.ws.length + 30 * s.pos ≤ tmsSize r.kids + r.ws.length + 30 * (thrBody L pt r s).2.pos + 2 := by
        have h2 := hp s h
        unfold thrBody
        split
        · have h3 := (num_pos (L := L) (adv (pt s).2)).1
          have e : (adv (pt s).2).pos = (pt s).2.pos + 1 := rfl
          rw [e] at h3
          show tmsSize (r.kids ++ [(pt s).1]) + (r.ws ++ [_]).length + _ ≤ _ + 30 * (pNum L (adv (pt s).2)).2.pos + 2
          rw [tms_app, List.length_append]; simp only [List.length_cons, List.length_nil]; omega
        · show tmsSize (r.kids ++ [(pt s).1]) + (r.ws ++ [_]).length + _ ≤ _ + 30 * (pt s).2.pos + 2
          rw [tms_app, List.length_append]; simp only [List.length_cons, List.length_nil]; omega
      split
      · rename_i hw
        have h4 := ahead_adv (isW_ok hw)
        have k := (ih (thrBody L pt r s).1 (adv (thrBody L pt r s).2) h4.fit).1
        have e : (adv (thrBody L pt r s).2).pos = (thrBody L pt r s).2.pos + 1 := rfl
        rw [e] at k
        omega
      · exact hs
    · exact ⟨by simp only; omega, fun _ => rfl⟩
theorem thr_small {L : Toks} {pt : St → Tm × St} (hg : Good L pt) (hp : Small L pt) {s : St} (h : s.pos ≤ L.length) (hi : isInt L s = true) : tmSize (pThr L pt s).1 + 30 * s.pos ≤ 30 * (pThr L pt s).2.pos + 1 := by
  have a1 := ahead_num h
  have a2 := ahead_need (L := L) (⟨#[40]⟩ : ByteArray) a1.fit
  have a3 := ahead_thrGo hg (L.length + 1) ⟨[], [], false⟩ _ a2.fit
  have a4 := ahead_need (L := L) (⟨#[41]⟩ : ByteArray) a3.fit
  obtain ⟨k1, k2⟩ := thrGo_small hg hp (L.length + 1) ⟨[], [], false⟩ (need L (⟨#[40]⟩ : ByteArray) (pNum L s).2) a2.fit
  have n := num_pos (L := L) s
  unfold pThr
  simp only
  generalize hr : thrGo L pt (L.length + 1) ⟨[], [], false⟩ (need L (⟨#[40]⟩ : ByteArray) (pNum L s).2) = r at k1 k2 a3 a4 ⊢
  have e0 : tmsSize (⟨[], [], false⟩ : Thr).kids = 0 := rfl
  have e1 : (⟨[], [], false⟩ : Thr).ws.length = 0 := rfl
  rw [e0, e1] at k1
  have l1 := a1.le
  have l2 := a2.le
  have l4 := a4.le
  rw [size_mk, bs_nil_size]
  have hw : (if r.1.heavy = true then r.1.ws else []).length ≤ r.1.ws.length := by
    split
    · exact Nat.le_refl _
    · simp
  by_cases he : (need L (⟨#[40]⟩ : ByteArray) (pNum L s).2).err = 0
  · have := n.2 hi (a2.ok he)
    omega
  · have k3 := k2 he
    have l3 := a3.le
    rw [k3] at hw ⊢
    have e2 : tmsSize (⟨[], [], false⟩ : Thr).kids = 0 := rfl
    have e3 : (⟨[], [], false⟩ : Thr).ws.length = 0 := rfl
    rw [k3] at l3 l4
    simp only [e2, e3] at hw ⊢
    simp only at l3 l4
    omega
theorem factor_small {L : Toks} (hL : Short L) {pt : St → Tm × St} (hg : Good L pt) (hp : Small L pt) : Small L (pFactor L pt) := by
  intro s h
  unfold pFactor
  split
  · rename_i hi; exact thr_small hg hp h hi
  · split
    · rename_i hw
      have h1 := ahead_adv (isW_ok hw)
      have h2 := hp _ h1.fit
      have h3 := (ahead_need (L := L) (⟨#[41]⟩ : ByteArray) (hg _ h1.fit).fit).le
      have e : (adv s).pos = s.pos + 1 := rfl
      rw [e] at h2
      simp only
      omega
    · split
      · rename_i hw
        have h1 := ahead_adv (isFun_ok hw)
        have h2 := ahead_need (L := L) (⟨#[40]⟩ : ByteArray) h1.fit
        have l2 := h2.le
        have e : (adv s).pos = s.pos + 1 := rfl
        rw [e] at l2
        split
        · have h3 := hp _ h2.fit
          have h4 := (ahead_need (L := L) (⟨#[41]⟩ : ByteArray) (hg _ h2.fit).fit).le
          rw [size_mk, bs_nil_size]
          have e2 : ∀ t, tmsSize [t] = tmSize t + 0 := fun _ => rfl
          rw [e2]
          simp only [List.length_nil]
          omega
        · have h3 := ahead_group (L := L) h2.fit
          have h4 := (ahead_need (L := L) (⟨#[41]⟩ : ByteArray) h3.fit).le
          have l3 := h3.le
          rw [size_mk]
          have hq : (pGroup L (need L (⟨#[40]⟩ : ByteArray) (adv s))).1.size + 30 * (need L (⟨#[40]⟩ : ByteArray) (adv s)).pos ≤ 30 * (pGroup L (need L (⟨#[40]⟩ : ByteArray) (adv s))).2.pos := by
            unfold pGroup
            split
            · show ((⟨#[115, 101, 114, 118, 101, 114, 115]⟩ : ByteArray) : ByteArray).size + _ ≤ 30 * ((need L (⟨#[40]⟩ : ByteArray) (adv s)).pos + 1)
              have : ((⟨#[115, 101, 114, 118, 101, 114, 115]⟩ : ByteArray) : ByteArray).size = 7 := rfl
              rw [this]; omega
            · exact name_short hL _
          have e2 : tmsSize [] = 0 := rfl
          rw [e2]
          simp only [List.length_nil]
          omega
      · have h1 := name_short hL s
        show tmSize (.named (pName L s).1) + 30 * s.pos ≤ 30 * (pName L s).2.pos + 1
        rw [named_size]
        omega
theorem term_small {L : Toks} (hL : Short L) : Small L (pTerm L) := by
  have : ∀ f, Small L (pTermN L f) := by
    intro f
    induction f with
    | zero => intro s h; show tmSize (.named (bs [])) + _ ≤ _; rw [named_size, bs_nil_size]; show 1 + 0 + 30 * s.pos ≤ 30 * s.pos + 1; omega
    | succ f ih => exact join_small (good_join (good_factor (good_termN L f)) _ _) (join_small (good_factor (good_termN L f)) (factor_small hL (good_termN L f) ih) _ _) _ _
  exact this _

theorem namesGo_len {L : Toks} (f : Nat) : ∀ (acc : List ByteArray) (s : St), (namesGo L f acc s).1.length ≤ acc.length + f := by
  induction f with
  | zero => intro acc s; exact Nat.le_refl _
  | succ f ih =>
    intro acc s
    rw [namesGo]
    split
    · have := ih (acc ++ [(pName L (adv s)).1]) (pName L (adv s)).2
      rw [List.length_append] at this
      simp only [List.length_cons, List.length_nil] at this
      omega
    · simp
theorem names_few {L : Toks} (s : St) : (pNames L s).1.length ≤ L.length + 1 := by
  have := namesGo_len (L := L) L.length [(pName L s).1] (pName L s).2
  simp only [List.length_cons, List.length_nil] at this
  show (namesGo L L.length [(pName L s).1] (pName L s).2).1.length ≤ _
  omega
theorem braces_few {L : Toks} (s : St) : (pBraces L s).1.length ≤ L.length + 1 := names_few _
def FtFew (N : Nat) (f : Ft) : Prop := f.byzNames.length ≤ N ∧ f.crashNames.length ≤ N
theorem fault_few {L : Toks} (x : Int) (s : St) : FtFew (L.length + 1) (pFault L x s).1 := by
  unfold pFault
  have z : ([] : List ByteArray).length ≤ L.length + 1 := Nat.zero_le _
  split
  · exact ⟨z, z⟩
  · split
    · exact ⟨z, z⟩
    · split
      · split
        · exact ⟨braces_few _, braces_few _⟩
        · exact ⟨braces_few _, z⟩
      · split
        · exact ⟨z, braces_few _⟩
        · split
          · split
            · exact ⟨z, z⟩
            · split
              · exact ⟨z, z⟩
              · exact ⟨z, z⟩
          · exact ⟨z, z⟩
theorem faultsGo_few {L : Toks} (x : Int) (f : Nat) : ∀ (acc : List Ft) (s : St), (∀ q ∈ acc, FtFew (L.length + 1) q) → (faultsGo L x f acc s).1.length ≤ acc.length + f ∧ ∀ q ∈ (faultsGo L x f acc s).1, FtFew (L.length + 1) q := by
  induction f with
  | zero => intro acc s h; exact ⟨Nat.le_refl _, h⟩
  | succ f ih =>
    intro acc s h
    rw [faultsGo]
    split
    · obtain ⟨a, b⟩ := ih (acc ++ [(pFault L x (adv s)).1]) (pFault L x (adv s)).2 (fun q hq => by
        rcases List.mem_append.1 hq with hq | hq
        · exact h q hq
        · rw [List.mem_singleton.1 hq]; exact fault_few x _)
      rw [List.length_append] at a
      simp only [List.length_cons, List.length_nil] at a
      exact ⟨by omega, b⟩
    · exact ⟨by simp, h⟩
theorem faults_few {L : Toks} (x : Int) (s : St) : (pFaults L x s).1.length ≤ L.length + 1 ∧ ∀ q ∈ (pFaults L x s).1, FtFew (L.length + 1) q := by
  obtain ⟨a, b⟩ := faultsGo_few (L := L) x L.length [(pFault L x s).1] (pFault L x s).2 (fun q hq => by rw [List.mem_singleton.1 hq]; exact fault_few x _)
  simp only [List.length_cons, List.length_nil] at a
  exact ⟨by show (faultsGo L x L.length [(pFault L x s).1] (pFault L x s).2).1.length ≤ _; omega, b⟩
/-- A declaration that is small. -/
def DFew (N : Nat) (d : Dc) : Prop := d.names.length ≤ N + 1 ∧ d.faults.length ≤ N + 1 ∧ (∀ f ∈ d.faults, FtFew (N + 1) f) ∧ tmSize d.term ≤ 30 * N + 1 ∧ tmSize d.read ≤ 30 * N + 1 ∧ tmSize d.write ≤ 30 * N + 1
theorem term_few {L : Toks} (hL : Short L) {s : St} (h : s.pos ≤ L.length) : tmSize (pTerm L s).1 ≤ 30 * L.length + 1 := by
  have a := term_small hL s h
  have b := (good_term L s h).fit
  omega
theorem body_few {L : Toks} (hL : Short L) (x : Int) (li : Int) (s : St) : DFew L.length (pBody L x (.zero li) s).1 := by
  have z : ([] : List ByteArray).length ≤ L.length + 1 := Nat.zero_le _
  have zf : ([] : List Ft).length ≤ L.length + 1 := Nat.zero_le _
  have zq : ∀ f ∈ ([] : List Ft), FtFew (L.length + 1) f := fun f hf => by simp at hf
  have zt : tmSize .zero ≤ 30 * L.length + 1 := by show 1 + 0 + 0 + 0 ≤ _; omega
  unfold pBody
  split
  · exact ⟨braces_few _, zf, zq, zt, zt, zt⟩
  · split
    · exact ⟨z, (faults_few x _).1, (faults_few x _).2, zt, zt, zt⟩
    · split
      · rename_i hw
        have h1 := ahead_adv (isW_ok hw)
        have h2 := h1.trans (ahead_name h1.fit)
        have h3 := h2.trans (ahead_need (⟨#[61]⟩ : ByteArray) h2.fit)
        exact ⟨z, zf, zq, term_few hL h3.fit, zt, zt⟩
      · split
        · rename_i hw
          have h0 := ahead_adv (isW_ok hw)
          have h00 := h0.trans (ahead_name h0.fit)
          have h1 : Ahead L (pName L (adv s)).2 (if isW L (⟨#[99, 114, 97, 115, 104]⟩ : ByteArray) (pName L (adv s)).2 then adv (pName L (adv s)).2 else need L (⟨#[98, 121, 122, 97, 110, 116, 105, 110, 101]⟩ : ByteArray) (pName L (adv s)).2) := by
            split
            · rename_i hw; exact ahead_adv (isW_ok hw)
            · exact ahead_need _ h00.fit
          have h2 := h1.trans (ahead_need (⟨#[114, 101, 97, 100]⟩ : ByteArray) h1.fit)
          have h3 := h2.trans (good_term L _ h2.fit)
          have h4 := h3.trans (ahead_need (⟨#[119, 114, 105, 116, 101]⟩ : ByteArray) h3.fit)
          exact ⟨z, zf, zq, zt, term_few hL h2.fit, term_few hL h4.fit⟩
        · split
          · exact ⟨names_few _, zf, zq, zt, zt, zt⟩
          · split
            · unfold pClient
              split
              · exact ⟨z, zf, zq, zt, zt, zt⟩
              · exact ⟨z, zf, zq, zt, zt, zt⟩
            · split
              · exact ⟨names_few _, zf, zq, zt, zt, zt⟩
              · exact ⟨z, zf, zq, zt, zt, zt⟩
theorem declsGo_few {L : Toks} (hL : Short L) (x : Int) (f : Nat) : ∀ (acc : List Dc) (s : St), s.pos ≤ L.length → (∀ d ∈ acc, DFew L.length d) → (declsGo L x f acc s).1.length ≤ acc.length + f ∧ ∀ d ∈ (declsGo L x f acc s).1, DFew L.length d := by
  induction f with
  | zero => intro acc s _ h; exact ⟨Nat.le_refl _, h⟩
  | succ f ih =>
    intro acc s hs h
    rw [declsGo]
    split
    · obtain ⟨a, b⟩ := ih (acc ++ [(pDecl L x s).1]) (pDecl L x s).2 (ahead_decl x hs).fit (fun d hd => by
        rcases List.mem_append.1 hd with hd | hd
        · exact h d hd
        · rw [List.mem_singleton.1 hd]; exact body_few hL x _ s)
      rw [List.length_append] at a
      simp only [List.length_cons, List.length_nil] at a
      exact ⟨by omega, b⟩
    · exact ⟨by simp, h⟩
theorem parse_few {x : Int} {text : List UInt8} {l : List Dc} {n e : Nat} (h : parseOf x text = (l, n, e)) : l.length ≤ 3000 ∧ ∀ d ∈ l, DFew 3000 d := by
  have none : ∀ {y : List Dc × Nat × Nat}, y.1 = [] → y = (l, n, e) → l.length ≤ 3000 ∧ ∀ d ∈ l, DFew 3000 d := by
    intro y h1 h2
    rw [h2] at h1
    simp only at h1
    subst h1
    exact ⟨by simp, fun d hd => by simp at hd⟩
  have hL := lex_short text 1
  unfold parseOf at h
  generalize hr : lex text 1 [] = r at h hL
  simp only at h
  split at h
  · exact none rfl h
  · split at h
    · exact none rfl h
    · split at h
      · exact none rfl h
      · split at h
        · exact none rfl h
        · rename_i h3 he
          obtain ⟨a, b⟩ := declsGo_few hL x r.1.length [] ⟨0, 0⟩ (Nat.zero_le _) (fun d hd => by simp at hd)
          simp only [Prod.mk.injEq] at h
          rw [h.1] at a b
          simp only [List.length_nil] at a
          refine ⟨by omega, fun d hd => ?_⟩
          obtain ⟨b1, b2, b3, b4, b5, b6⟩ := b d hd
          exact ⟨by omega, by omega, fun f hf => ⟨by have := (b3 f hf).1; omega, by have := (b3 f hf).2; omega⟩, by omega, by omega, by omega⟩
theorem termOf_few {text : List UInt8} {t : Tm} {n e : Nat} (h : termOf text = (t, n, e)) : tmSize t ≤ 1000000000 := by
  have none : ∀ {y : Tm × Nat × Nat}, y.1 = .zero → y = (t, n, e) → tmSize t ≤ 1000000000 := by
    intro y h1 h2
    rw [h2] at h1
    simp only at h1
    subst h1
    show 1 + 0 + 0 + 0 ≤ _
    omega
  have hL := lex_short text 1
  unfold termOf at h
  generalize hr : lex text 1 [] = r at h hL
  simp only at h
  split at h
  · exact none rfl h
  · split at h
    · exact none rfl h
    · split at h
      · exact none rfl h
      · generalize (if (pTerm r.1 ⟨0, 0⟩).2.pos < r.1.length then fails 2 (pTerm r.1 ⟨0, 0⟩).2 else (pTerm r.1 ⟨0, 0⟩).2) = s2 at h
        split at h
        · exact none rfl h
        · rename_i h3 he
          have a := term_few hL (s := ⟨0, 0⟩) (Nat.zero_le _)
          simp only [Prod.mk.injEq] at h
          rw [h.1] at a
          omega
end Go.Proofs.YtipicaoinnblpaaGreatDoor
namespace Go.Proofs.YtipicaoinnblpaaGreatDoor
open Go.RowKit

set_option maxRecDepth 100000 in
set_option maxHeartbeats 4000000 in
theorem sameParse_any (s : ByteArray) (w : World) (hpw : Pow w) : Calls Tryz.prog 3 #[.string s] w fun e w' => e = .returned (.bool true) ∧ Below w.heap.size w w' := by
  have HP := Lib.hid hpw
  clear hpw
  go_enter Tryz.func3, Tryz.ntmps3
  go_wp2_with fail
  refine (awake23_any w HP.out).mono ?_
  rintro e W1 ⟨rfl, hb1⟩
  by_cases hlong : 2000 < s.size
  · have hl : (2000 : Int) < (s.size : Int) := by omega
    go_wp2_with fail
    refine (awake23_any W1 (HP.out.below hb1)).mono ?_
    rintro e W2 ⟨rfl, hb2⟩
    go_wp2
    go_ret
    exact ⟨rfl, hb1.trans (hb2.mono hb1.size)⟩
  · have hl : ¬ (2000 : Int) < (s.size : Int) := by omega
    obtain ⟨l, ln, er, hR⟩ : ∃ l ln er, parseOf 4 s.data.toList = (l, ln, er) := ⟨_, _, _, rfl⟩
    have HPA := Lib.hid (parse_any s W1)
    have HPB := Lib.hid (fun W => parse_rd s W)
    simp only [parseOf_both 5 4] at HPB
    rw [hR] at HPA HPB
    have HLI := Lib.hid (show l.length ≤ 3000 ∧ ∀ d ∈ l, QLim d from ⟨(parse_few hR).1, fun d hd => by
      obtain ⟨b1, b2, b3, b4, b5, b6⟩ := (parse_few hR).2 d hd
      exact ⟨by omega, by omega, fun f hf => ⟨by have := (b3 f hf).1; omega, by have := (b3 f hf).2; omega⟩, by omega, by omega, by omega⟩⟩)
    clear hR hlong
    go_wp2_with fail
    refine HPA.out.mono ?_
    rintro e W2 ⟨A2, c2, rfl, hc2, hl2, hb2⟩
    simp only at hc2 hl2
    have hbw2 := hb1.trans (hb2.mono hb1.size)
    have hs2 := hb2.size
    go_wp2_with fail
    refine (HPB.out W2).mono ?_
    rintro e W3 ⟨A3, c3, rfl, hc3, hl3, hb3⟩
    simp only at hc3 hl3
    have hs3 := hb3.size
    have hbw3 := hbw2.trans (hb3.mono hbw2.size)
    have hl2b := hl2.mono (S' := fun g => W1.heap.size ≤ g ∧ g < W2.heap.size) (P' := DcAt W2 (fun g => W1.heap.size ≤ g ∧ g < W2.heap.size)) (fun g h1 h2 => ⟨h1, h2⟩) (by decide) (fun _ _ h => h.mono fun g h1 h2 => ⟨h1, h2⟩)
    have HE := Lib.hid (equal_true l l true A2 A3 c2 c3 W3 (fun g => W1.heap.size ≤ g ∧ g < W2.heap.size) (W2.heap.size ≤ ·) (hl2b.keep (kept_of hb3 (fun g hg => hg.2)) (fun _ _ h => h.keep (kept_of hb3 (fun g hg => hg.2)))) hl3 rfl (fun _ => rfl) (by have := HLI.out.1; omega) HLI.out.2)
    clear hl2 hl3 hl2b
    go_wp2_with fail
    refine HE.out.mono ?_
    rintro e W4 ⟨rfl, hb4⟩
    go_wp2
    go_ret
    exact ⟨rfl, hbw3.trans (hb4.mono hbw3.size)⟩

set_option maxRecDepth 100000 in
set_option maxHeartbeats 4000000 in
theorem sameTerm_any (s : ByteArray) (w : World) (hpw : Pow w) : Calls Tryz.prog 4 #[.string s] w fun e w' => e = .returned (.bool true) ∧ Below w.heap.size w w' := by
  have HP := Lib.hid hpw
  clear hpw
  go_enter Tryz.func4, Tryz.ntmps4
  go_wp2_with fail
  refine (awake23_any w HP.out).mono ?_
  rintro e W1 ⟨rfl, hb1⟩
  by_cases hlong : 1000 < s.size
  · have hl : (1000 : Int) < (s.size : Int) := by omega
    go_wp2_with fail
    refine (awake23_any W1 (HP.out.below hb1)).mono ?_
    rintro e W2 ⟨rfl, hb2⟩
    go_wp2
    go_ret
    exact ⟨rfl, hb1.trans (hb2.mono hb1.size)⟩
  · have hl : ¬ (1000 : Int) < (s.size : Int) := by omega
    obtain ⟨t, ln, er, hR⟩ : ∃ t ln er, termOf s.data.toList = (t, ln, er) := ⟨_, _, _, rfl⟩
    have HPA := Lib.hid (termF_any s W1)
    have HPB := Lib.hid (fun W => termF_rd s W)
    rw [hR] at HPA HPB
    have HLI := Lib.hid (termOf_few hR)
    clear hR hlong
    go_wp2_with fail
    refine HPA.out.mono ?_
    rintro e W2 ⟨o1, m1, d1, wA1, wn1, wc1, kA1, kn1, kc1, rfl, ht2, hb2⟩
    simp only at ht2
    have hbw2 := hb1.trans (hb2.mono hb1.size)
    have hs2 := hb2.size
    obtain ⟨W3, hW3⟩ : ∃ W3 : World, W3 = W2.alloc (.cells #[.int .i64 o1, .string m1, .int .i64 d1, .slice wA1 wn1 wc1, .slice kA1 kn1 kc1] 32) := ⟨_, rfl⟩
    have hb3 : Below W2.heap.size W2 W3 := by rw [hW3]; exact (Below.refl _ _).alloc (Nat.le_refl _) _
    have hn3 : W3.heap[W2.heap.size]? = some (.cells #[.int .i64 o1, .string m1, .int .i64 d1, .slice wA1 wn1 wc1, .slice kA1 kn1 kc1] 32 (0, 0)) := by rw [hW3]; exact heap_alloc_new W2 _
    have hs3 : W2.heap.size < W3.heap.size := by rw [hW3]; simp
    have ht3 := (ht2.mono (S' := fun g => W1.heap.size ≤ g ∧ g < W2.heap.size) (fun g h1 h2 => ⟨h1, h2⟩)).keep (kept_all hb3)
    have hbw3 := hbw2.trans (hb3.mono hbw2.size)
    have HT3 := Lib.hid ht3
    have HN3 := Lib.hid hn3
    have HW3 := Lib.hid hW3
    clear hW3 ht2 ht3 hn3
    go_wp2_with fail
    rw [← HW3.out]
    refine (HPB.out W3).mono ?_
    rintro e W4 ⟨o2, m2, d2, wA2, wn2, wc2, kA2, kn2, kc2, rfl, ht4, hb4⟩
    simp only at ht4
    clear HW3
    have hs4 := hb4.size
    have hbw4 := hbw3.trans (hb4.mono hbw3.size)
    have hn4 := (hb4.block _ hs3).trans HN3.out
    have ht3 := HT3.out.keep (kept_of hb4 (fun g hg => by omega))
    obtain ⟨W5, hW5⟩ : ∃ W5 : World, W5 = W4.alloc (.cells #[.int .i64 o2, .string m2, .int .i64 d2, .slice wA2 wn2 wc2, .slice kA2 kn2 kc2] 32) := ⟨_, rfl⟩
    have hb5 : Below W4.heap.size W4 W5 := by rw [hW5]; exact (Below.refl _ _).alloc (Nat.le_refl _) _
    have hn5 : W5.heap[W4.heap.size]? = some (.cells #[.int .i64 o2, .string m2, .int .i64 d2, .slice wA2 wn2 wc2, .slice kA2 kn2 kc2] 32 (0, 0)) := by rw [hW5]; exact heap_alloc_new W4 _
    have hbw5 := hbw4.trans (hb5.mono hbw4.size)
    have hn45 := (hb5.block _ (by omega)).trans hn4
    have HE := Lib.hid (equalTerm_true t _ _ W5 _ _ (ht3.keep (kept_all hb5)) (ht4.keep (kept_all hb5)) HLI.out)
    obtain ⟨a0, a1, a2, a3, a4, -⟩ := row5 hn45
    obtain ⟨b0, b1, b2, b3, b4, -⟩ := row5 hn5
    have HW5 := Lib.hid hW5
    clear hW5 ht3 ht4 hn4 hn5 hn45
    go_upto_region 5 with fail
    rw [← HW5.out]
    go_wp2_with fail
    refine HE.out.mono ?_
    rintro e W6 ⟨rfl, hb6⟩
    go_wp2
    go_ret
    exact ⟨rfl, hbw5.trans (hb6.mono hbw5.size)⟩
end Go.Proofs.YtipicaoinnblpaaGreatDoor
