/- Texts as lists of pieces (words, numbers, symbols, gaps): well-separated pieces are read as their tokens. No condition. The texts of valid terms, faults and declarations as well-separated pieces. No condition. The plain parser reads the tokens of a valid term's text as the term. No condition. The plain parser reads the tokens of valid declarations' texts as the declarations, apart from the lines. No condition. The plain parser reads the tokens of valid declarations' texts as the declarations, apart from the lines: names, faults, declarations. No condition. The plain parser reads the text of valid declarations as the declarations, apart from the lines. No condition. -/
import Derived.Test.YtipicaoinnblpaaGreatDoorPkPlain
namespace Go.Proofs.YtipicaoinnblpaaGreatDoor

theorem ba_false {a b : ByteArray} (h : a ≠ b) : (a == b) = false := by
  cases e : (a == b)
  · rfl
  · exact absurd ((ba_iff a b).1 e) h

inductive Pc where
  | word (b : List UInt8)
  | int (n : Int)
  | sym (c : UInt8)
  | gap (g : List UInt8)
def Pc.bytes : Pc → List UInt8
  | .word b => b
  | .int n => Lib.itoa n
  | .sym c => [c]
  | .gap g => g
def wordTok (b : List UInt8) : Tok := ⟨1, bs b, 0, bs []⟩
def intTok (n : Int) : Tok := ⟨2, bs [], n.toNat, bs []⟩
def symTok (c : UInt8) : Tok := ⟨4, bs [c], 0, bs []⟩
def Pc.toks : Pc → List Tok
  | .word b => [wordTok b]
  | .int n => [intTok n]
  | .sym c => [symTok c]
  | .gap _ => []
def Pc.solid : Pc → Bool
  | .word _ => true
  | .int _ => true
  | .sym _ => false
  | .gap _ => false
def bytesOf (l : List Pc) : List UInt8 := l.flatMap Pc.bytes
def toksOf (l : List Pc) : List Tok := l.flatMap Pc.toks
theorem bytesOf_append (a b : List Pc) : bytesOf (a ++ b) = bytesOf a ++ bytesOf b := by simp [bytesOf]
theorem toksOf_append (a b : List Pc) : toksOf (a ++ b) = toksOf a ++ toksOf b := by simp [toksOf]
theorem bytesOf_cons (x : Pc) (r : List Pc) : bytesOf (x :: r) = x.bytes ++ bytesOf r := rfl
theorem toksOf_cons (x : Pc) (r : List Pc) : toksOf (x :: r) = x.toks ++ toksOf r := rfl
theorem bytesOf_nil : bytesOf [] = [] := rfl
theorem toksOf_nil : toksOf [] = [] := rfl

/-- A gap: it begins with a byte that ends a word, and is passed over. -/
def GapOk (g : List UInt8) : Prop := (∃ c r, g = c :: r ∧ isCont c.toNat = false) ∧ ∀ rest line acc, ∃ line', lex (g ++ rest) line acc = lex rest line' acc
def Pc.ok : Pc → Prop
  | .word b => lexName b = true
  | .int n => small n = true
  | .sym c => c ∈ syms ∧ c ≠ 47
  | .gap g => GapOk g
/-- No two words or numbers stand side by side. -/
def sepd : Bool → List Pc → Bool
  | _, [] => true
  | b, x :: r => !(b && x.solid) && sepd x.solid r
def ends : Bool → List Pc → Bool
  | b, [] => b
  | _, x :: r => ends x.solid r
theorem sepd_append (l m : List Pc) : ∀ b, sepd b (l ++ m) = (sepd b l && sepd (ends b l) m) := by
  induction l with
  | nil => intro b; simp [sepd, ends]
  | cons x r ih => intro b; simp [sepd, ends, ih, Bool.and_assoc]
theorem sepd_sym (b : Bool) (c : UInt8) (r : List Pc) : sepd b (.sym c :: r) = sepd false r := by simp [sepd, Pc.solid]
theorem sepd_gap (b : Bool) (g : List UInt8) (r : List Pc) : sepd b (.gap g :: r) = sepd false r := by simp [sepd, Pc.solid]
theorem sepd_nil (b : Bool) : sepd b [] = true := rfl

/-- The bytes begin with one that ends a word, or there are none. -/
def brk (l : List UInt8) : Prop := ∀ c r, l = c :: r → isCont c.toNat = false
theorem sym_facts : ∀ c ∈ syms, isWhite c.toNat = false ∧ isLetter c.toNat = false ∧ isDigit c.toNat = false ∧ c ≠ 34 := by decide
theorem brk_of {r : List Pc} (h : sepd true r = true) (hok : ∀ x ∈ r, x.ok) : brk (bytesOf r) := by
  cases r with
  | nil => intro c r e; simp [bytesOf] at e
  | cons x r =>
    have hx := hok x (by simp)
    intro c s e
    rw [bytesOf_cons] at e
    cases x with
    | word b => simp [sepd, Pc.solid] at h
    | int n => simp [sepd, Pc.solid] at h
    | sym d =>
      have e1 : d = c := by simp [Pc.bytes] at e; exact e.1
      subst e1
      have := sym_facts d hx.1
      unfold isCont; rw [this.2.1, this.2.2.1]; rfl
    | gap g =>
      obtain ⟨⟨d, q, rfl, hd⟩, -⟩ := hx
      have e1 : d = c := by simp [Pc.bytes] at e; exact e.1
      subst e1; exact hd

theorem pre_append (p : Nat → Bool) (a r : List UInt8) (ha : ∀ c ∈ a, p c.toNat = true) (hr : ∀ c s, r = c :: s → p c.toNat = false) : pre p (a ++ r) = a.length := by
  induction a with
  | nil =>
    cases r with
    | nil => rfl
    | cons c s => unfold pre; simp [hr c s rfl]
  | cons c a ih =>
    have h0 := ha c (by simp)
    have h1 := ih (fun d hd => ha d (by simp [hd]))
    unfold pre at h1 ⊢
    rw [List.cons_append, List.takeWhile_cons, if_pos h0, List.length_cons, h1, List.length_cons]
/-- Digits. -/
theorem digit_ofNat : ∀ i, i < 10 → (UInt8.ofNat (48 + i)).toNat = 48 + i := by
  intro i h
  rw [UInt8.toNat_ofNat']; omega
theorem dec_digits (n : Nat) : ∀ u, u ≤ n → ∀ c ∈ Lib.decDigits u, isDigit c.toNat = true := by
  induction n with
  | zero =>
    intro u hu c hc
    have : u = 0 := by omega
    subst this
    rw [Lib.decDigits_one (by omega)] at hc
    simp at hc; subst hc; decide
  | succ n ih =>
    intro u hu c hc
    rw [Lib.decDigits] at hc
    split at hc
    · rename_i h
      obtain rfl := List.mem_singleton.1 hc
      unfold isDigit; rw [digit_ofNat u h]; simp; omega
    · rename_i h
      rcases List.mem_append.1 hc with hc | hc
      · exact ih (u / 10) (by omega) c hc
      · obtain rfl := List.mem_singleton.1 hc
        have : u % 10 < 10 := Nat.mod_lt _ (by omega)
        unfold isDigit; rw [digit_ofNat _ this]; simp; omega
theorem numGo_append (a b : List UInt8) : ∀ v, numGo v (a ++ b) = (numGo v a).bind fun x => numGo x b := by
  induction a with
  | nil => intro v; rfl
  | cons c r ih =>
    intro v
    rw [List.cons_append, numGo, numGo]
    split
    · rfl
    · exact ih _
theorem numGo_dec (n : Nat) : ∀ u, u ≤ n → u ≤ 100000 → numGo 0 (Lib.decDigits u) = some u := by
  induction n with
  | zero =>
    intro u hu _
    have : u = 0 := by omega
    subst this
    rw [Lib.decDigits_one (by omega)]; rfl
  | succ n ih =>
    intro u hu hl
    rw [Lib.decDigits]
    split
    · rename_i h
      rw [numGo, digit_ofNat u h, if_neg (by omega), numGo]
      congr 1; omega
    · rename_i h
      have hm : u % 10 < 10 := Nat.mod_lt _ (by omega)
      rw [numGo_append, ih (u / 10) (by omega) (by omega)]
      show numGo (u / 10) [UInt8.ofNat (48 + u % 10)] = some u
      rw [numGo, digit_ofNat _ hm, if_neg (by omega), numGo]
      congr 1; omega
theorem dec_head (n : Nat) : ∀ u, u ≤ n → ∃ c r, Lib.decDigits u = c :: r ∧ (0 < u → c ≠ 48) := by
  induction n with
  | zero =>
    intro u hu
    have : u = 0 := by omega
    subst this
    rw [Lib.decDigits_one (by omega)]; exact ⟨_, _, rfl, fun h => by omega⟩
  | succ n ih =>
    intro u hu
    rw [Lib.decDigits]
    split
    · rename_i h
      refine ⟨_, _, rfl, fun h0 e => ?_⟩
      have := congrArg UInt8.toNat e
      rw [digit_ofNat u h] at this
      have e48 : (48 : UInt8).toNat = 48 := rfl
      omega
    · rename_i h
      obtain ⟨c, r, e, hc⟩ := ih (u / 10) (by omega)
      rw [e]
      exact ⟨c, r ++ _, rfl, fun _ => hc (by omega)⟩
theorem num_dec (u : Nat) (h : u ≤ 100000) : num (Lib.decDigits u) = some u := by
  unfold num
  rw [if_neg, numGo_dec u u (Nat.le_refl _) h]
  rintro ⟨h1, h2⟩
  by_cases h10 : u < 10
  · rw [Lib.decDigits_one h10] at h1; simp at h1
  · obtain ⟨c, r, e, hc⟩ := dec_head u u (Nat.le_refl _)
    rw [e] at h2; simp at h2
    exact hc (by omega) h2
theorem itoa_nat {n : Int} (h : small n = true) : Lib.itoa n = Lib.decDigits n.toNat := by
  have := small_range h
  unfold Lib.itoa; rw [if_neg (by omega)]

theorem letter_facts {c : Nat} (h : isLetter c = true) : isWhite c = false ∧ c ≠ 47 := by
  unfold isLetter at h
  unfold isWhite
  simp only [Bool.or_eq_true, Bool.and_eq_true, beq_iff_eq, decide_eq_true_eq] at h
  refine ⟨?_, by omega⟩
  simp only [Bool.or_eq_false_iff, beq_eq_false_iff_ne]
  omega
theorem digit_facts {c : Nat} (h : isDigit c = true) : isWhite c = false ∧ c ≠ 47 ∧ isLetter c = false := by
  unfold isDigit at h
  unfold isWhite isLetter
  simp only [Bool.and_eq_true, decide_eq_true_eq] at h
  refine ⟨?_, by omega, ?_⟩
  · simp only [Bool.or_eq_false_iff, beq_eq_false_iff_ne]; omega
  · simp only [Bool.or_eq_false_iff, Bool.and_eq_false_iff, beq_eq_false_iff_ne, decide_eq_false_iff_not]; omega
theorem lex_word {b : List UInt8} (h : lexName b = true) (r : List UInt8) (hr : brk r) (line : Nat) (acc : List (Tok × Nat)) : lex (b ++ r) line acc = lex r line (acc ++ [(wordTok b, line)]) := by
  obtain ⟨c, s, rfl, hc, hl, hall⟩ := lexName_parts h
  obtain ⟨h1, h2⟩ := letter_facts hc
  have hp : pre isCont (c :: s ++ r) = (c :: s).length := pre_append isCont _ _ hall hr
  have e : lexOne (c :: s ++ r) = some (wordTok (c :: s), (c :: s).length) := by
    rw [List.cons_append] at hp ⊢
    rw [lexOne, if_pos hc, hp, if_neg (by omega)]
    rw [← List.cons_append, List.take_left]; rfl
  rw [List.cons_append] at e ⊢
  rw [lex_token c (s ++ r) line acc _ _ h1 (fun hh => h2 (by rw [hh.1]; rfl)) e, ← List.cons_append, List.drop_left]
theorem lex_int {n : Int} (h : small n = true) (r : List UInt8) (hr : brk r) (line : Nat) (acc : List (Tok × Nat)) : lex (Lib.itoa n ++ r) line acc = lex r line (acc ++ [(intTok n, line)]) := by
  have hn := small_range h
  rw [itoa_nat h]
  have hd := dec_digits n.toNat n.toNat (Nat.le_refl _)
  have hv := num_dec n.toNat (by omega)
  obtain ⟨c, s, ec, -⟩ := dec_head n.toNat n.toNat (Nat.le_refl _)
  rw [ec] at hd hv ⊢
  have hc := hd c (by simp)
  obtain ⟨h1, h2, h3⟩ := digit_facts hc
  have hp : pre isDigit (c :: s ++ r) = (c :: s).length := pre_append isDigit _ _ hd (fun c' s' e' => by
    have := hr c' s' e'
    unfold isCont at this
    simp only [Bool.or_eq_false_iff] at this
    exact this.2)
  have e : lexOne (c :: s ++ r) = some (intTok n, (c :: s).length) := by
    rw [List.cons_append] at hp ⊢
    rw [lexOne, if_neg (by rw [h3]; simp), if_pos hc, hp, ← List.cons_append, List.take_left, hv]; rfl
  rw [List.cons_append] at e ⊢
  rw [lex_token c (s ++ r) line acc _ _ h1 (fun hh => h2 (by rw [hh.1]; rfl)) e, ← List.cons_append, List.drop_left]
theorem lex_sym {c : UInt8} (h : c ∈ syms ∧ c ≠ 47) (r : List UInt8) (line : Nat) (acc : List (Tok × Nat)) : lex (c :: r) line acc = lex r line (acc ++ [(symTok c, line)]) := by
  obtain ⟨h1, h2, h3, h4⟩ := sym_facts c h.1
  have e : lexOne (c :: r) = some (symTok c, 1) := by
    rw [lexOne, if_neg (by rw [h2]; simp), if_neg (by rw [h3]; simp), if_neg h4, if_pos h.1]; rfl
  rw [lex_token c r line acc _ _ h1 (fun hh => h.2 hh.1) e]; rfl

/-- Well-separated pieces are read as their tokens. -/
theorem lex_pcs : ∀ (ps : List Pc) (b : Bool), sepd b ps = true → (∀ x ∈ ps, x.ok) → ∀ line acc, ∃ L : Toks, lex (bytesOf ps) line acc = (acc ++ L, 0, 0) ∧ L.map (·.1) = toksOf ps := by
  intro ps
  induction ps with
  | nil => intro b _ _ line acc; exact ⟨[], by rw [bytesOf_nil, lex_nil, List.append_nil], rfl⟩
  | cons x r ih =>
    intro b hs hok line acc
    have hx := hok x (by simp)
    have hr : ∀ y ∈ r, y.ok := fun y hy => hok y (by simp [hy])
    have hsr : sepd x.solid r = true := by simp [sepd] at hs; exact hs.2
    rw [bytesOf_cons]
    cases x with
    | word w =>
      obtain ⟨L, h1, h2⟩ := ih _ hsr hr line (acc ++ [(wordTok w, line)])
      refine ⟨(wordTok w, line) :: L, ?_, by rw [toksOf_cons, List.map_cons, h2]; rfl⟩
      rw [show (Pc.word w).bytes = w from rfl, lex_word hx _ (brk_of hsr hr), h1]; simp
    | int n =>
      obtain ⟨L, h1, h2⟩ := ih _ hsr hr line (acc ++ [(intTok n, line)])
      refine ⟨(intTok n, line) :: L, ?_, by rw [toksOf_cons, List.map_cons, h2]; rfl⟩
      rw [show (Pc.int n).bytes = Lib.itoa n from rfl, lex_int hx _ (brk_of hsr hr), h1]; simp
    | sym c =>
      obtain ⟨L, h1, h2⟩ := ih _ hsr hr line (acc ++ [(symTok c, line)])
      refine ⟨(symTok c, line) :: L, ?_, by rw [toksOf_cons, List.map_cons, h2]; rfl⟩
      rw [show (Pc.sym c).bytes = [c] from rfl, List.singleton_append, lex_sym hx, h1]; simp
    | gap g =>
      obtain ⟨line', hl⟩ := hx.2 (bytesOf r) line acc
      obtain ⟨L, h1, h2⟩ := ih _ hsr hr line' acc
      exact ⟨L, by rw [show (Pc.gap g).bytes = g from rfl, hl, h1], by rw [toksOf_cons, h2]; rfl⟩

theorem gap_white (l : List UInt8) (h : ∀ c ∈ l, isWhite c.toNat = true) (rest : List UInt8) : ∀ (line : Nat) (acc : List (Tok × Nat)), ∃ line', lex (l ++ rest) line acc = lex rest line' acc := by
  induction l with
  | nil => intro line acc; exact ⟨line, rfl⟩
  | cons c r ih =>
    intro line acc
    obtain ⟨l', e⟩ := ih (fun d hd => h d (by simp [hd])) (if c = 10 then line + 1 else line) acc
    exact ⟨l', by rw [List.cons_append, lex_white c _ _ _ (h c (by simp)), e]⟩
theorem gap_space : GapOk [32] := ⟨⟨_, _, rfl, by decide⟩, gap_white [32] (by decide)⟩
theorem gap_line : GapOk [10] := ⟨⟨_, _, rfl, by decide⟩, gap_white [10] (by decide)⟩
end Go.Proofs.YtipicaoinnblpaaGreatDoor
namespace Go.Proofs.YtipicaoinnblpaaGreatDoor

def parP (ops : List Int) (t : Tm) (x : List Pc) : List Pc := if ops.contains t.op then [.sym 40] ++ x ++ [.sym 41] else x
def joinP (l : List (List Pc)) (sep : List Pc) : List Pc := match l with
  | [] => []
  | x :: r => x ++ r.flatMap (sep ++ ·)
def weighedP (ws : List Int) (l : List (List Pc)) : List (List Pc) := if ws.length = 0 then l else List.zipWith (fun x w => x ++ [.sym 42, .int w]) l ws
def andSep : List Pc := [.gap [32], .sym 38, .gap [32]]
def orSep : List Pc := [.gap [32], .sym 124, .gap [32]]
def comSep : List Pc := [.sym 44, .gap [32]]
def headP (t : Tm) (l : List (List Pc)) : List Pc :=
  if t.op = 3 then joinP (List.zipWith (parP [3, 4]) t.kids l) andSep
  else if t.op = 4 then joinP (List.zipWith (parP [4]) t.kids l) orSep
  else if t.op = 5 then [.word [100, 117, 97, 108], .sym 40] ++ l.headD [] ++ [.sym 41]
  else if t.op = 6 then [.word [109, 97, 106, 111, 114, 105, 116, 121], .sym 40, .word t.name.data.toList, .sym 41]
  else if t.op = 7 then [.word [97, 108, 108], .sym 40, .word t.name.data.toList, .sym 41]
  else if t.op = 8 then [.word [97, 110, 121], .sym 40, .word t.name.data.toList, .sym 41]
  else if t.op = 2 then [.int t.need, .sym 40] ++ joinP (weighedP t.ws l) comSep ++ [.sym 41]
  else [.word t.name.data.toList]
mutual
def tmPcs : Tm → List Pc
  | .mk op name need ws kids => headP (.mk op name need ws kids) (tmsPcs kids)
def tmsPcs : List Tm → List (List Pc)
  | [] => []
  | t :: r => tmPcs t :: tmsPcs r
end
theorem tmsPcs_map (l : List Tm) : tmsPcs l = l.map tmPcs := by
  induction l with
  | nil => rfl
  | cons t r ih => rw [tmsPcs, ih]; rfl
theorem tmPcs_eq (t : Tm) : tmPcs t = headP t (t.kids.map tmPcs) := by
  cases t with
  | mk op name need ws kids => rw [tmPcs, tmsPcs_map]; rfl

theorem bytes_tail (r : List (List Pc)) (sep : List Pc) : bytesOf (r.flatMap (sep ++ ·)) = Lib.joinTail (bytesOf sep) (r.map bytesOf) := by
  induction r with
  | nil => rfl
  | cons x r ih =>
    rw [List.flatMap_cons, bytesOf_append, ih, bytesOf_append]
    simp [Lib.joinTail]
theorem bytes_join (l : List (List Pc)) (sep : List Pc) : bytesOf (joinP l sep) = Lib.join (l.map bytesOf) (bytesOf sep) := by
  cases l with
  | nil => rfl
  | cons x r => rw [joinP, bytesOf_append, bytes_tail, List.map_cons, Lib.join_cons]
theorem bytes_par (ops : List Int) (t : Tm) (x : List Pc) : bytesOf (parP ops t x) = par ops t (bytesOf x) := by
  unfold parP par
  split
  · rw [bytesOf_append, bytesOf_append]; rfl
  · rfl
theorem bytes_weighed (ws : List Int) : ∀ (l : List (List Pc)), (weighedP ws l).map bytesOf = weighed ws (l.map bytesOf) := by
  intro l
  unfold weighedP weighed
  split
  · rfl
  · induction l generalizing ws with
    | nil => simp
    | cons x r ih =>
      cases ws with
      | nil => simp
      | cons w ws =>
        rw [List.zipWith_cons_cons, List.map_cons, List.map_cons, List.zipWith_cons_cons]
        congr 1
        · rw [bytesOf_append]; simp [bytesOf, Pc.bytes]
        · by_cases h0 : ws.length = 0
          · have : ws = [] := List.length_eq_zero_iff.1 h0
            subst this; simp
          · exact ih _ h0
theorem bytes_zip (ops : List Int) (ks : List Tm) : ∀ (l : List (List Pc)), (List.zipWith (parP ops) ks l).map bytesOf = List.zipWith (par ops) ks (l.map bytesOf) := by
  induction ks with
  | nil => intro l; simp
  | cons k r ih =>
    intro l
    cases l with
    | nil => simp
    | cons x l => rw [List.zipWith_cons_cons, List.map_cons, List.map_cons, List.zipWith_cons_cons, ih, bytes_par]
theorem bytes_head (t : Tm) (l : List (List Pc)) : bytesOf (headP t l) = headText t (l.map bytesOf) := by
  unfold headP headText
  split
  · rw [bytes_join, bytes_zip]; rfl
  split
  · rw [bytes_join, bytes_zip]; rfl
  split
  · rw [bytesOf_append, bytesOf_append]
    cases l <;> rfl
  split
  · simp [bytesOf, Pc.bytes]
  split
  · simp [bytesOf, Pc.bytes]
  split
  · simp [bytesOf, Pc.bytes]
  split
  · rw [bytesOf_append, bytesOf_append, bytes_join, bytes_weighed]
    simp [bytesOf, Pc.bytes, comSep]
  · simp [bytesOf, Pc.bytes]
theorem tm_bytes : ∀ (n : Nat) (t : Tm), tmSize t ≤ n → bytesOf (tmPcs t) = tmText t := by
  intro n
  induction n with
  | zero => intro t ht; have : 0 < tmSize t := by (cases t; rw [tmSize]; omega)
            omega
  | succ n ih =>
    intro t ht
    rw [tmPcs_eq, tmText_eq, bytes_head, List.map_map]
    congr 1
    refine List.map_congr_left fun k hk => ih k ?_
    have := tm_size_mem hk
    have := tmsSize_kids t
    omega
theorem tmPcs_bytes (t : Tm) : bytesOf (tmPcs t) = tmText t := tm_bytes _ t (Nat.le_refl _)

/-- Pieces of which each is in order, well separated. -/
def Neat (l : List Pc) : Prop := sepd false l = true ∧ ∀ x ∈ l, x.ok
theorem Neat.nil : Neat [] := ⟨rfl, fun x h => by simp at h⟩
theorem okp_append {a b : List Pc} (ha : ∀ x ∈ a, x.ok) (hb : ∀ x ∈ b, x.ok) : ∀ x ∈ a ++ b, x.ok := fun x hx => by
  rcases List.mem_append.1 hx with h | h
  · exact ha x h
  · exact hb x h
/-- Behind a symbol or a gap. -/
theorem Neat.behind {a b : List Pc} (ha : Neat a) (hb : Neat b) (he : ends false a = false) : Neat (a ++ b) :=
  ⟨by rw [sepd_append, ha.1, he, hb.1]; rfl, okp_append ha.2 hb.2⟩
/-- Ahead of a symbol or a gap. -/
theorem Neat.ahead {a b : List Pc} (ha : Neat a) (hb : Neat b) (hs : ∀ c, sepd c b = true) : Neat (a ++ b) :=
  ⟨by rw [sepd_append, ha.1, hs]; rfl, okp_append ha.2 hb.2⟩
theorem ok_sym {c : UInt8} (h : c ∈ syms ∧ c ≠ 47 := by decide) : (Pc.sym c).ok := h
theorem neat_sym {c : UInt8} (h : c ∈ syms ∧ c ≠ 47 := by decide) : Neat [.sym c] := ⟨rfl, fun x hx => by simp at hx; subst hx; exact h⟩
theorem neat_space : Neat [.gap [32]] := ⟨rfl, fun x hx => by simp at hx; subst hx; exact gap_space⟩
theorem neat_line : Neat [.gap [10]] := ⟨rfl, fun x hx => by simp at hx; subst hx; exact gap_line⟩
theorem neat_word {b : List UInt8} (h : lexName b = true) : Neat [.word b] := ⟨rfl, fun x hx => by simp at hx; subst hx; exact h⟩
theorem neat_int {n : Int} (h : small n = true) : Neat [.int n] := ⟨rfl, fun x hx => by simp at hx; subst hx; exact h⟩
/-- A symbol ahead. -/
theorem Neat.sym {c : UInt8} {b : List Pc} (hb : Neat b) (h : c ∈ syms ∧ c ≠ 47 := by decide) : Neat (.sym c :: b) := Neat.behind (a := [.sym c]) (neat_sym h) hb rfl
theorem Neat.gap {b : List Pc} (hb : Neat b) : Neat (.gap [32] :: b) := Neat.behind (a := [.gap [32]]) neat_space hb rfl
theorem Neat.wordSym {w : List UInt8} {c : UInt8} {b : List Pc} (hw : lexName w = true) (hb : Neat (.sym c :: b)) : Neat (.word w :: .sym c :: b) := Neat.ahead (a := [.word w]) (neat_word hw) hb (fun d => by rw [sepd_sym]; have := hb.1; rwa [sepd_sym] at this)
theorem Neat.wordGap {w : List UInt8} {c : List UInt8} {b : List Pc} (hw : lexName w = true) (hb : Neat (.gap c :: b)) : Neat (.word w :: .gap c :: b) := Neat.ahead (a := [.word w]) (neat_word hw) hb (fun d => by rw [sepd_gap]; have := hb.1; rwa [sepd_gap] at this)
theorem Neat.intSym {w : Int} {c : UInt8} {b : List Pc} (hw : small w = true) (hb : Neat (.sym c :: b)) : Neat (.int w :: .sym c :: b) := Neat.ahead (a := [.int w]) (neat_int hw) hb (fun d => by rw [sepd_sym]; have := hb.1; rwa [sepd_sym] at this)
theorem Neat.intGap {w : Int} {c : List UInt8} {b : List Pc} (hw : small w = true) (hb : Neat (.gap c :: b)) : Neat (.int w :: .gap c :: b) := Neat.ahead (a := [.int w]) (neat_int hw) hb (fun d => by rw [sepd_gap]; have := hb.1; rwa [sepd_gap] at this)
theorem Neat.andSym {a b : List Pc} {c : UInt8} (ha : Neat a) (hb : Neat (.sym c :: b)) : Neat (a ++ .sym c :: b) := ha.ahead hb (fun d => by rw [sepd_sym]; have := hb.1; rwa [sepd_sym] at this)
theorem Neat.andGap {a b : List Pc} {c : List UInt8} (ha : Neat a) (hb : Neat (.gap c :: b)) : Neat (a ++ .gap c :: b) := ha.ahead hb (fun d => by rw [sepd_gap]; have := hb.1; rwa [sepd_gap] at this)

/-- A separator: a symbol or gap at both ends. -/
def SepOk (sep : List Pc) : Prop := Neat sep ∧ (∀ b, sepd b sep = true) ∧ (∀ b, ends b sep = false)
theorem andSep_ok : SepOk andSep := ⟨(Neat.sym neat_space).gap, fun b => by simp [andSep, sepd_gap, sepd_sym, sepd_nil], fun b => rfl⟩
theorem orSep_ok : SepOk orSep := ⟨(Neat.sym neat_space).gap, fun b => by simp [orSep, sepd_gap, sepd_sym, sepd_nil], fun b => rfl⟩
theorem comSep_ok : SepOk comSep := ⟨Neat.sym neat_space, fun b => by simp [comSep, sepd_gap, sepd_sym, sepd_nil], fun b => rfl⟩
theorem neat_tail {sep : List Pc} (hs : SepOk sep) (r : List (List Pc)) (h : ∀ x ∈ r, Neat x) : Neat (r.flatMap (sep ++ ·)) ∧ ∀ b, sepd b (r.flatMap (sep ++ ·)) = true := by
  induction r with
  | nil => exact ⟨.nil, fun _ => rfl⟩
  | cons x r ih =>
    obtain ⟨h1, h2⟩ := ih (fun y hy => h y (by simp [hy]))
    have hx : Neat (sep ++ x) := hs.1.behind (h x (by simp)) (hs.2.2 _)
    rw [List.flatMap_cons]
    refine ⟨hx.ahead h1 h2, fun b => ?_⟩
    rw [sepd_append, sepd_append, hs.2.1, hs.2.2, (h x (by simp)).1, h2]; rfl
theorem neat_join {sep : List Pc} (hs : SepOk sep) (l : List (List Pc)) (h : ∀ x ∈ l, Neat x) : Neat (joinP l sep) := by
  cases l with
  | nil => exact .nil
  | cons x r =>
    obtain ⟨h1, h2⟩ := neat_tail hs r (fun y hy => h y (by simp [hy]))
    exact (h x (by simp)).ahead h1 h2
theorem neat_par (ops : List Int) (t : Tm) (x : List Pc) (h : Neat x) : Neat (parP ops t x) := by
  unfold parP
  split
  · rw [List.append_assoc]; exact Neat.sym (h.andSym neat_sym)
  · exact h
theorem okName_lex {x : ByteArray} (h : okName x = true) : lexName x.data.toList = true := by
  unfold okName at h
  rw [Bool.and_eq_true] at h
  exact h.1
theorem servers_lex : lexName ((⟨#[115, 101, 114, 118, 101, 114, 115]⟩ : ByteArray)).data.toList = true := by decide
/-- Names that stand in parentheses behind a function. -/
theorem group_lex {x : ByteArray} (h : (okName x || x == (⟨#[115, 101, 114, 118, 101, 114, 115]⟩ : ByteArray)) = true) : lexName x.data.toList = true := by
  rw [Bool.or_eq_true] at h
  rcases h with h | h
  · exact okName_lex h
  · rw [(ba_iff _ _).1 h]; exact servers_lex
theorem head_ok1 (nm : ByteArray) (nd : Int) (ws : List Int) (ks : List Tm) : okHead (.mk 1 nm nd ws ks) = (okName nm && bare (.mk 1 nm nd ws ks)) := rfl
theorem head_ok2 (nm : ByteArray) (nd : Int) (ws : List Int) (ks : List Tm) : okHead (.mk 2 nm nd ws ks) = (decide (nm.size = 0) && small nd && decide (0 < ks.length) && (decide (ws.length = 0) || decide (ws.length = ks.length))) := rfl
theorem head_ok3 (nm : ByteArray) (nd : Int) (ws : List Int) (ks : List Tm) : okHead (.mk 3 nm nd ws ks) = (decide (nm.size = 0) && decide (nd = 0) && decide (ws.length = 0) && decide (2 ≤ ks.length)) := rfl
theorem head_ok4 (nm : ByteArray) (nd : Int) (ws : List Int) (ks : List Tm) : okHead (.mk 4 nm nd ws ks) = (decide (nm.size = 0) && decide (nd = 0) && decide (ws.length = 0) && decide (2 ≤ ks.length)) := rfl
theorem head_ok5 (nm : ByteArray) (nd : Int) (ws : List Int) (ks : List Tm) : okHead (.mk 5 nm nd ws ks) = (decide (nm.size = 0) && decide (nd = 0) && decide (ws.length = 0) && decide (ks.length = 1)) := rfl
theorem head_ok6 (nm : ByteArray) (nd : Int) (ws : List Int) (ks : List Tm) : okHead (.mk 6 nm nd ws ks) = ((okName nm || nm == (⟨#[115, 101, 114, 118, 101, 114, 115]⟩ : ByteArray)) && bare (.mk 6 nm nd ws ks)) := rfl
theorem head_ok7 (nm : ByteArray) (nd : Int) (ws : List Int) (ks : List Tm) : okHead (.mk 7 nm nd ws ks) = ((okName nm || nm == (⟨#[115, 101, 114, 118, 101, 114, 115]⟩ : ByteArray)) && bare (.mk 7 nm nd ws ks)) := rfl
theorem head_ok8 (nm : ByteArray) (nd : Int) (ws : List Int) (ks : List Tm) : okHead (.mk 8 nm nd ws ks) = ((okName nm || nm == (⟨#[115, 101, 114, 118, 101, 114, 115]⟩ : ByteArray)) && bare (.mk 8 nm nd ws ks)) := rfl
theorem head_op {op : Int} {nm : ByteArray} {nd : Int} {ws : List Int} {ks : List Tm} (h : okHead (.mk op nm nd ws ks) = true) : op = 1 ∨ op = 2 ∨ op = 3 ∨ op = 4 ∨ op = 5 ∨ op = 6 ∨ op = 7 ∨ op = 8 := by
  apply Decidable.byContradiction
  intro hn
  have e : okHead (.mk op nm nd ws ks) = false := by
    unfold okHead
    show (if op = 1 then _ else if op = 6 ∨ op = 7 ∨ op = 8 then _ else if op = 2 then _ else if op = 3 ∨ op = 4 then _ else if op = 5 then _ else false) = false
    rw [if_neg (by omega), if_neg (by omega), if_neg (by omega), if_neg (by omega), if_neg (by omega)]
  rw [e] at h; cases h
theorem pcs1 (nm : ByteArray) (nd : Int) (ws : List Int) (ks : List Tm) : tmPcs (.mk 1 nm nd ws ks) = [.word nm.data.toList] := by rw [tmPcs_eq]; rfl
theorem pcs2 (nm : ByteArray) (nd : Int) (ws : List Int) (ks : List Tm) : tmPcs (.mk 2 nm nd ws ks) = [.int nd, .sym 40] ++ joinP (weighedP ws (ks.map tmPcs)) comSep ++ [.sym 41] := by rw [tmPcs_eq]; rfl
theorem zipP {α : Type} (f : Tm → List Pc → α) (g : Tm → List Pc) (l : List Tm) : List.zipWith f l (l.map g) = l.map (fun k => f k (g k)) := by
  induction l with
  | nil => rfl
  | cons x r ih => simp [ih]
theorem pcs3 (nm : ByteArray) (nd : Int) (ws : List Int) (ks : List Tm) : tmPcs (.mk 3 nm nd ws ks) = joinP (ks.map fun k => parP [3, 4] k (tmPcs k)) andSep := by rw [tmPcs_eq]; show joinP (List.zipWith (parP [3, 4]) ks (ks.map tmPcs)) andSep = _; rw [zipP]
theorem pcs4 (nm : ByteArray) (nd : Int) (ws : List Int) (ks : List Tm) : tmPcs (.mk 4 nm nd ws ks) = joinP (ks.map fun k => parP [4] k (tmPcs k)) orSep := by rw [tmPcs_eq]; show joinP (List.zipWith (parP [4]) ks (ks.map tmPcs)) orSep = _; rw [zipP]
theorem pcs5 (nm : ByteArray) (nd : Int) (ws : List Int) (k : Tm) : tmPcs (.mk 5 nm nd ws [k]) = [.word [100, 117, 97, 108], .sym 40] ++ tmPcs k ++ [.sym 41] := by rw [tmPcs_eq]; rfl
theorem pcs6 (nm : ByteArray) (nd : Int) (ws : List Int) (ks : List Tm) : tmPcs (.mk 6 nm nd ws ks) = [.word [109, 97, 106, 111, 114, 105, 116, 121], .sym 40, .word nm.data.toList, .sym 41] := by rw [tmPcs_eq]; rfl
theorem pcs7 (nm : ByteArray) (nd : Int) (ws : List Int) (ks : List Tm) : tmPcs (.mk 7 nm nd ws ks) = [.word [97, 108, 108], .sym 40, .word nm.data.toList, .sym 41] := by rw [tmPcs_eq]; rfl
theorem pcs8 (nm : ByteArray) (nd : Int) (ws : List Int) (ks : List Tm) : tmPcs (.mk 8 nm nd ws ks) = [.word [97, 110, 121], .sym 40, .word nm.data.toList, .sym 41] := by rw [tmPcs_eq]; rfl
theorem weighedP_mem {ws : List Int} {ls : List (List Pc)} {x : List Pc} (h : x ∈ weighedP ws ls) : ∃ y ∈ ls, x = y ∨ ∃ w ∈ ws, x = y ++ [.sym 42, .int w] := by
  unfold weighedP at h
  split at h
  · exact ⟨x, h, Or.inl rfl⟩
  · obtain ⟨i, hi, rfl⟩ := List.mem_iff_getElem.1 h
    rw [List.length_zipWith] at hi
    exact ⟨ls[i], List.getElem_mem _, Or.inr ⟨ws[i], List.getElem_mem _, by simp⟩⟩
theorem tm_neat : ∀ (n : Nat) (t : Tm), tmSize t ≤ n → okTm t = true → Neat (tmPcs t) := by
  intro n
  induction n with
  | zero => intro t ht; have : 0 < tmSize t := by (cases t; rw [tmSize]; omega)
            omega
  | succ n ih =>
    intro t ht hok
    obtain ⟨h1, h2, h3⟩ := okTm_parts hok
    have hs := tmsSize_kids t
    obtain ⟨op, nm, nd, ws, ks⟩ := t
    have hk : ∀ k ∈ ks, Neat (tmPcs k) := fun k hk => ih k (by have := tm_size_mem hk; have hs : tmSize (.mk op nm nd ws ks) = 1 + nm.size + ws.length + tmsSize ks := hs; omega) (h3 k hk)
    have h2 : ∀ w ∈ ws, small w = true := h2
    rcases head_op h1 with rfl | rfl | rfl | rfl | rfl | rfl | rfl | rfl
    · rw [head_ok1, Bool.and_eq_true] at h1
      rw [pcs1]; exact neat_word (okName_lex h1.1)
    · rw [head_ok2] at h1
      simp only [Bool.and_eq_true] at h1
      rw [pcs2, List.append_assoc]
      refine Neat.intSym h1.1.1.2 (Neat.sym ?_)
      refine Neat.andSym (neat_join comSep_ok _ fun x hx => ?_) neat_sym
      obtain ⟨y, hy, hxy⟩ := weighedP_mem hx
      obtain ⟨k, hkk, rfl⟩ := List.mem_map.1 hy
      rcases hxy with rfl | ⟨w, hw, rfl⟩
      · exact hk k hkk
      · exact (hk k hkk).andSym (Neat.sym (neat_int (h2 w hw)))
    · rw [pcs3]
      refine neat_join andSep_ok _ fun x hx => ?_
      obtain ⟨k, hkk, rfl⟩ := List.mem_map.1 hx
      exact neat_par _ _ _ (hk k hkk)
    · rw [pcs4]
      refine neat_join orSep_ok _ fun x hx => ?_
      obtain ⟨k, hkk, rfl⟩ := List.mem_map.1 hx
      exact neat_par _ _ _ (hk k hkk)
    · rw [head_ok5] at h1
      simp only [Bool.and_eq_true, decide_eq_true_eq] at h1
      obtain ⟨k, rfl⟩ := List.length_eq_one_iff.1 h1.2
      rw [pcs5, List.append_assoc]
      exact Neat.wordSym (by decide) (Neat.sym ((hk k (by simp)).andSym neat_sym))
    · rw [head_ok6, Bool.and_eq_true] at h1
      rw [pcs6]; exact Neat.wordSym (by decide) (Neat.sym (Neat.wordSym (group_lex h1.1) neat_sym))
    · rw [head_ok7, Bool.and_eq_true] at h1
      rw [pcs7]; exact Neat.wordSym (by decide) (Neat.sym (Neat.wordSym (group_lex h1.1) neat_sym))
    · rw [head_ok8, Bool.and_eq_true] at h1
      rw [pcs8]; exact Neat.wordSym (by decide) (Neat.sym (Neat.wordSym (group_lex h1.1) neat_sym))
theorem tmPcs_neat {t : Tm} (h : okTm t = true) : Neat (tmPcs t) := tm_neat _ t (Nat.le_refl _) h
end Go.Proofs.YtipicaoinnblpaaGreatDoor
namespace Go.Proofs.YtipicaoinnblpaaGreatDoor

def here (L : Toks) (p : Nat) : List Tok := (L.drop p).map (·.1)
theorem here_cons {L : Toks} {p : Nat} {t : Tok} {r : List Tok} (h : here L p = t :: r) : tk L ⟨p, 0⟩ = some t ∧ here L (p + 1) = r := by
  unfold here at h ⊢
  rw [← List.tail_drop]
  cases e : L.drop p with
  | nil => rw [e] at h; simp at h
  | cons a q =>
    rw [e] at h
    simp only [List.map_cons, List.cons.injEq] at h
    refine ⟨?_, h.2⟩
    unfold tk
    rw [if_pos rfl]
    have : L[p]? = some a := by
      have := congrArg List.head? e
      rw [List.head?_drop] at this
      simpa using this
    show Option.map (·.1) L[p]? = some t
    rw [this, ← h.1]; rfl
theorem here_nil {L : Toks} {p : Nat} (h : here L p = []) : tk L ⟨p, 0⟩ = none := by
  unfold here at h
  apply tk_none_end
  show L.length ≤ p
  simpa using h
theorem here_append {L : Toks} (a : List Tok) : ∀ {p : Nat} {r : List Tok}, here L p = a ++ r → here L (p + a.length) = r := by
  induction a with
  | nil => intro p r h; exact h
  | cons t a ih =>
    intro p r h
    have := ih (here_cons (h : here L p = t :: (a ++ r))).2
    rw [List.length_cons, show p + (a.length + 1) = p + 1 + a.length by omega]; exact this
theorem here_len {L : Toks} {p : Nat} {l : List Tok} (h : here L p = l) : l.length ≤ L.length := by
  rw [← h]; unfold here; simp

/-- The next token is not the word. -/
def noW (x : ByteArray) (l : List Tok) : Prop := ∀ t r, l = t :: r → isWord x t = false
theorem isW_no {L : Toks} {p : Nat} {x : ByteArray} {l : List Tok} (h : here L p = l) (hn : noW x l) : isW L x ⟨p, 0⟩ = false := by
  unfold isW
  cases l with
  | nil => rw [here_nil h]
  | cons t r => rw [(here_cons h).1]; exact hn t r rfl
theorem isW_at_here {L : Toks} {p : Nat} {x : ByteArray} {t : Tok} {r : List Tok} (h : here L p = t :: r) : isW L x ⟨p, 0⟩ = isWord x t := by
  unfold isW; rw [(here_cons h).1]
theorem need_yes {L : Toks} {p : Nat} {x : ByteArray} {t : Tok} {r : List Tok} (h : here L p = t :: r) (ht : isWord x t = true) : need L x ⟨p, 0⟩ = ⟨p + 1, 0⟩ := by
  unfold need; rw [isW_at_here h, ht]; rfl
theorem noW_cons {x : ByteArray} {t : Tok} {r : List Tok} (h : isWord x t = false) : noW x (t :: r) := fun t' r' e => by
  have : t = t' := by simp at e; exact e.1
  subst this; exact h
/-- The words of names are no symbols and no reserved words. -/
theorem word_sym {b : List UInt8} (h : lexName b = true) {c : UInt8} (hc : c ∈ syms) : isWord ⟨#[c]⟩ (wordTok b) = false := by
  obtain ⟨d, r, rfl, hd, -, -⟩ := lexName_parts h
  have hcf := sym_facts c hc
  unfold isWord wordTok
  have : (bs (d :: r) == ⟨#[c]⟩) = false := by
    apply ba_false
    intro e
    rw [show (⟨#[c]⟩ : ByteArray) = bs [c] from rfl, bs_inj] at e
    have e1 : d = c := by simp at e; exact e.1
    subst e1
    rw [hcf.2.1] at hd; cases hd
  simp only [this, Bool.and_false]
theorem name_res {nm : ByteArray} (h : okName nm = true) : reserved nm = false := by
  unfold okName at h
  rw [Bool.and_eq_true] at h
  simpa using h.2
theorem word_res {nm : ByteArray} (h : okName nm = true) {x : ByteArray} (hx : x ∈ words) : isWord x (wordTok nm.data.toList) = false := by
  have hr := name_res h
  unfold isWord wordTok
  rw [bs_of]
  have : (nm == x) = false := by
    cases e : (nm == x)
    · rfl
    · have : reserved nm = true := List.any_eq_true.2 ⟨x, hx, e⟩
      rw [this] at hr; cases hr
  simp only [this, Bool.and_false]
theorem nameR_yes {L : Toks} {p : Nat} {nm : ByteArray} {r : List Tok} (h : here L p = wordTok nm.data.toList :: r) (ho : okName nm = true) : pName L ⟨p, 0⟩ = (nm, ⟨p + 1, 0⟩) := by
  unfold pName isName txt
  rw [(here_cons h).1]
  have : isNameTok (wordTok nm.data.toList) = true := by
    unfold isNameTok wordTok
    rw [bs_of, name_res ho]; rfl
  simp only [this, if_true]
  exact Prod.ext (bs_of nm) rfl
theorem numR_yes {L : Toks} {p : Nat} {n : Int} {r : List Tok} (h : here L p = intTok n :: r) (ho : small n = true) : pNum L ⟨p, 0⟩ = (n, ⟨p + 1, 0⟩) := by
  have hn := small_range ho
  unfold pNum isInt intAt
  rw [(here_cons h).1]
  have e1 : (intTok n).int = n.toNat := rfl
  have e2 : ((intTok n).kind == 2) = true := rfl
  simp only [e1, e2, if_true]
  rw [if_neg (by omega), Int.toNat_of_nonneg hn.1]
  rfl

/-- A part reads some tokens as a term, if what follows allows it. -/
def RdT (L : Toks) (part : St → Tm × St) (ts : List Tok) (fol : List Tok → Prop) (t : Tm) : Prop := ∀ p r, here L p = ts ++ r → fol r → part ⟨p, 0⟩ = (t, ⟨p + ts.length, 0⟩)

def joinT (l : List (List Tok)) (c : Tok) : List Tok := match l with
  | [] => []
  | x :: r => x ++ r.flatMap (c :: ·)
theorem toks_tail (r : List (List Pc)) (sep : List Pc) (c : Tok) (h : toksOf sep = [c]) : toksOf (r.flatMap (sep ++ ·)) = (r.map toksOf).flatMap (c :: ·) := by
  induction r with
  | nil => rfl
  | cons x r ih =>
    rw [List.flatMap_cons, toksOf_append, ih, toksOf_append, h]
    simp
theorem toks_join (l : List (List Pc)) (sep : List Pc) (c : Tok) (h : toksOf sep = [c]) : toksOf (joinP l sep) = joinT (l.map toksOf) c := by
  cases l with
  | nil => rfl
  | cons x r => rw [joinP, toksOf_append, toks_tail r sep c h]; rfl

theorem flat_len (c : Tok) (ks : List (List Tok)) : ks.length ≤ (ks.flatMap (c :: ·)).length := by
  induction ks with
  | nil => simp
  | cons k r ih => simp only [List.flatMap_cons, List.length_append, List.length_cons] at ih ⊢; omega
theorem joinGo_reads {L : Toks} {x : ByteArray} {part : St → Tm × St} {fol : List Tok → Prop} {c : Tok} (hx : isWord x c = true) (hfol : ∀ r, fol (c :: r)) (ks : List (List Tok × Tm)) (h : ∀ k ∈ ks, RdT L part k.1 fol k.2) :
    ∀ (f : Nat) (acc : List Tm) (p : Nat) (r : List Tok), ks.length ≤ f → here L p = (ks.map (·.1)).flatMap (c :: ·) ++ r → fol r → noW x r →
      joinGo L x part f acc ⟨p, 0⟩ = (acc ++ ks.map (·.2), ⟨p + ((ks.map (·.1)).flatMap (c :: ·)).length, 0⟩) := by
  induction ks with
  | nil =>
    intro f acc p r hf hh hr hn
    have hw : isW L x ⟨p, 0⟩ = false := isW_no (l := r) hh hn
    cases f with
    | zero => simp [joinGo]
    | succ f => rw [joinGo, hw]; simp
  | cons k ks ih =>
    intro f acc p r hf hh hr hn
    cases f with
    | zero => simp at hf
    | succ f =>
      have hh1 : here L p = c :: (k.1 ++ ((ks.map (·.1)).flatMap (c :: ·) ++ r)) := by rw [hh]; simp
      have hw : isW L x ⟨p, 0⟩ = true := by rw [isW_at_here hh1]; exact hx
      have hh2 := (here_cons hh1).2
      have hfk : fol ((ks.map (·.1)).flatMap (c :: ·) ++ r) := by
        cases ks with
        | nil => exact hr
        | cons k2 ks => exact hfol _
      have hp := h k (by simp) (p + 1) _ hh2 hfk
      have hh3 := here_append k.1 hh2
      rw [joinGo, hw, if_pos rfl, show adv ⟨p, 0⟩ = ⟨p + 1, 0⟩ from rfl, hp]
      rw [ih (fun q hq => h q (by simp [hq])) f _ _ r (by simpa using hf) hh3 hr hn]
      simp only [List.map_cons, List.flatMap_cons, List.length_append, List.length_cons, List.append_assoc, List.singleton_append]
      refine Prod.ext rfl ?_
      show (⟨_, 0⟩ : St) = ⟨_, 0⟩
      congr 1; omega
theorem join_reads {L : Toks} {op : Int} {x : ByteArray} {part : St → Tm × St} {fol : List Tok → Prop} {c : Tok} (hx : isWord x c = true) (hfol : ∀ r, fol (c :: r)) (k : List Tok × Tm) (ks : List (List Tok × Tm)) (h : ∀ q ∈ k :: ks, RdT L part q.1 fol q.2) :
    RdT L (pJoin L op x part) (joinT ((k :: ks).map (·.1)) c) (fun r => fol r ∧ noW x r) (joinTm op ((k :: ks).map (·.2))) := by
  intro p r hh hr
  have hh1 : here L p = k.1 ++ ((ks.map (·.1)).flatMap (c :: ·) ++ r) := by rw [hh]; simp [joinT]
  have hfk : fol ((ks.map (·.1)).flatMap (c :: ·) ++ r) := by
    cases ks with
    | nil => exact hr.1
    | cons k2 ks => exact hfol _
  have hp := h k (by simp) p _ hh1 hfk
  have hh2 := here_append k.1 hh1
  have hlen : ks.length ≤ L.length := by
    have a := here_len hh2
    have b := flat_len c (ks.map (·.1))
    simp only [List.length_append, List.length_map] at a b
    omega
  have hg := joinGo_reads hx hfol ks (fun q hq => h q (by simp [hq])) L.length [k.2] _ r hlen hh2 hr.1 hr.2
  unfold pJoin
  rw [hp]
  simp only
  rw [hg]
  refine Prod.ext rfl ?_
  show (⟨_, 0⟩ : St) = ⟨_, 0⟩
  simp only [joinT, List.map_cons, List.length_append]
  congr 1; omega

def tt (t : Tm) : List Tok := toksOf (tmPcs t)
def folAnd (r : List Tok) : Prop := noW (⟨#[38]⟩ : ByteArray) r
def folOr (r : List Tok) : Prop := noW (⟨#[38]⟩ : ByteArray) r ∧ noW (⟨#[124]⟩ : ByteArray) r
def lp : Tok := symTok 40
def rp : Tok := symTok 41
def comma : Tok := symTok 44
def star : Tok := symTok 42
theorem folOr_rp (r : List Tok) : folOr (rp :: r) := ⟨noW_cons (by decide), noW_cons (by decide)⟩

theorem par_reads {L : Toks} {pt : St → Tm × St} {ts : List Tok} {t : Tm} (h : RdT L pt ts folOr t) : RdT L (pFactor L pt) (lp :: (ts ++ [rp])) (fun _ => True) t := by
  intro p r hh _
  have hh1 : here L p = lp :: (ts ++ (rp :: r)) := by rw [hh]; simp
  have hh2 := (here_cons hh1).2
  have hp := h (p + 1) _ hh2 (folOr_rp r)
  have hh3 := here_append ts hh2
  have hi : isInt L ⟨p, 0⟩ = false := by unfold isInt; rw [(here_cons hh1).1]; rfl
  have hw : isW L (⟨#[40]⟩ : ByteArray) ⟨p, 0⟩ = true := by rw [isW_at_here hh1]; decide
  unfold pFactor
  rw [hi, hw]
  simp only [Bool.false_eq_true, if_false, if_true]
  rw [show adv ⟨p, 0⟩ = ⟨p + 1, 0⟩ from rfl, hp]
  simp only
  rw [need_yes hh3 (by decide)]
  refine Prod.ext rfl ?_
  show (⟨_, 0⟩ : St) = ⟨_, 0⟩
  simp only [List.length_cons, List.length_append, List.length_nil]
  congr 1; omega

/-- One element of a threshold. -/
structure El where
  ts : List Tok
  t : Tm
  w : Int
  hv : Bool
def folT (r : List Tok) : Prop := folOr r ∧ noW (⟨#[42]⟩ : ByteArray) r
def BodyR (L : Toks) (pt : St → Tm × St) (e : El) : Prop := ∀ (q : Thr) p r, here L p = e.ts ++ r → folT r → thrBody L pt q ⟨p, 0⟩ = (⟨q.kids ++ [e.t], q.ws ++ [e.w], q.heavy || e.hv⟩, ⟨p + e.ts.length, 0⟩)
theorem folT_comma (r : List Tok) : folT (comma :: r) := ⟨⟨noW_cons (by decide), noW_cons (by decide)⟩, noW_cons (by decide)⟩
theorem folT_rp (r : List Tok) : folT (rp :: r) := ⟨folOr_rp r, noW_cons (by decide)⟩
theorem body_plain {L : Toks} {pt : St → Tm × St} {ts : List Tok} {t : Tm} (h : RdT L pt ts folOr t) : BodyR L pt ⟨ts, t, 1, false⟩ := by
  intro q p r hh hf
  have hp := h p r hh hf.1
  have hw := isW_no (here_append ts hh) hf.2
  unfold thrBody
  rw [hp]
  simp only
  rw [hw]
  simp
theorem body_heavy {L : Toks} {pt : St → Tm × St} {ts : List Tok} {t : Tm} {w : Int} (h : RdT L pt ts folOr t) (hw : small w = true) : BodyR L pt ⟨ts ++ [star, intTok w], t, w, true⟩ := by
  intro q p r hh hf
  have hh1 : here L p = ts ++ (star :: intTok w :: r) := by rw [hh]; simp
  have hp := h p _ hh1 ⟨noW_cons (by decide), noW_cons (by decide)⟩
  have hh2 := here_append ts hh1
  have hs : isW L (⟨#[42]⟩ : ByteArray) ⟨p + ts.length, 0⟩ = true := by rw [isW_at_here hh2]; decide
  have hn := numR_yes (here_cons hh2).2 hw
  unfold thrBody
  rw [hp]
  simp only
  rw [hs, if_pos rfl, show adv ⟨p + ts.length, 0⟩ = ⟨p + ts.length + 1, 0⟩ from rfl, hn]
  simp only [Bool.or_true, List.length_append, List.length_cons, List.length_nil]
  refine Prod.ext rfl ?_
  show (⟨_, 0⟩ : St) = ⟨_, 0⟩
  congr 1
theorem thrGo_reads {L : Toks} {pt : St → Tm × St} (es : List El) : ∀ (e : El), (∀ q ∈ e :: es, BodyR L pt q) →
    ∀ (f : Nat) (q : Thr) (p : Nat) (r : List Tok), es.length + 1 ≤ f → here L p = joinT ((e :: es).map (·.ts)) comma ++ r → folT r → noW (⟨#[44]⟩ : ByteArray) r →
      thrGo L pt f q ⟨p, 0⟩ = (⟨q.kids ++ (e :: es).map (·.t), q.ws ++ (e :: es).map (·.w), q.heavy || (e :: es).any (·.hv)⟩, ⟨p + (joinT ((e :: es).map (·.ts)) comma).length, 0⟩) := by
  induction es with
  | nil =>
    intro e h f q p r hf hh hr hn
    cases f with
    | zero => omega
    | succ f =>
      have hh1 : here L p = e.ts ++ r := by rw [hh]; simp [joinT]
      have hb := h e (by simp) q p r hh1 hr
      have hw := isW_no (here_append e.ts hh1) hn
      rw [thrGo, if_pos rfl, hb]
      simp only
      rw [hw]
      simp [joinT]
  | cons e2 es ih =>
    intro e h f q p r hf hh hr hn
    cases f with
    | zero => omega
    | succ f =>
      have hh1 : here L p = e.ts ++ (comma :: (joinT ((e2 :: es).map (·.ts)) comma ++ r)) := by rw [hh]; simp [joinT]
      have hb := h e (by simp) q p _ hh1 (folT_comma _)
      have hh2 := here_append e.ts hh1
      have hw : isW L (⟨#[44]⟩ : ByteArray) ⟨p + e.ts.length, 0⟩ = true := by rw [isW_at_here hh2]; decide
      have hg := ih e2 (fun q hq => h q (by simp only [List.mem_cons] at hq ⊢; exact Or.inr hq)) f ⟨q.kids ++ [e.t], q.ws ++ [e.w], q.heavy || e.hv⟩ _ r (by simp at hf; omega) (here_cons hh2).2 hr hn
      rw [thrGo, if_pos rfl, hb]
      simp only
      rw [hw, if_pos rfl, show adv ⟨p + e.ts.length, 0⟩ = ⟨p + e.ts.length + 1, 0⟩ from rfl, hg]
      simp only [List.map_cons, List.any_cons, List.append_assoc, List.singleton_append, Bool.or_assoc, joinT, List.flatMap_cons, List.length_append, List.length_cons]
      refine Prod.ext rfl ?_
      show (⟨_, 0⟩ : St) = ⟨_, 0⟩
      congr 1; omega
theorem thr_reads {L : Toks} {pt : St → Tm × St} {n : Int} (hn : small n = true) (e : El) (es : List El) (h : ∀ q ∈ e :: es, BodyR L pt q) :
    RdT L (pFactor L pt) ([intTok n, lp] ++ joinT ((e :: es).map (·.ts)) comma ++ [rp]) (fun _ => True) (.mk 2 (bs []) n (if (e :: es).any (·.hv) then (e :: es).map (·.w) else []) ((e :: es).map (·.t))) := by
  intro p r hh _
  have hh1 : here L p = intTok n :: lp :: (joinT ((e :: es).map (·.ts)) comma ++ (rp :: r)) := by rw [hh]; simp
  have hi : isInt L ⟨p, 0⟩ = true := by unfold isInt; rw [(here_cons hh1).1]; rfl
  have hh2 := (here_cons hh1).2
  have hnm := numR_yes hh1 hn
  have hh3 := (here_cons hh2).2
  have hfuel : es.length + 1 ≤ L.length + 1 := by
    have a := here_len hh3
    have b := flat_len comma (es.map (·.ts))
    simp only [joinT, List.map_cons, List.length_append, List.length_map] at a b
    omega
  have hg := thrGo_reads es e h (L.length + 1) ⟨[], [], false⟩ (p + 1 + 1) (rp :: r) hfuel hh3 (folT_rp r) (noW_cons (by decide))
  have hh4 := here_append _ hh3
  unfold pFactor
  rw [hi, if_pos rfl]
  unfold pThr
  rw [hnm]
  simp only
  rw [need_yes hh2 (by decide), hg]
  simp only [List.nil_append, Bool.false_or]
  rw [need_yes hh4 (by decide)]
  refine Prod.ext rfl ?_
  show (⟨_, 0⟩ : St) = ⟨_, 0⟩
  simp only [List.length_append, List.length_cons, List.length_nil]
  congr 1; omega

/-- A word of a function ahead of a parenthesis. -/
theorem fun_facts {L : Toks} {p : Nat} {b : List UInt8} {r : List Tok} (h : here L p = wordTok b :: r) (hb : lexName b = true) (hf : (funOp (bs b) != 0) = true) :
    isInt L ⟨p, 0⟩ = false ∧ isW L (⟨#[40]⟩ : ByteArray) ⟨p, 0⟩ = false ∧ isFun L ⟨p, 0⟩ = true ∧ txt L ⟨p, 0⟩ = bs b := by
  refine ⟨?_, ?_, ?_, ?_⟩
  · unfold isInt; rw [(here_cons h).1]; rfl
  · rw [isW_at_here h]; exact word_sym hb (by decide)
  · unfold isFun; rw [(here_cons h).1]
    show ((1 : Nat) == 1 && funOp (bs b) != 0) = true
    rw [hf]; rfl
  · unfold txt; rw [(here_cons h).1]; rfl
theorem dual_reads {L : Toks} {pt : St → Tm × St} {ts : List Tok} {t : Tm} (h : RdT L pt ts folOr t) : RdT L (pFactor L pt) ([wordTok [100, 117, 97, 108], lp] ++ ts ++ [rp]) (fun _ => True) (.mk 5 (bs []) 0 [] [t]) := by
  intro p r hh _
  have hh1 : here L p = wordTok [100, 117, 97, 108] :: lp :: (ts ++ (rp :: r)) := by rw [hh]; simp
  obtain ⟨f1, f2, f3, f4⟩ := fun_facts hh1 (by decide) (by decide)
  have hh2 := (here_cons hh1).2
  have hh3 := (here_cons hh2).2
  have hp := h _ _ hh3 (folOr_rp r)
  have hh4 := here_append ts hh3
  unfold pFactor
  rw [f1, f2, f3, f4]
  simp only [Bool.false_eq_true, if_false, if_true]
  rw [if_pos (by decide), show adv ⟨p, 0⟩ = ⟨p + 1, 0⟩ from rfl, need_yes hh2 (by decide), hp]
  simp only
  rw [need_yes hh4 (by decide)]
  refine Prod.ext rfl ?_
  show (⟨_, 0⟩ : St) = ⟨_, 0⟩
  simp only [List.length_append, List.length_cons, List.length_nil]
  congr 1; omega
theorem group_reads {L : Toks} {pt : St → Tm × St} {b : List UInt8} {nm : ByteArray} (hb : lexName b = true) {k : Nat} (hk : funOp (bs b) = k) (h0 : k ≠ 0) (h5 : k ≠ 5) (hn : (okName nm || nm == (⟨#[115, 101, 114, 118, 101, 114, 115]⟩ : ByteArray)) = true) :
    RdT L (pFactor L pt) [wordTok b, lp, wordTok nm.data.toList, rp] (fun _ => True) (.mk k nm 0 [] []) := by
  intro p r hh _
  have hh1 : here L p = wordTok b :: lp :: wordTok nm.data.toList :: rp :: r := by rw [hh]; simp
  obtain ⟨f1, f2, f3, f4⟩ := fun_facts hh1 hb (by rw [hk]; simp [h0])
  have hh2 := (here_cons hh1).2
  have hh3 := (here_cons hh2).2
  have hh4 := (here_cons hh3).2
  have hg : pGroup L ⟨p + 1 + 1, 0⟩ = (nm, ⟨p + 1 + 1 + 1, 0⟩) := by
    unfold pGroup
    rw [isW_at_here hh3]
    by_cases hs : nm = (⟨#[115, 101, 114, 118, 101, 114, 115]⟩ : ByteArray)
    · subst hs; rw [show isWord (⟨#[115, 101, 114, 118, 101, 114, 115]⟩ : ByteArray) (wordTok ((⟨#[115, 101, 114, 118, 101, 114, 115]⟩ : ByteArray)).data.toList) = true by decide, if_pos rfl]; rfl
    · rw [ba_false hs, Bool.or_false] at hn
      rw [word_res hn (by simp [words]), if_neg (by simp)]
      exact nameR_yes hh3 hn
  unfold pFactor
  rw [f1, f2, f3, f4]
  simp only [Bool.false_eq_true, if_false, if_true]
  rw [hk, if_neg h5, show adv ⟨p, 0⟩ = ⟨p + 1, 0⟩ from rfl, need_yes hh2 (by decide), hg]
  simp only
  rw [need_yes hh4 (by decide)]
  rfl
theorem named_reads {L : Toks} {pt : St → Tm × St} {nm : ByteArray} (hn : okName nm = true) : RdT L (pFactor L pt) [wordTok nm.data.toList] (fun _ => True) (.mk 1 nm 0 [] []) := by
  intro p r hh _
  have hh1 : here L p = wordTok nm.data.toList :: r := hh
  have hi : isInt L ⟨p, 0⟩ = false := by unfold isInt; rw [(here_cons hh1).1]; rfl
  have hw : isW L (⟨#[40]⟩ : ByteArray) ⟨p, 0⟩ = false := by rw [isW_at_here hh1]; exact word_sym (okName_lex hn) (by decide)
  have hf : isFun L ⟨p, 0⟩ = false := by
    unfold isFun
    rw [(here_cons hh1).1]
    show ((1 : Nat) == 1 && funOp (bs nm.data.toList) != 0) = false
    rw [bs_of]
    have hr := name_res hn
    have hne : ∀ x ∈ words, (nm == x) = false := fun x hx => by
      cases e : (nm == x)
      · rfl
      · have : reserved nm = true := List.any_eq_true.2 ⟨x, hx, e⟩
        rw [this] at hr; cases hr
    unfold funOp
    rw [hne _ (by simp [words]), hne _ (by simp [words]), hne _ (by simp [words]), hne _ (by simp [words])]
    rfl
  unfold pFactor
  rw [hi, hw, hf]
  simp only [Bool.false_eq_true, if_false]
  rw [nameR_yes hh1 hn]; rfl

theorem bare_parts {op : Int} {nm : ByteArray} {nd : Int} {ws : List Int} {ks : List Tm} (h : bare (.mk op nm nd ws ks) = true) : nd = 0 ∧ ws = [] ∧ ks = [] := by
  have e : bare (.mk op nm nd ws ks) = (decide (nd = 0) && decide (ws.length + ks.length = 0)) := rfl
  rw [e] at h
  simp only [Bool.and_eq_true, decide_eq_true_eq] at h
  exact ⟨h.1, List.length_eq_zero_iff.1 (by omega), List.length_eq_zero_iff.1 (by omega)⟩
theorem joinTm_more (op : Int) (l : List Tm) (h : 2 ≤ l.length) : joinTm op l = .mk op (bs []) 0 [] l := by
  match l with
  | [] => simp at h
  | [t] => simp at h
  | a :: b :: r => rfl
theorem size_nil {x : ByteArray} (h : x.size = 0) : x = bs [] := by
  rw [← bs_of x]
  have : x.data.toList.length = 0 := by simpa using h
  rw [List.length_eq_zero_iff.1 this]
theorem depth_kid {t k : Tm} (h : k ∈ t.kids) : tmDepth k + 1 ≤ tmDepth t := by
  cases t with
  | mk op nm nd ws ks =>
    rw [tmDepth]
    have : ∀ (l : List Tm), k ∈ l → tmDepth k ≤ tmsDepth l := by
      intro l
      induction l with
      | nil => intro h; simp at h
      | cons a r ih =>
        intro h
        rw [tmsDepth]
        rcases List.mem_cons.1 h with rfl | h
        · omega
        · have := ih h; omega
    have := this ks h
    omega
theorem depth_pos (t : Tm) : 1 ≤ tmDepth t := by cases t; rw [tmDepth]; omega

/-- A term is read at all levels. -/
structure AllR (L : Toks) (t : Tm) : Prop where
  fac : ∀ g, tmDepth t ≤ g + 1 → t.op ≠ 3 → t.op ≠ 4 → RdT L (pFactor L (pTermN L g)) (tt t) (fun _ => True) t
  con : ∀ g, tmDepth t ≤ g + 1 → t.op ≠ 4 → RdT L (pConj L (pTermN L g)) (tt t) folAnd t
  trm : ∀ g, tmDepth t ≤ g → RdT L (pTermN L g) (tt t) folOr t

theorem RdT.mono {L : Toks} {part : St → Tm × St} {ts : List Tok} {fol fol' : List Tok → Prop} {t : Tm} (h : RdT L part ts fol t) (hf : ∀ r, fol' r → fol r) : RdT L part ts fol' t := fun p r hh hr => h p r hh (hf r hr)
theorem one_reads {L : Toks} {op : Int} {x : ByteArray} {part : St → Tm × St} {fol : List Tok → Prop} {ts : List Tok} {t : Tm} (h : RdT L part ts fol t) : RdT L (pJoin L op x part) ts (fun r => fol r ∧ noW x r) t := by
  intro p r hh hr
  have hp := h p r hh hr.1
  have hw := isW_no (here_append ts hh) hr.2
  unfold pJoin
  rw [hp]
  simp only
  have : joinGo L x part L.length [t] ⟨p + ts.length, 0⟩ = ([t], ⟨p + ts.length, 0⟩) := by
    cases L.length with
    | zero => rfl
    | succ n => rw [joinGo, hw]; rfl
  rw [this]; rfl
theorem tt_par_yes {ops : List Int} {k : Tm} (h : ops.contains k.op = true) : toksOf (parP ops k (tmPcs k)) = lp :: (tt k ++ [rp]) := by
  unfold parP; rw [h, if_pos rfl, toksOf_append, toksOf_append]; rfl
theorem tt_par_no {ops : List Int} {k : Tm} (h : ops.contains k.op = false) : toksOf (parP ops k (tmPcs k)) = tt k := by
  unfold parP; rw [h]; rfl

theorem all_reads (L : Toks) : ∀ (n : Nat) (t : Tm), tmSize t ≤ n → okTm t = true → AllR L t := by
  intro n
  induction n with
  | zero => intro t ht; have : 0 < tmSize t := by (cases t; rw [tmSize]; omega)
            omega
  | succ n ih =>
    intro t ht hok
    obtain ⟨h1, h2, h3⟩ := okTm_parts hok
    have hs := tmsSize_kids t
    have hk : ∀ k ∈ t.kids, AllR L k := fun k hk => ih k (by have := tm_size_mem hk; omega) (h3 k hk)
    have hd : ∀ k ∈ t.kids, tmDepth k + 1 ≤ tmDepth t := fun k hk => depth_kid hk
    clear ih hs ht
    have fac : ∀ g, tmDepth t ≤ g + 1 → t.op ≠ 3 → t.op ≠ 4 → RdT L (pFactor L (pTermN L g)) (tt t) (fun _ => True) t := by
      intro g hg n3 n4
      obtain ⟨op, nm, nd, ws, ks⟩ := t
      have hk : ∀ k ∈ ks, AllR L k := hk
      have hd : ∀ k ∈ ks, tmDepth k + 1 ≤ tmDepth (.mk op nm nd ws ks) := hd
      have h2 : ∀ w ∈ ws, small w = true := h2
      have n3 : op ≠ 3 := n3
      have n4 : op ≠ 4 := n4
      unfold tt
      rcases head_op h1 with rfl | rfl | rfl | rfl | rfl | rfl | rfl | rfl
      · rw [head_ok1, Bool.and_eq_true] at h1
        obtain ⟨rfl, rfl, rfl⟩ := bare_parts h1.2
        rw [pcs1]; exact named_reads h1.1
      · rw [head_ok2] at h1
        simp only [Bool.and_eq_true, Bool.or_eq_true, decide_eq_true_eq] at h1
        obtain ⟨⟨⟨hnm, hnd⟩, hk0⟩, hww⟩ := h1
        obtain rfl := size_nil hnm
        have hrd : ∀ k ∈ ks, RdT L (pTermN L g) (tt k) folOr k := fun k hk' => (hk k hk').trm g (by have := hd k hk'; omega)
        have etoks : ∀ (ls : List (List Pc)), toksOf ([.int nd, .sym 40] ++ joinP ls comSep ++ [.sym 41]) = [intTok nd, lp] ++ joinT (ls.map toksOf) comma ++ [rp] := by
          intro ls
          rw [toksOf_append, toksOf_append, toks_join ls comSep comma rfl]; rfl
        rw [pcs2, etoks]
        obtain ⟨k0, kr, rfl⟩ : ∃ k0 kr, ks = k0 :: kr := by
          cases ks with
          | nil => simp at hk0
          | cons a b => exact ⟨a, b, rfl⟩
        by_cases hw0 : ws.length = 0
        · obtain rfl : ws = [] := List.length_eq_zero_iff.1 hw0
          have e1 : weighedP [] ((k0 :: kr).map tmPcs) = (k0 :: kr).map tmPcs := rfl
          have key := thr_reads (L := L) (pt := pTermN L g) hnd ⟨tt k0, k0, 1, false⟩ (kr.map fun k => ⟨tt k, k, 1, false⟩) (by
            intro q hq
            rcases List.mem_cons.1 hq with rfl | hq
            · exact body_plain (hrd k0 (by simp))
            · obtain ⟨k, hk', rfl⟩ := List.mem_map.1 hq
              exact body_plain (hrd k (by simp [hk'])))
          have ea : ((⟨tt k0, k0, 1, false⟩ : El) :: kr.map fun k => (⟨tt k, k, 1, false⟩ : El)).any (·.hv) = false := by
            rw [List.any_eq_false]
            intro q hq
            rcases List.mem_cons.1 hq with rfl | hq
            · simp
            · obtain ⟨k, -, rfl⟩ := List.mem_map.1 hq; simp
          rw [ea] at key
          have et : ((⟨tt k0, k0, 1, false⟩ : El) :: kr.map fun k => (⟨tt k, k, 1, false⟩ : El)).map (·.t) = k0 :: kr := by simp [List.map_map, Function.comp_def]
          have es : ((⟨tt k0, k0, 1, false⟩ : El) :: kr.map fun k => (⟨tt k, k, 1, false⟩ : El)).map (·.ts) = ((k0 :: kr).map tmPcs).map toksOf := by simp [List.map_map, Function.comp_def, tt]
          rw [et, es] at key
          rw [e1]; exact key
        · have hwl : ws.length = (k0 :: kr).length := by rcases hww with h | h
                                                         · exact absurd h hw0
                                                         · exact h
          obtain ⟨w0, wr, rfl⟩ : ∃ w0 wr, ws = w0 :: wr := by
            cases ws with
            | nil => simp at hw0
            | cons a b => exact ⟨a, b, rfl⟩
          have hwr : wr.length = kr.length := by simpa using hwl
          have e1 : weighedP (w0 :: wr) ((k0 :: kr).map tmPcs) = List.zipWith (fun x w => x ++ [Pc.sym 42, Pc.int w]) ((k0 :: kr).map tmPcs) (w0 :: wr) := by unfold weighedP; rw [if_neg hw0]
          have key := thr_reads (L := L) (pt := pTermN L g) hnd ⟨tt k0 ++ [star, intTok w0], k0, w0, true⟩ (List.zipWith (fun k w => ⟨tt k ++ [star, intTok w], k, w, true⟩) kr wr) (by
            intro q hq
            rcases List.mem_cons.1 hq with rfl | hq
            · exact body_heavy (hrd k0 (by simp)) (h2 w0 List.mem_cons_self)
            · obtain ⟨i, hi, rfl⟩ := List.mem_iff_getElem.1 hq
              rw [List.length_zipWith] at hi
              rw [List.getElem_zipWith]
              exact body_heavy (hrd _ (by simp)) (h2 _ (List.mem_cons_of_mem _ (List.getElem_mem _))))
          have zt : ∀ (a : List Tm) (b : List Int), b.length = a.length → (List.zipWith (fun k w => (⟨tt k ++ [star, intTok w], k, w, true⟩ : El)) a b).map (·.t) = a := by
            intro a
            induction a with
            | nil => intro b _; simp
            | cons x r ih => intro b hb; cases b with
              | nil => simp at hb
              | cons y s => simp only [List.length_cons, Nat.add_right_cancel_iff] at hb; rw [List.zipWith_cons_cons, List.map_cons, ih s hb]
          have zw : ∀ (a : List Tm) (b : List Int), b.length = a.length → (List.zipWith (fun k w => (⟨tt k ++ [star, intTok w], k, w, true⟩ : El)) a b).map (·.w) = b := by
            intro a
            induction a with
            | nil => intro b hb; simp at hb; simp [hb]
            | cons x r ih => intro b hb; cases b with
              | nil => simp at hb
              | cons y s => simp only [List.length_cons, Nat.add_right_cancel_iff] at hb; rw [List.zipWith_cons_cons, List.map_cons, ih s hb]
          have zs : ∀ (a : List Tm) (b : List Int), (List.zipWith (fun k w => (⟨tt k ++ [star, intTok w], k, w, true⟩ : El)) a b).map (·.ts) = (List.zipWith (fun x w => x ++ [Pc.sym 42, Pc.int w]) (a.map tmPcs) b).map toksOf := by
            intro a
            induction a with
            | nil => intro b; simp
            | cons x r ih => intro b; cases b with
              | nil => simp
              | cons y s =>
                simp only [List.zipWith_cons_cons, List.map_cons]
                rw [ih s, toksOf_append]; rfl
          have c0 : (⟨tt k0 ++ [star, intTok w0], k0, w0, true⟩ : El) :: List.zipWith (fun k w => (⟨tt k ++ [star, intTok w], k, w, true⟩ : El)) kr wr = List.zipWith (fun k w => (⟨tt k ++ [star, intTok w], k, w, true⟩ : El)) (k0 :: kr) (w0 :: wr) := rfl
          have ea : ((⟨tt k0 ++ [star, intTok w0], k0, w0, true⟩ : El) :: List.zipWith (fun k w => (⟨tt k ++ [star, intTok w], k, w, true⟩ : El)) kr wr).any (·.hv) = true := rfl
          rw [ea, if_pos rfl, c0, zt _ _ hwl, zw _ _ hwl, zs] at key
          rw [e1]; exact key
      · exact absurd rfl n3
      · exact absurd rfl n4
      · rw [head_ok5] at h1
        simp only [Bool.and_eq_true, decide_eq_true_eq] at h1
        obtain ⟨⟨⟨hnm, hnd⟩, hw⟩, hkl⟩ := h1
        obtain rfl := size_nil hnm
        subst hnd
        obtain rfl : ws = [] := List.length_eq_zero_iff.1 hw
        obtain ⟨k, rfl⟩ := List.length_eq_one_iff.1 hkl
        rw [pcs5, toksOf_append, toksOf_append]
        exact dual_reads ((hk k List.mem_cons_self).trm g (by have := hd k List.mem_cons_self; omega))
      · rw [head_ok6, Bool.and_eq_true] at h1
        obtain ⟨rfl, rfl, rfl⟩ := bare_parts h1.2
        rw [pcs6]; exact group_reads (k := 6) (by decide) (by decide) (by decide) (by decide) h1.1
      · rw [head_ok7, Bool.and_eq_true] at h1
        obtain ⟨rfl, rfl, rfl⟩ := bare_parts h1.2
        rw [pcs7]; exact group_reads (k := 7) (by decide) (by decide) (by decide) (by decide) h1.1
      · rw [head_ok8, Bool.and_eq_true] at h1
        obtain ⟨rfl, rfl, rfl⟩ := bare_parts h1.2
        rw [pcs8]; exact group_reads (k := 8) (by decide) (by decide) (by decide) (by decide) h1.1
    have con : ∀ g, tmDepth t ≤ g + 1 → t.op ≠ 4 → RdT L (pConj L (pTermN L g)) (tt t) folAnd t := by
      intro g hg n4
      by_cases n3 : t.op = 3
      · obtain ⟨op, nm, nd, ws, ks⟩ := t
        have hk : ∀ k ∈ ks, AllR L k := hk
        have hd : ∀ k ∈ ks, tmDepth k + 1 ≤ tmDepth (.mk op nm nd ws ks) := hd
        obtain rfl : op = 3 := n3
        rw [head_ok3] at h1
        simp only [Bool.and_eq_true, decide_eq_true_eq] at h1
        obtain ⟨⟨⟨hnm, hnd⟩, hw⟩, hkl⟩ := h1
        obtain rfl := size_nil hnm
        subst hnd
        obtain rfl : ws = [] := List.length_eq_zero_iff.1 hw
        have hpart : ∀ k ∈ ks, RdT L (pFactor L (pTermN L g)) (toksOf (parP [3, 4] k (tmPcs k))) (fun _ => True) k := by
          intro k hk'
          have hdk := hd k hk'
          cases hc : ([3, 4] : List Int).contains k.op
          · rw [tt_par_no hc]
            have : k.op ≠ 3 ∧ k.op ≠ 4 := by simpa using hc
            exact (hk k hk').fac g (by omega) this.1 this.2
          · rw [tt_par_yes hc]
            exact par_reads ((hk k hk').trm g (by omega))
        obtain ⟨k0, kr, rfl⟩ : ∃ k0 kr, ks = k0 :: kr := by
          cases ks with
          | nil => simp at hkl
          | cons a b => exact ⟨a, b, rfl⟩
        unfold tt
        rw [pcs3, toks_join _ andSep (symTok 38) rfl]
        have key := join_reads (L := L) (op := 3) (x := (⟨#[38]⟩ : ByteArray)) (part := pFactor L (pTermN L g)) (fol := fun _ => True) (c := symTok 38) (by decide) (fun _ => trivial) (toksOf (parP [3, 4] k0 (tmPcs k0)), k0) (kr.map fun k => (toksOf (parP [3, 4] k (tmPcs k)), k)) (by
          intro q hq
          rcases List.mem_cons.1 hq with rfl | hq
          · exact hpart k0 (by simp)
          · obtain ⟨k, hk', rfl⟩ := List.mem_map.1 hq
            exact hpart k (by simp [hk']))
        have e1 : ((toksOf (parP [3, 4] k0 (tmPcs k0)), k0) :: kr.map fun k => (toksOf (parP [3, 4] k (tmPcs k)), k)).map (·.1) = ((k0 :: kr).map fun k => parP [3, 4] k (tmPcs k)).map toksOf := by simp [List.map_map, Function.comp_def]
        have e2 : ((toksOf (parP [3, 4] k0 (tmPcs k0)), k0) :: kr.map fun k => (toksOf (parP [3, 4] k (tmPcs k)), k)).map (·.2) = k0 :: kr := by simp [List.map_map, Function.comp_def]
        rw [e1, e2, joinTm_more 3 _ hkl] at key
        exact key.mono fun r hr => ⟨trivial, hr⟩
      · exact (one_reads (fac g hg n3 n4)).mono fun r hr => ⟨trivial, hr⟩
    refine ⟨fac, con, ?_⟩
    intro g hg
    obtain ⟨g, rfl⟩ : ∃ q, g = q + 1 := ⟨g - 1, by have := depth_pos t; omega⟩
    show RdT L (pOr L (pTermN L g)) (tt t) folOr t
    by_cases n4 : t.op = 4
    · obtain ⟨op, nm, nd, ws, ks⟩ := t
      have hk : ∀ k ∈ ks, AllR L k := hk
      have hd : ∀ k ∈ ks, tmDepth k + 1 ≤ tmDepth (.mk op nm nd ws ks) := hd
      obtain rfl : op = 4 := n4
      rw [head_ok4] at h1
      simp only [Bool.and_eq_true, decide_eq_true_eq] at h1
      obtain ⟨⟨⟨hnm, hnd⟩, hw⟩, hkl⟩ := h1
      obtain rfl := size_nil hnm
      subst hnd
      obtain rfl : ws = [] := List.length_eq_zero_iff.1 hw
      have hpart : ∀ k ∈ ks, RdT L (pConj L (pTermN L g)) (toksOf (parP [4] k (tmPcs k))) folAnd k := by
        intro k hk'
        have hdk := hd k hk'
        cases hc : ([4] : List Int).contains k.op
        · rw [tt_par_no hc]
          have : k.op ≠ 4 := by simpa using hc
          exact (hk k hk').con g (by omega) this
        · rw [tt_par_yes hc]
          exact (one_reads (par_reads ((hk k hk').trm g (by omega)))).mono fun r hr => ⟨trivial, hr⟩
      obtain ⟨k0, kr, rfl⟩ : ∃ k0 kr, ks = k0 :: kr := by
        cases ks with
        | nil => simp at hkl
        | cons a b => exact ⟨a, b, rfl⟩
      unfold tt
      rw [pcs4, toks_join _ orSep (symTok 124) rfl]
      have key := join_reads (L := L) (op := 4) (x := (⟨#[124]⟩ : ByteArray)) (part := pConj L (pTermN L g)) (fol := folAnd) (c := symTok 124) (by decide) (fun _ => noW_cons (by decide)) (toksOf (parP [4] k0 (tmPcs k0)), k0) (kr.map fun k => (toksOf (parP [4] k (tmPcs k)), k)) (by
        intro q hq
        rcases List.mem_cons.1 hq with rfl | hq
        · exact hpart k0 (by simp)
        · obtain ⟨k, hk', rfl⟩ := List.mem_map.1 hq
          exact hpart k (by simp [hk']))
      have e1 : ((toksOf (parP [4] k0 (tmPcs k0)), k0) :: kr.map fun k => (toksOf (parP [4] k (tmPcs k)), k)).map (·.1) = ((k0 :: kr).map fun k => parP [4] k (tmPcs k)).map toksOf := by simp [List.map_map, Function.comp_def]
      have e2 : ((toksOf (parP [4] k0 (tmPcs k0)), k0) :: kr.map fun k => (toksOf (parP [4] k (tmPcs k)), k)).map (·.2) = k0 :: kr := by simp [List.map_map, Function.comp_def]
      rw [e1, e2, joinTm_more 4 _ hkl] at key
      exact key
    · exact one_reads (con g hg n4)

/-- A term has at least as many tokens as it is deep. -/
theorem tail_len (c : Tok) (l : List (List Tok)) (x : List Tok) (h : x ∈ l) : x.length + 1 ≤ (l.flatMap (c :: ·)).length := by
  induction l with
  | nil => simp at h
  | cons a r ih =>
    simp only [List.flatMap_cons, List.length_append, List.length_cons]
    rcases List.mem_cons.1 h with rfl | h
    · omega
    · have := ih h; omega
theorem join_len2 (c : Tok) (l : List (List Tok)) (h2 : 2 ≤ l.length) (hp : ∀ y ∈ l, 1 ≤ y.length) (x : List Tok) (h : x ∈ l) : x.length + 1 ≤ (joinT l c).length := by
  match l with
  | [] => simp at h2
  | [a] => simp at h2
  | a :: b :: r =>
    simp only [joinT, List.length_append]
    rcases List.mem_cons.1 h with rfl | h
    · have := tail_len c (b :: r) b (by simp); omega
    · have := tail_len c (b :: r) x h; have := hp a (by simp); omega
theorem join_len1 (c : Tok) (l : List (List Tok)) (x : List Tok) (h : x ∈ l) : x.length ≤ (joinT l c).length := by
  cases l with
  | nil => simp at h
  | cons a r =>
    simp only [joinT, List.length_append]
    rcases List.mem_cons.1 h with rfl | h
    · omega
    · have := tail_len c r x h; omega
theorem par_len (ops : List Int) (k : Tm) : (tt k).length ≤ (toksOf (parP ops k (tmPcs k))).length := by
  cases hc : ops.contains k.op
  · rw [tt_par_no hc]; exact Nat.le_refl _
  · rw [tt_par_yes hc]; simp only [List.length_cons, List.length_append]; omega
theorem depth_le {t : Tm} {n : Nat} (h : ∀ k ∈ t.kids, tmDepth k + 1 ≤ n) (h0 : 1 ≤ n) : tmDepth t ≤ n := by
  cases t with
  | mk op nm nd ws ks =>
    have h : ∀ k ∈ ks, tmDepth k + 1 ≤ n := h
    rw [tmDepth]
    have : ∀ (l : List Tm), (∀ k ∈ l, tmDepth k + 1 ≤ n) → tmsDepth l + 1 ≤ n := by
      intro l
      induction l with
      | nil => intro _; rw [tmsDepth]; omega
      | cons a r ih =>
        intro h
        rw [tmsDepth]
        have a1 := h a (by simp)
        have a2 := ih (fun k hk => h k (by simp [hk]))
        omega
    exact this ks h
theorem tm_depth_toks : ∀ (n : Nat) (t : Tm), tmSize t ≤ n → okTm t = true → tmDepth t ≤ (tt t).length := by
  intro n
  induction n with
  | zero => intro t ht; have : 0 < tmSize t := by (cases t; rw [tmSize]; omega)
            omega
  | succ n ih =>
    intro t ht hok
    obtain ⟨h1, h2, h3⟩ := okTm_parts hok
    have hs := tmsSize_kids t
    obtain ⟨op, nm, nd, ws, ks⟩ := t
    have hs : tmSize (.mk op nm nd ws ks) = 1 + nm.size + ws.length + tmsSize ks := hs
    have hk : ∀ k ∈ ks, tmDepth k ≤ (tt k).length := fun k hk => ih k (by have := tm_size_mem hk; omega) (h3 k hk)
    have hp : ∀ k ∈ ks, 1 ≤ (tt k).length := fun k hk' => Nat.le_trans (depth_pos k) (hk k hk')
    unfold tt
    rcases head_op h1 with rfl | rfl | rfl | rfl | rfl | rfl | rfl | rfl
    · rw [head_ok1, Bool.and_eq_true] at h1
      obtain ⟨rfl, rfl, rfl⟩ := bare_parts h1.2
      rw [pcs1]; exact depth_le (fun k hk => by simp [Tm.kids] at hk) (by simp [toksOf, Pc.toks])
    · rw [pcs2, toksOf_append, toksOf_append, toks_join _ comSep comma rfl]
      refine depth_le (fun k hk' => ?_) (by simp [toksOf, Pc.toks])
      have hk' : k ∈ ks := hk'
      have a := hk k hk'
      rw [head_ok2] at h1
      simp only [Bool.and_eq_true, Bool.or_eq_true, decide_eq_true_eq] at h1
      have hww := h1.2
      have key : ∃ x ∈ (weighedP ws (ks.map tmPcs)).map toksOf, (tt k).length ≤ x.length := by
        obtain ⟨i, hi, rfl⟩ := List.mem_iff_getElem.1 hk'
        unfold weighedP
        by_cases hw0 : ws.length = 0
        · rw [if_pos hw0]
          exact ⟨tt ks[i], List.mem_map.2 ⟨tmPcs ks[i], List.mem_map.2 ⟨_, hk', rfl⟩, rfl⟩, Nat.le_refl _⟩
        · rw [if_neg hw0]
          have hwl : ws.length = ks.length := by rcases hww with h | h
                                                 · exact absurd h hw0
                                                 · exact h
          refine ⟨toksOf (tmPcs ks[i] ++ [.sym 42, .int (ws[i]'(hwl ▸ hi))]), List.mem_map.2 ⟨_, List.mem_iff_getElem.2 ⟨i, by rw [List.length_zipWith, List.length_map]; omega, by rw [List.getElem_zipWith, List.getElem_map]⟩, rfl⟩, ?_⟩
          rw [toksOf_append, List.length_append]; exact Nat.le_add_right _ _
      obtain ⟨x, hx, hl⟩ := key
      have b := join_len1 comma _ x hx
      simp only [List.length_append]
      have : (toksOf [Pc.int nd, Pc.sym 40]).length = 2 := rfl
      omega
    · rw [pcs3, toks_join _ andSep (symTok 38) rfl]
      rw [head_ok3] at h1
      simp only [Bool.and_eq_true, decide_eq_true_eq] at h1
      have hall : ∀ k ∈ ks, (tt k).length + 1 ≤ (joinT ((ks.map fun k => parP [3, 4] k (tmPcs k)).map toksOf) (symTok 38)).length := by
        intro k hk'
        have a := par_len [3, 4] k
        have b := join_len2 (symTok 38) ((ks.map fun k => parP [3, 4] k (tmPcs k)).map toksOf) (by simpa using h1.2) (by
          intro y hy
          rw [List.map_map] at hy
          obtain ⟨q, hq, rfl⟩ := List.mem_map.1 hy
          exact Nat.le_trans (hp q hq) (par_len [3, 4] q)) (toksOf (parP [3, 4] k (tmPcs k))) (by rw [List.map_map]; exact List.mem_map.2 ⟨k, hk', rfl⟩)
        omega
      refine depth_le (fun k hk' => Nat.le_trans (Nat.add_le_add_right (hk k hk') 1) (hall k hk')) ?_
      cases ks with
      | nil => simp at h1
      | cons k0 kr => have := hall k0 (by simp); omega
    · rw [pcs4, toks_join _ orSep (symTok 124) rfl]
      rw [head_ok4] at h1
      simp only [Bool.and_eq_true, decide_eq_true_eq] at h1
      have hall : ∀ k ∈ ks, (tt k).length + 1 ≤ (joinT ((ks.map fun k => parP [4] k (tmPcs k)).map toksOf) (symTok 124)).length := by
        intro k hk'
        have a := par_len [4] k
        have b := join_len2 (symTok 124) ((ks.map fun k => parP [4] k (tmPcs k)).map toksOf) (by simpa using h1.2) (by
          intro y hy
          rw [List.map_map] at hy
          obtain ⟨q, hq, rfl⟩ := List.mem_map.1 hy
          exact Nat.le_trans (hp q hq) (par_len [4] q)) (toksOf (parP [4] k (tmPcs k))) (by rw [List.map_map]; exact List.mem_map.2 ⟨k, hk', rfl⟩)
        omega
      refine depth_le (fun k hk' => Nat.le_trans (Nat.add_le_add_right (hk k hk') 1) (hall k hk')) ?_
      cases ks with
      | nil => simp at h1
      | cons k0 kr => have := hall k0 (by simp); omega
    · rw [head_ok5] at h1
      simp only [Bool.and_eq_true, decide_eq_true_eq] at h1
      obtain ⟨k, rfl⟩ := List.length_eq_one_iff.1 h1.2
      rw [pcs5, toksOf_append, toksOf_append]
      refine depth_le (fun q hq => ?_) (by simp [toksOf, Pc.toks])
      obtain rfl : q = k := by simpa [Tm.kids] using hq
      have := hk q (by simp)
      simp only [List.length_append]
      have e : (toksOf [Pc.word [100, 117, 97, 108], Pc.sym 40]).length = 2 := rfl
      have e2 : (toksOf (tmPcs q)).length = (tt q).length := rfl
      omega
    · rw [head_ok6, Bool.and_eq_true] at h1
      obtain ⟨rfl, rfl, rfl⟩ := bare_parts h1.2
      rw [pcs6]; exact depth_le (fun k hk => by simp [Tm.kids] at hk) (by simp [toksOf, Pc.toks])
    · rw [head_ok7, Bool.and_eq_true] at h1
      obtain ⟨rfl, rfl, rfl⟩ := bare_parts h1.2
      rw [pcs7]; exact depth_le (fun k hk => by simp [Tm.kids] at hk) (by simp [toksOf, Pc.toks])
    · rw [head_ok8, Bool.and_eq_true] at h1
      obtain ⟨rfl, rfl, rfl⟩ := bare_parts h1.2
      rw [pcs8]; exact depth_le (fun k hk => by simp [Tm.kids] at hk) (by simp [toksOf, Pc.toks])

theorem term_reads (L : Toks) {t : Tm} (h : okTm t = true) : RdT L (pTerm L) (tt t) folOr t := by
  intro p r hh hr
  have hl := here_len hh
  have hd := tm_depth_toks _ t (Nat.le_refl _) h
  rw [List.length_append] at hl
  exact (all_reads L _ t (Nat.le_refl _) h).trm (L.length + 1) (by omega) p r hh hr
end Go.Proofs.YtipicaoinnblpaaGreatDoor
namespace Go.Proofs.YtipicaoinnblpaaGreatDoor

def nameP (x : ByteArray) : List Pc := [.word x.data.toList]
def namesP (l : List ByteArray) : List Pc := joinP (l.map nameP) comSep
def bracedP (w : List UInt8) (l : List ByteArray) : List Pc := [.word w, .gap [32], .sym 123, .gap [32]] ++ (namesP l ++ [.gap [32], .sym 125])
def setsP (f : Ft) : List Pc :=
  if f.byzNames.length = 0 then bracedP [99, 114, 97, 115, 104] f.crashNames
  else if f.crashNames.length = 0 then bracedP [98, 121, 122] f.byzNames
  else bracedP [98, 121, 122] f.byzNames ++ (.gap [32] :: bracedP [99, 114, 97, 115, 104] f.crashNames)
def ftP (f : Ft) : List Pc :=
  if f.op = 1 then [.word [110, 111, 110, 101]]
  else if f.op = 2 then [.word [116, 104, 114, 101, 115, 104, 111, 108, 100], .gap [32], .int f.byz, .gap [32], .int f.crash]
  else if f.op = 4 then [.word [115, 105, 116, 101], .gap [32], .word f.name.data.toList, .gap [32], .word [98, 121, 122]]
  else if f.op = 5 then [.word [115, 105, 116, 101], .gap [32], .word f.name.data.toList, .gap [32], .word [99, 114, 97, 115, 104]]
  else if f.op = 3 then setsP f
  else [.word f.name.data.toList]
def dcP (d : Dc) : List Pc :=
  if d.kind = 1 then [.word [115, 105, 116, 101], .gap [32], .word d.name.data.toList, .gap [32], .sym 123, .gap [32]] ++ (namesP d.names ++ [.gap [32], .sym 125, .sym 59])
  else if d.kind = 2 then [.word [102, 97, 117, 108, 116, 115], .gap [32], .word d.name.data.toList, .gap [32], .sym 61, .gap [32]] ++ (joinP (d.faults.map ftP) orSep ++ [.sym 59])
  else if d.kind = 3 then [.word [113, 117, 111, 114, 117, 109], .gap [32], .word d.name.data.toList, .gap [32], .sym 61, .gap [32]] ++ (tmPcs d.term ++ [.sym 59])
  else if d.kind = 4 then [.word [99, 111, 110, 102, 105, 103], .gap [32], .word d.name.data.toList, .gap [32], .word d.proto.data.toList, .gap [32], .word [114, 101, 97, 100], .gap [32]] ++ (tmPcs d.read ++ (.gap [32] :: .word [119, 114, 105, 116, 101] :: .gap [32] :: (tmPcs d.write ++ [.gap [32], .word [102, 97, 117, 108, 116, 115], .gap [32], .word d.use.data.toList, .sym 59])))
  else if d.kind = 5 then [.word [119, 105, 116, 110, 101, 115, 115], .gap [32]] ++ (namesP d.names ++ [.sym 59])
  else if d.kind = 7 then [.word [99, 104, 97, 105, 110], .gap [32]] ++ (namesP d.names ++ [.sym 59])
  else if d.use.size = 0 then [.word [99, 108, 105, 101, 110, 116], .gap [32], .word d.name.data.toList, .sym 59]
  else [.word [99, 108, 105, 101, 110, 116], .gap [32], .word d.name.data.toList, .gap [32], .word [102, 97, 117, 108, 116, 115], .gap [32], .word d.use.data.toList, .sym 59]
def dcsP (l : List Dc) : List Pc := l.flatMap fun d => dcP d ++ [.gap [10]]

theorem names_bytes (l : List ByteArray) : bytesOf (namesP l) = nameList l := by
  unfold namesP nameList joined
  rw [bytes_join]
  have e : (l.map nameP).map bytesOf = lst l := by
    unfold lst
    rw [List.map_map]
    refine List.map_congr_left fun x _ => ?_
    simp [nameP, bytesOf, Pc.bytes]
  rw [e]; rfl
theorem braced_bytes (w : List UInt8) (l : List ByteArray) : bytesOf (bracedP w l) = braced w l := by
  unfold bracedP braced
  rw [bytesOf_append, bytesOf_append, names_bytes]
  simp [bytesOf, Pc.bytes]
theorem ft_bytes {f : Ft} (h : okFt f = true) : bytesOf (ftP f) = ftText f := by
  unfold ftP ftText
  split
  · rfl
  split
  · simp [bytesOf, Pc.bytes]
  split
  · simp [bytesOf, Pc.bytes]
  split
  · simp [bytesOf, Pc.bytes]
  split
  · rename_i h1 h2 h4 h5 h3
    have hn : 0 < f.byzNames.length + f.crashNames.length := by
      unfold okFt at h
      rw [if_neg h1, if_neg h2, if_pos h3] at h
      simp only [Bool.and_eq_true, ftNamed, decide_eq_true_eq] at h
      exact h.1.1.2
    unfold setsP setsText
    by_cases hb : f.byzNames.length = 0
    · have hc : f.crashNames.length ≠ 0 := by omega
      rw [if_pos hb, if_pos hb, if_neg hc, braced_bytes, List.nil_append, Lib.join_one]
    · rw [if_neg hb, if_neg hb]
      by_cases hc : f.crashNames.length = 0
      · rw [if_pos hc, if_pos hc, braced_bytes, List.append_nil, Lib.join_one]
      · rw [if_neg hc, if_neg hc, bytesOf_append, bytesOf_cons, braced_bytes, braced_bytes, List.singleton_append, Lib.join_cons]
        simp [Lib.joinTail, Pc.bytes]
  · simp [bytesOf, Pc.bytes]
theorem dc_bytes {d : Dc} (h : d.faults.all okFt = true) : bytesOf (dcP d) = dcText d := by
  unfold dcP dcText
  split
  · rw [bytesOf_append, bytesOf_append, names_bytes]; simp [bytesOf, Pc.bytes]
  split
  · rw [bytesOf_append, bytesOf_append, bytes_join, List.map_map]
    have e : d.faults.map (bytesOf ∘ ftP) = d.faults.map ftText := List.map_congr_left fun f hf => ft_bytes (List.all_eq_true.1 h f hf)
    rw [e]; simp [bytesOf, Pc.bytes, orSep]
  split
  · rw [bytesOf_append, bytesOf_append, tmPcs_bytes]; simp [bytesOf, Pc.bytes]
  split
  · simp only [bytesOf_append, bytesOf_cons, bytesOf_nil, tmPcs_bytes]; simp [Pc.bytes]
  split
  · rw [bytesOf_append, bytesOf_append, names_bytes]; simp [bytesOf, Pc.bytes]
  split
  · rw [bytesOf_append, bytesOf_append, names_bytes]; simp [bytesOf, Pc.bytes]
  split
  · simp [bytesOf, Pc.bytes]
  · simp [bytesOf, Pc.bytes]

theorem blank_zero {t : Tm} (h : blank t = true) : t = .zero := by
  obtain ⟨op, nm, nd, ws, ks⟩ := t
  have e : blank (.mk op nm nd ws ks) = (decide (op = 0) && decide (nm.size = 0) && bare (.mk op nm nd ws ks)) := rfl
  rw [e] at h
  simp only [Bool.and_eq_true, decide_eq_true_eq] at h
  obtain ⟨⟨rfl, h2⟩, h3⟩ := h
  obtain ⟨rfl, rfl, rfl⟩ := bare_parts h3
  rw [size_nil h2]; rfl
/-- A kind without configuration. -/
theorem dc_plain {d : Dc} (h : DcOk d) (hc : hasConfig d.kind = false) : d.proto = bs [] ∧ d.read = .zero ∧ d.write = .zero ∧ (mayUse d.kind = false → d.use = bs []) := by
  have := h.conf
  rw [hc] at this
  simp only [Bool.false_eq_true, if_false, Bool.and_eq_true, Bool.or_eq_true, decide_eq_true_eq] at this
  refine ⟨size_nil this.1.1.1, blank_zero this.1.1.2, blank_zero this.1.2, fun hm => ?_⟩
  rcases this.2 with h | h
  · rw [hm] at h; cases h
  · exact size_nil h
theorem dc_noterm {d : Dc} (h : DcOk d) (hc : hasTerm d.kind = false) : d.term = .zero := by
  have := h.term
  rw [hc] at this
  exact blank_zero this
theorem dc_nonames {d : Dc} (h : DcOk d) (hc : hasNames d.kind = false) : d.names = [] := by
  have := h.hnames
  rw [hc] at this
  exact List.length_eq_zero_iff.1 (by have := of_decide_eq_false this.symm; omega)
theorem dc_nofaults {d : Dc} (h : DcOk d) (hc : hasFaults d.kind = false) : d.faults = [] := by
  have := h.hfaults
  rw [hc] at this
  exact List.length_eq_zero_iff.1 (by have := of_decide_eq_false this.symm; omega)
theorem dc_noname {d : Dc} (h : DcOk d) (hc : hasName d.kind = false) : d.name = bs [] := by
  have h1 := h.hname
  rw [hc] at h1
  have h2 : d.name.size = 0 := by simpa using h1.symm
  exact size_nil h2
theorem dc_names {d : Dc} (h : DcOk d) (hc : hasNames d.kind = true) : 0 < d.names.length := by
  have := h.hnames
  rw [hc] at this
  exact of_decide_eq_true this.symm
theorem dc_faults {d : Dc} (h : DcOk d) (hc : hasFaults d.kind = true) : 0 < d.faults.length := by
  have := h.hfaults
  rw [hc] at this
  exact of_decide_eq_true this.symm

theorem okNames_mem {l : List ByteArray} (h : okNames l = true) : ∀ x ∈ l, okName x = true := List.all_eq_true.1 h
theorem names_neat {l : List ByteArray} (h : okNames l = true) : Neat (namesP l) := by
  refine neat_join comSep_ok _ fun x hx => ?_
  obtain ⟨y, hy, rfl⟩ := List.mem_map.1 hx
  exact neat_word (okName_lex (okNames_mem h y hy))
theorem braced_neat {w : List UInt8} {l : List ByteArray} (hw : lexName w = true) (h : okNames l = true) : Neat (bracedP w l) :=
  Neat.wordGap hw (Neat.gap (Neat.sym (Neat.gap ((names_neat h).andGap (Neat.gap neat_sym)))))
theorem ft_ok {f : Ft} (h : okFt f = true) : (f.op = 1 ∧ f = ⟨1, bs [], 0, 0, [], []⟩) ∨ (f.op = 2 ∧ small f.byz = true ∧ small f.crash = true ∧ f = ⟨2, bs [], f.byz, f.crash, [], []⟩) ∨
    (f.op = 3 ∧ 0 < f.byzNames.length + f.crashNames.length ∧ okNames f.byzNames = true ∧ okNames f.crashNames = true ∧ f = ⟨3, bs [], 0, 0, f.byzNames, f.crashNames⟩) ∨
    ((f.op = 4 ∨ f.op = 5 ∨ f.op = 6) ∧ okName f.name = true ∧ f = ⟨f.op, f.name, 0, 0, [], []⟩) := by
  obtain ⟨op, nm, x, y, bl, cl⟩ := f
  unfold okFt at h
  simp only at h
  have named : ∀ (o : Int), ftNamed ⟨o, nm, x, y, bl, cl⟩ = false → bl = [] ∧ cl = [] := by
    intro o ho
    have : ¬ 0 < bl.length + cl.length := of_decide_eq_false ho
    exact ⟨List.length_eq_zero_iff.1 (by omega), List.length_eq_zero_iff.1 (by omega)⟩
  have numbered : ∀ (o : Int), ftNumbered ⟨o, nm, x, y, bl, cl⟩ = false → x = 0 ∧ y = 0 := by
    intro o ho
    have : (!decide (x = 0) || !decide (y = 0)) = false := ho
    simpa using this
  split at h
  · rename_i h1
    subst h1
    simp only [Bool.and_eq_true, decide_eq_true_eq, Bool.not_eq_true'] at h
    obtain ⟨rfl, rfl⟩ := named _ h.2
    obtain ⟨rfl, rfl⟩ := numbered _ h.1.2
    exact Or.inl ⟨rfl, by rw [size_nil h.1.1]⟩
  split at h
  · rename_i h1
    subst h1
    simp only [Bool.and_eq_true, decide_eq_true_eq, Bool.not_eq_true'] at h
    obtain ⟨rfl, rfl⟩ := named _ h.2
    exact Or.inr (Or.inl ⟨rfl, h.1.1.2, h.1.2, by rw [size_nil h.1.1.1]⟩)
  split at h
  · rename_i h1
    subst h1
    simp only [Bool.and_eq_true, decide_eq_true_eq, Bool.not_eq_true'] at h
    obtain ⟨rfl, rfl⟩ := numbered _ h.1.1.1.2
    exact Or.inr (Or.inr (Or.inl ⟨rfl, of_decide_eq_true h.1.1.2, h.1.2, h.2, by rw [size_nil h.1.1.1.1]⟩))
  split at h
  · rename_i h1
    simp only [Bool.and_eq_true, Bool.not_eq_true'] at h
    obtain ⟨rfl, rfl⟩ := named _ h.2
    obtain ⟨rfl, rfl⟩ := numbered _ h.1.2
    exact Or.inr (Or.inr (Or.inr ⟨h1, h.1.1, rfl⟩))
  · cases h
theorem sets_neat {f : Ft} (h1 : okNames f.byzNames = true) (h2 : okNames f.crashNames = true) : Neat (setsP f) := by
  unfold setsP
  split
  · exact braced_neat (by decide) h2
  split
  · exact braced_neat (by decide) h1
  · exact (braced_neat (by decide) h1).andGap (Neat.gap (braced_neat (by decide) h2))
theorem ft_neat {f : Ft} (h : okFt f = true) : Neat (ftP f) := by
  rcases ft_ok h with ⟨h1, -⟩ | ⟨h1, h2, h3, -⟩ | ⟨h1, -, h3, h4, -⟩ | ⟨h1, h2, -⟩
  · unfold ftP; rw [if_pos h1]; exact neat_word (by decide)
  · unfold ftP; rw [if_neg (by omega), if_pos h1]
    exact Neat.wordGap (by decide) (Neat.gap (Neat.intGap h2 (Neat.gap (neat_int h3))))
  · unfold ftP; rw [if_neg (by omega), if_neg (by omega), if_neg (by omega), if_neg (by omega), if_pos h1]
    exact sets_neat h3 h4
  · unfold ftP
    rcases h1 with h1 | h1 | h1
    · rw [if_neg (by omega), if_neg (by omega), if_pos h1]
      exact Neat.wordGap (by decide) (Neat.gap (Neat.wordGap (okName_lex h2) (Neat.gap (neat_word (by decide)))))
    · rw [if_neg (by omega), if_neg (by omega), if_neg (by omega), if_pos h1]
      exact Neat.wordGap (by decide) (Neat.gap (Neat.wordGap (okName_lex h2) (Neat.gap (neat_word (by decide)))))
    · rw [if_neg (by omega), if_neg (by omega), if_neg (by omega), if_neg (by omega), if_neg (by omega)]
      exact neat_word (okName_lex h2)
theorem dc_neat {d : Dc} (h0 : okDc d = true) : Neat (dcP d) := by
  have h := dc_ok h0
  unfold dcP
  rcases dc_kind h with hk | hk | hk | hk | hk | hk | hk
  · rw [if_pos hk]
    have hn := dc_named h (by rw [hk]; rfl)
    exact Neat.wordGap (by decide) (Neat.gap (Neat.wordGap (okName_lex hn) (Neat.gap (Neat.sym (Neat.gap ((names_neat h.names).andGap (Neat.gap (Neat.sym neat_sym))))))))
  · rw [if_neg (by omega), if_pos hk]
    have hn := dc_named h (by rw [hk]; rfl)
    refine Neat.wordGap (by decide) (Neat.gap (Neat.wordGap (okName_lex hn) (Neat.gap (Neat.sym (Neat.gap (Neat.andSym (neat_join orSep_ok _ fun x hx => ?_) neat_sym))))))
    obtain ⟨f, hf, rfl⟩ := List.mem_map.1 hx
    exact ft_neat (List.all_eq_true.1 h.faults f hf)
  · rw [if_neg (by omega), if_neg (by omega), if_pos hk]
    have hn := dc_named h (by rw [hk]; rfl)
    have ht : okTm d.term = true := by have := h.term; rw [hk] at this; exact this
    exact Neat.wordGap (by decide) (Neat.gap (Neat.wordGap (okName_lex hn) (Neat.gap (Neat.sym (Neat.gap ((tmPcs_neat ht).andSym neat_sym))))))
  · rw [if_neg (by omega), if_neg (by omega), if_neg (by omega), if_pos hk]
    have hn := dc_named h (by rw [hk]; rfl)
    obtain ⟨hp, hr, hw, hu⟩ := dc_conf h (by rw [hk]; rfl)
    exact Neat.wordGap (by decide) (Neat.gap (Neat.wordGap (okName_lex hn) (Neat.gap (Neat.wordGap (proto_lex hp) (Neat.gap (Neat.wordGap (by decide) (Neat.gap
      ((tmPcs_neat hr).andGap (Neat.gap (Neat.wordGap (by decide) (Neat.gap ((tmPcs_neat hw).andGap (Neat.gap (Neat.wordGap (by decide) (Neat.gap (Neat.wordSym (okName_lex hu) neat_sym))))))))))))))))
  · rw [if_neg (by omega), if_neg (by omega), if_neg (by omega), if_neg (by omega), if_pos hk]
    exact Neat.wordGap (by decide) (Neat.gap ((names_neat h.names).andSym neat_sym))
  · rw [if_neg (by omega), if_neg (by omega), if_neg (by omega), if_neg (by omega), if_neg (by omega), if_neg (by omega)]
    have hn := dc_named h (by rw [hk]; rfl)
    split
    · exact Neat.wordGap (by decide) (Neat.gap (Neat.wordSym (okName_lex hn) neat_sym))
    · rename_i hu
      have hu2 : okName d.use = true := by rcases h.use with h | h
                                           · exact absurd h hu
                                           · exact h
      exact Neat.wordGap (by decide) (Neat.gap (Neat.wordGap (okName_lex hn) (Neat.gap (Neat.wordGap (by decide) (Neat.gap (Neat.wordSym (okName_lex hu2) neat_sym))))))
  · rw [if_neg (by omega), if_neg (by omega), if_neg (by omega), if_neg (by omega), if_neg (by omega), if_pos hk]
    exact Neat.wordGap (by decide) (Neat.gap ((names_neat h.names).andSym neat_sym))
theorem dcs_bytes {l : List Dc} (h : l.all okDc = true) : bytesOf (dcsP l) = dcsText l := by
  unfold dcsP dcsText
  induction l with
  | nil => rfl
  | cons d r ih =>
    rw [List.all_cons, Bool.and_eq_true] at h
    rw [List.flatMap_cons, List.flatMap_cons, bytesOf_append, bytesOf_append, ih h.2, dc_bytes (dc_ok h.1).faults]; rfl
theorem dcs_neat {l : List Dc} (h : l.all okDc = true) : Neat (dcsP l) := by
  unfold dcsP
  induction l with
  | nil => exact .nil
  | cons d r ih =>
    rw [List.all_cons, Bool.and_eq_true] at h
    rw [List.flatMap_cons]
    refine Neat.behind ((dc_neat h.1).andGap neat_line) (ih h.2) ?_
    have : ∀ (l : List Pc) b, ends b (l ++ [.gap [10]]) = false := by
      intro l
      induction l with
      | nil => intro b; rfl
      | cons x r ih => intro b; exact ih _
    exact this _ _
end Go.Proofs.YtipicaoinnblpaaGreatDoor
namespace Go.Proofs.YtipicaoinnblpaaGreatDoor

def nameT (x : ByteArray) : Tok := wordTok x.data.toList
theorem names_toks (l : List ByteArray) : toksOf (namesP l) = joinT (l.map fun x => [nameT x]) comma := by
  unfold namesP
  rw [toks_join _ comSep comma rfl, List.map_map]; rfl
theorem namesGo_reads {L : Toks} (l : List ByteArray) (h : ∀ x ∈ l, okName x = true) : ∀ (f : Nat) (acc : List ByteArray) (p : Nat) (r : List Tok), l.length ≤ f → here L p = (l.map fun x => [nameT x]).flatMap (comma :: ·) ++ r → noW (⟨#[44]⟩ : ByteArray) r →
    namesGo L f acc ⟨p, 0⟩ = (acc ++ l, ⟨p + ((l.map fun x => [nameT x]).flatMap (comma :: ·)).length, 0⟩) := by
  induction l with
  | nil =>
    intro f acc p r hf hh hn
    have hw : isW L (⟨#[44]⟩ : ByteArray) ⟨p, 0⟩ = false := isW_no (l := r) hh hn
    cases f with
    | zero => simp [namesGo]
    | succ f => rw [namesGo, hw]; simp
  | cons x l ih =>
    intro f acc p r hf hh hn
    cases f with
    | zero => simp at hf
    | succ f =>
      have hh1 : here L p = comma :: nameT x :: ((l.map fun x => [nameT x]).flatMap (comma :: ·) ++ r) := by rw [hh]; simp
      have hw : isW L (⟨#[44]⟩ : ByteArray) ⟨p, 0⟩ = true := by rw [isW_at_here hh1]; decide
      have hh2 := (here_cons hh1).2
      have hp := nameR_yes hh2 (h x (by simp))
      have hh3 := (here_cons hh2).2
      rw [namesGo, hw, if_pos rfl, show adv ⟨p, 0⟩ = ⟨p + 1, 0⟩ from rfl, hp]
      rw [ih (fun q hq => h q (by simp [hq])) f _ _ r (by simpa using hf) hh3 hn]
      simp only [List.map_cons, List.flatMap_cons, List.length_append, List.length_cons, List.length_nil, List.append_assoc, List.singleton_append]
      refine Prod.ext rfl ?_
      show (⟨_, 0⟩ : St) = ⟨_, 0⟩
      congr 1; omega
theorem names_reads {L : Toks} {l : List ByteArray} (h : okNames l = true) (h0 : 0 < l.length) {p : Nat} {r : List Tok} (hh : here L p = toksOf (namesP l) ++ r) (hn : noW (⟨#[44]⟩ : ByteArray) r) : pNames L ⟨p, 0⟩ = (l, ⟨p + (toksOf (namesP l)).length, 0⟩) := by
  rw [names_toks] at hh ⊢
  have hall := okNames_mem h
  match l with
  | [] => simp at h0
  | x :: l =>
    have hh1 : here L p = nameT x :: ((l.map fun x => [nameT x]).flatMap (comma :: ·) ++ r) := by rw [hh]; simp [joinT]
    have hp := nameR_yes hh1 (hall x (by simp))
    have hh2 := (here_cons hh1).2
    have hlen : l.length ≤ L.length := by
      have a := here_len hh2
      have b := flat_len comma (l.map fun x => [nameT x])
      simp only [List.length_append, List.length_map] at a b
      omega
    have hg := namesGo_reads l (fun q hq => hall q (by simp [hq])) L.length [x] (p + 1) r hlen hh2 hn
    unfold pNames
    rw [hp]
    simp only
    rw [hg]
    refine Prod.ext rfl ?_
    show (⟨_, 0⟩ : St) = ⟨_, 0⟩
    simp only [joinT, List.map_cons, List.length_append, List.length_cons, List.length_nil]
    congr 1; omega
def lb : Tok := symTok 123
def rb : Tok := symTok 125
def semi : Tok := symTok 59
def bar : Tok := symTok 124
theorem braces_reads {L : Toks} {l : List ByteArray} (h : okNames l = true) (h0 : 0 < l.length) {p : Nat} {r : List Tok} (hh : here L p = lb :: (toksOf (namesP l) ++ rb :: r)) : pBraces L ⟨p, 0⟩ = (l, ⟨p + (toksOf (namesP l)).length + 2, 0⟩) ∧ here L (p + (toksOf (namesP l)).length + 2) = r := by
  have hh2 := (here_cons hh).2
  have hn := names_reads h h0 hh2 (noW_cons (by decide))
  have hh3 := here_append _ hh2
  unfold pBraces
  rw [need_yes hh (by decide), hn]
  simp only
  rw [need_yes hh3 (by decide)]
  have e : p + 1 + (toksOf (namesP l)).length + 1 = p + (toksOf (namesP l)).length + 2 := by omega
  rw [e]
  refine ⟨rfl, ?_⟩
  have := (here_cons hh3).2
  rw [e] at this; exact this
theorem braced_toks (w : List UInt8) (l : List ByteArray) : toksOf (bracedP w l) = wordTok w :: lb :: (toksOf (namesP l) ++ [rb]) := by
  unfold bracedP
  rw [toksOf_append, toksOf_append]; rfl

/-- What may stand behind a fault. -/
def folF (r : List Tok) : Prop := noW (⟨#[99, 114, 97, 115, 104]⟩ : ByteArray) r
theorem fault_reads {L : Toks} (x : Int) {f : Ft} (h : okFt f = true) {p : Nat} {r : List Tok} (hh : here L p = toksOf (ftP f) ++ r) (hf : folF r) : pFault L x ⟨p, 0⟩ = (f, ⟨p + (toksOf (ftP f)).length, 0⟩) := by
  rcases ft_ok h with ⟨h1, h2⟩ | ⟨h1, h2, h3, h4⟩ | ⟨h1, h2, h3, h4, h5⟩ | ⟨h1, h2, h3⟩
  · unfold ftP at hh ⊢
    rw [if_pos h1] at hh ⊢
    have hh1 : here L p = wordTok [110, 111, 110, 101] :: r := hh
    unfold pFault
    rw [isW_at_here hh1, show isWord (⟨#[110, 111, 110, 101]⟩ : ByteArray) (wordTok [110, 111, 110, 101]) = true by decide, if_pos rfl, h2]; rfl
  · unfold ftP at hh ⊢
    rw [if_neg (by omega), if_pos h1] at hh ⊢
    have hh1 : here L p = wordTok [116, 104, 114, 101, 115, 104, 111, 108, 100] :: intTok f.byz :: intTok f.crash :: r := hh
    have hh2 := (here_cons hh1).2
    have n1 := numR_yes hh2 h2
    have n2 := numR_yes (here_cons hh2).2 h3
    unfold pFault
    rw [isW_at_here hh1, show isWord (⟨#[110, 111, 110, 101]⟩ : ByteArray) (wordTok [116, 104, 114, 101, 115, 104, 111, 108, 100]) = false by decide, if_neg (by simp), isW_at_here hh1, show isWord (⟨#[116, 104, 114, 101, 115, 104, 111, 108, 100]⟩ : ByteArray) (wordTok [116, 104, 114, 101, 115, 104, 111, 108, 100]) = true by decide, if_pos rfl]
    rw [show adv ⟨p, 0⟩ = ⟨p + 1, 0⟩ from rfl, n1]
    simp only
    rw [n2, ← h4]; rfl
  · unfold ftP at hh ⊢
    rw [if_neg (by omega), if_neg (by omega), if_neg (by omega), if_neg (by omega), if_pos h1] at hh ⊢
    unfold setsP at hh ⊢
    by_cases hb : f.byzNames.length = 0
    · rw [if_pos hb, braced_toks] at hh ⊢
      have hh1 : here L p = wordTok [99, 114, 97, 115, 104] :: lb :: (toksOf (namesP f.crashNames) ++ rb :: r) := by rw [hh]; simp
      obtain ⟨b1, -⟩ := braces_reads h4 (by omega) (here_cons hh1).2
      unfold pFault
      rw [isW_at_here hh1, show isWord (⟨#[110, 111, 110, 101]⟩ : ByteArray) (wordTok [99, 114, 97, 115, 104]) = false by decide, if_neg (by simp), isW_at_here hh1, show isWord (⟨#[116, 104, 114, 101, 115, 104, 111, 108, 100]⟩ : ByteArray) (wordTok [99, 114, 97, 115, 104]) = false by decide, if_neg (by simp), isW_at_here hh1, show isWord (⟨#[98, 121, 122]⟩ : ByteArray) (wordTok [99, 114, 97, 115, 104]) = false by decide, if_neg (by simp), isW_at_here hh1, show isWord (⟨#[99, 114, 97, 115, 104]⟩ : ByteArray) (wordTok [99, 114, 97, 115, 104]) = true by decide, if_pos rfl]
      rw [show adv ⟨p, 0⟩ = ⟨p + 1, 0⟩ from rfl, b1]
      have hb0 : f.byzNames = [] := List.length_eq_zero_iff.1 hb
      rw [hb0] at h5
      simp only
      rw [← h5]
      refine Prod.ext rfl ?_
      show (⟨_, 0⟩ : St) = ⟨_, 0⟩
      simp only [List.length_append, List.length_cons, List.length_nil]
      congr 1; omega
    · rw [if_neg hb] at hh ⊢
      by_cases hc : f.crashNames.length = 0
      · rw [if_pos hc, braced_toks] at hh ⊢
        have hh1 : here L p = wordTok [98, 121, 122] :: lb :: (toksOf (namesP f.byzNames) ++ rb :: r) := by rw [hh]; simp
        obtain ⟨b1, b2⟩ := braces_reads h3 (by omega) (here_cons hh1).2
        unfold pFault
        rw [isW_at_here hh1, show isWord (⟨#[110, 111, 110, 101]⟩ : ByteArray) (wordTok [98, 121, 122]) = false by decide, if_neg (by simp), isW_at_here hh1, show isWord (⟨#[116, 104, 114, 101, 115, 104, 111, 108, 100]⟩ : ByteArray) (wordTok [98, 121, 122]) = false by decide, if_neg (by simp), isW_at_here hh1, show isWord (⟨#[98, 121, 122]⟩ : ByteArray) (wordTok [98, 121, 122]) = true by decide, if_pos rfl]
        rw [show adv ⟨p, 0⟩ = ⟨p + 1, 0⟩ from rfl, b1]
        simp only
        rw [isW_no b2 hf, if_neg (by simp)]
        have hc0 : f.crashNames = [] := List.length_eq_zero_iff.1 hc
        rw [hc0] at h5
        rw [← h5]
        refine Prod.ext rfl ?_
        show (⟨_, 0⟩ : St) = ⟨_, 0⟩
        simp only [List.length_append, List.length_cons, List.length_nil]
        congr 1; omega
      · rw [if_neg hc, toksOf_append, toksOf_cons, braced_toks, braced_toks] at hh ⊢
        have hh1 : here L p = wordTok [98, 121, 122] :: lb :: (toksOf (namesP f.byzNames) ++ rb :: (wordTok [99, 114, 97, 115, 104] :: lb :: (toksOf (namesP f.crashNames) ++ rb :: r))) := by rw [hh]; simp [Pc.toks]
        obtain ⟨b1, b2⟩ := braces_reads h3 (by omega) (here_cons hh1).2
        obtain ⟨c1, -⟩ := braces_reads h4 (by omega) (here_cons b2).2
        unfold pFault
        rw [isW_at_here hh1, show isWord (⟨#[110, 111, 110, 101]⟩ : ByteArray) (wordTok [98, 121, 122]) = false by decide, if_neg (by simp), isW_at_here hh1, show isWord (⟨#[116, 104, 114, 101, 115, 104, 111, 108, 100]⟩ : ByteArray) (wordTok [98, 121, 122]) = false by decide, if_neg (by simp), isW_at_here hh1, show isWord (⟨#[98, 121, 122]⟩ : ByteArray) (wordTok [98, 121, 122]) = true by decide, if_pos rfl]
        rw [show adv ⟨p, 0⟩ = ⟨p + 1, 0⟩ from rfl, b1]
        simp only
        rw [isW_at_here b2, show isWord (⟨#[99, 114, 97, 115, 104]⟩ : ByteArray) (wordTok [99, 114, 97, 115, 104]) = true by decide, if_pos rfl]
        rw [show ∀ q, adv ⟨q, 0⟩ = ⟨q + 1, 0⟩ from fun _ => rfl, c1]
        simp only
        rw [← h5]
        refine Prod.ext rfl ?_
        show (⟨_, 0⟩ : St) = ⟨_, 0⟩
        simp only [List.length_append, List.length_cons, List.length_nil, Pc.toks]
        congr 1; omega
  · unfold ftP at hh ⊢
    rcases h1 with h1 | h1 | h1
    · rw [if_neg (by omega), if_neg (by omega), if_pos h1] at hh ⊢
      have hh1 : here L p = wordTok [115, 105, 116, 101] :: wordTok f.name.data.toList :: wordTok [98, 121, 122] :: r := hh
      have hh2 := (here_cons hh1).2
      have n1 := nameR_yes hh2 h2
      have hh3 := (here_cons hh2).2
      unfold pFault
      rw [isW_at_here hh1, show isWord (⟨#[110, 111, 110, 101]⟩ : ByteArray) (wordTok [115, 105, 116, 101]) = false by decide, if_neg (by simp), isW_at_here hh1, show isWord (⟨#[116, 104, 114, 101, 115, 104, 111, 108, 100]⟩ : ByteArray) (wordTok [115, 105, 116, 101]) = false by decide, if_neg (by simp), isW_at_here hh1, show isWord (⟨#[98, 121, 122]⟩ : ByteArray) (wordTok [115, 105, 116, 101]) = false by decide, if_neg (by simp), isW_at_here hh1, show isWord (⟨#[99, 114, 97, 115, 104]⟩ : ByteArray) (wordTok [115, 105, 116, 101]) = false by decide, if_neg (by simp), isW_at_here hh1, show isWord (⟨#[115, 105, 116, 101]⟩ : ByteArray) (wordTok [115, 105, 116, 101]) = true by decide, if_pos rfl]
      rw [show adv ⟨p, 0⟩ = ⟨p + 1, 0⟩ from rfl, n1]
      simp only
      rw [isW_at_here hh3, show isWord (⟨#[99, 114, 97, 115, 104]⟩ : ByteArray) (wordTok [98, 121, 122]) = false by decide, if_neg (by simp), isW_at_here hh3, show isWord (⟨#[98, 121, 122]⟩ : ByteArray) (wordTok [98, 121, 122]) = true by decide, if_pos rfl]
      rw [h1] at h3
      rw [← h3]; rfl
    · rw [if_neg (by omega), if_neg (by omega), if_neg (by omega), if_pos h1] at hh ⊢
      have hh1 : here L p = wordTok [115, 105, 116, 101] :: wordTok f.name.data.toList :: wordTok [99, 114, 97, 115, 104] :: r := hh
      have hh2 := (here_cons hh1).2
      have n1 := nameR_yes hh2 h2
      have hh3 := (here_cons hh2).2
      unfold pFault
      rw [isW_at_here hh1, show isWord (⟨#[110, 111, 110, 101]⟩ : ByteArray) (wordTok [115, 105, 116, 101]) = false by decide, if_neg (by simp), isW_at_here hh1, show isWord (⟨#[116, 104, 114, 101, 115, 104, 111, 108, 100]⟩ : ByteArray) (wordTok [115, 105, 116, 101]) = false by decide, if_neg (by simp), isW_at_here hh1, show isWord (⟨#[98, 121, 122]⟩ : ByteArray) (wordTok [115, 105, 116, 101]) = false by decide, if_neg (by simp), isW_at_here hh1, show isWord (⟨#[99, 114, 97, 115, 104]⟩ : ByteArray) (wordTok [115, 105, 116, 101]) = false by decide, if_neg (by simp), isW_at_here hh1, show isWord (⟨#[115, 105, 116, 101]⟩ : ByteArray) (wordTok [115, 105, 116, 101]) = true by decide, if_pos rfl]
      rw [show adv ⟨p, 0⟩ = ⟨p + 1, 0⟩ from rfl, n1]
      simp only
      rw [isW_at_here hh3, show isWord (⟨#[99, 114, 97, 115, 104]⟩ : ByteArray) (wordTok [99, 114, 97, 115, 104]) = true by decide, if_pos rfl]
      rw [h1] at h3
      rw [← h3]; rfl
    · rw [if_neg (by omega), if_neg (by omega), if_neg (by omega), if_neg (by omega), if_neg (by omega)] at hh ⊢
      have hh1 : here L p = wordTok f.name.data.toList :: r := hh
      have n1 := nameR_yes hh1 h2
      unfold pFault
      rw [isW_at_here hh1, word_res h2 (by simp [words]), if_neg (by simp), isW_at_here hh1, word_res h2 (by simp [words]), if_neg (by simp), isW_at_here hh1, word_res h2 (by simp [words]), if_neg (by simp), isW_at_here hh1, word_res h2 (by simp [words]), if_neg (by simp), isW_at_here hh1, word_res h2 (by simp [words]), if_neg (by simp), n1]
      rw [h1] at h3
      simp only
      rw [← h3]; rfl
theorem faultsGo_reads {L : Toks} (x : Int) (l : List Ft) (h : ∀ f ∈ l, okFt f = true) : ∀ (g : Nat) (acc : List Ft) (p : Nat) (r : List Tok), l.length ≤ g → here L p = (l.map fun f => toksOf (ftP f)).flatMap (bar :: ·) ++ r → folF r → noW (⟨#[124]⟩ : ByteArray) r →
    faultsGo L x g acc ⟨p, 0⟩ = (acc ++ l, ⟨p + ((l.map fun f => toksOf (ftP f)).flatMap (bar :: ·)).length, 0⟩) := by
  induction l with
  | nil =>
    intro f acc p r hf hh hr hn
    have hw : isW L (⟨#[124]⟩ : ByteArray) ⟨p, 0⟩ = false := isW_no (l := r) hh hn
    cases f with
    | zero => simp [faultsGo]
    | succ f => rw [faultsGo, hw]; simp
  | cons y l ih =>
    intro f acc p r hf hh hr hn
    cases f with
    | zero => simp at hf
    | succ f =>
      have hh1 : here L p = bar :: (toksOf (ftP y) ++ ((l.map fun f => toksOf (ftP f)).flatMap (bar :: ·) ++ r)) := by rw [hh]; simp
      have hw : isW L (⟨#[124]⟩ : ByteArray) ⟨p, 0⟩ = true := by rw [isW_at_here hh1]; decide
      have hh2 := (here_cons hh1).2
      have hfk : folF ((l.map fun f => toksOf (ftP f)).flatMap (bar :: ·) ++ r) := by
        cases l with
        | nil => exact hr
        | cons k2 ks => exact noW_cons (by decide)
      have hp := fault_reads x (h y (by simp)) hh2 hfk
      have hh3 := here_append _ hh2
      rw [faultsGo, hw, if_pos rfl, show adv ⟨p, 0⟩ = ⟨p + 1, 0⟩ from rfl, hp]
      rw [ih (fun q hq => h q (by simp [hq])) f _ _ r (by simpa using hf) hh3 hr hn]
      simp only [List.map_cons, List.flatMap_cons, List.length_append, List.length_cons, List.append_assoc, List.singleton_append]
      refine Prod.ext rfl ?_
      show (⟨_, 0⟩ : St) = ⟨_, 0⟩
      congr 1; omega
theorem faults_reads {L : Toks} (x : Int) {l : List Ft} (h : l.all okFt = true) (h0 : 0 < l.length) {p : Nat} {r : List Tok} (hh : here L p = toksOf (joinP (l.map ftP) orSep) ++ r) (hr : folF r) (hn : noW (⟨#[124]⟩ : ByteArray) r) : pFaults L x ⟨p, 0⟩ = (l, ⟨p + (toksOf (joinP (l.map ftP) orSep)).length, 0⟩) := by
  rw [toks_join _ orSep bar rfl, List.map_map] at hh ⊢
  have hall := List.all_eq_true.1 h
  match l with
  | [] => simp at h0
  | y :: l =>
    have hh1 : here L p = toksOf (ftP y) ++ ((l.map fun f => toksOf (ftP f)).flatMap (bar :: ·) ++ r) := by rw [hh]; simp [joinT, Function.comp_def]
    have hfk : folF ((l.map fun f => toksOf (ftP f)).flatMap (bar :: ·) ++ r) := by
      cases l with
      | nil => exact hr
      | cons k2 ks => exact noW_cons (by decide)
    have hp := fault_reads x (hall y (by simp)) hh1 hfk
    have hh2 := here_append _ hh1
    have hlen : l.length ≤ L.length := by
      have a := here_len hh2
      have b := flat_len bar (l.map fun f => toksOf (ftP f))
      simp only [List.length_append, List.length_map] at a b
      omega
    have hg := faultsGo_reads x l (fun q hq => hall q (by simp [hq])) L.length [y] _ r hlen hh2 hr hn
    unfold pFaults
    rw [hp]
    simp only
    rw [hg]
    refine Prod.ext rfl ?_
    show (⟨_, 0⟩ : St) = ⟨_, 0⟩
    simp only [joinT, List.map_cons, List.length_append, Function.comp_def]
    congr 1; omega
theorem folOr_semi (r : List Tok) : folOr (semi :: r) := ⟨noW_cons (by decide), noW_cons (by decide)⟩
theorem folOr_word (b : List UInt8) (r : List Tok) (hb : lexName b = true) : folOr (wordTok b :: r) := ⟨noW_cons (word_sym hb (by decide)), noW_cons (word_sym hb (by decide))⟩
end Go.Proofs.YtipicaoinnblpaaGreatDoor
namespace Go.Proofs.YtipicaoinnblpaaGreatDoor

theorem kind_eta (d : Dc) {k : Int} (h : d.kind = k) (line : Int) : { d with line := line } = (⟨k, line, d.name, d.names, d.faults, d.term, d.proto, d.read, d.write, d.use⟩ : Dc) := by rw [← h]
theorem adv_mk (q : Nat) : adv ⟨q, 0⟩ = ⟨q + 1, 0⟩ := rfl
set_option maxHeartbeats 1000000 in
theorem body_reads {L : Toks} (x : Int) {d : Dc} (h0 : okDc d = true) {p : Nat} {r : List Tok} (line : Int) (hh : here L p = toksOf (dcP d) ++ r) :
    ∃ q, pBody L x (.zero line) ⟨p, 0⟩ = ({ d with line := line }, ⟨q, 0⟩) ∧ here L q = semi :: r ∧ q + 1 = p + (toksOf (dcP d)).length := by
  have h := dc_ok h0
  unfold dcP at hh ⊢
  rcases dc_kind h with hk | hk | hk | hk | hk | hk | hk
  · rw [if_pos hk] at hh ⊢
    have hn := dc_named h (by rw [hk]; rfl)
    obtain ⟨e1, e2, e3, e4⟩ := dc_plain h (by rw [hk]; rfl)
    rw [kind_eta d hk, e1, e2, e3, e4 (by rw [hk]; rfl), dc_noterm h (by rw [hk]; rfl), dc_nofaults h (by rw [hk]; rfl)]
    have h00 := dc_names h (by rw [hk]; rfl)
    have hh1 : here L p = wordTok [115, 105, 116, 101] :: wordTok d.name.data.toList :: lb :: (toksOf (namesP d.names) ++ rb :: (semi :: r)) := by rw [hh, toksOf_append, toksOf_append]; simp [toksOf, Pc.toks, lb, rb, semi]
    have hh2 := (here_cons hh1).2
    have n1 := nameR_yes hh2 hn
    obtain ⟨b1, b2⟩ := braces_reads h.names h00 (here_cons hh2).2
    refine ⟨_, ?_, b2, ?_⟩
    · unfold pBody pSite
      rw [isW_at_here hh1, show isWord (⟨#[115, 105, 116, 101]⟩ : ByteArray) (wordTok [115, 105, 116, 101]) = true by decide, if_pos rfl, adv_mk, n1]
      simp only
      rw [b1]; rfl
    · rw [toksOf_append, toksOf_append]
      simp only [List.length_append, toksOf_cons, toksOf_nil, Pc.toks, List.length_cons, List.length_nil]; omega
  · rw [if_neg (by omega), if_pos hk] at hh ⊢
    have hn := dc_named h (by rw [hk]; rfl)
    obtain ⟨e1, e2, e3, e4⟩ := dc_plain h (by rw [hk]; rfl)
    rw [kind_eta d hk, e1, e2, e3, e4 (by rw [hk]; rfl), dc_noterm h (by rw [hk]; rfl), dc_nonames h (by rw [hk]; rfl)]
    have h00 := dc_faults h (by rw [hk]; rfl)
    have hh1 : here L p = wordTok [102, 97, 117, 108, 116, 115] :: wordTok d.name.data.toList :: symTok 61 :: (toksOf (joinP (d.faults.map ftP) orSep) ++ (semi :: r)) := by rw [hh, toksOf_append, toksOf_append]; simp [toksOf, Pc.toks, semi]
    have hh2 := (here_cons hh1).2
    have n1 := nameR_yes hh2 hn
    have hh3 := (here_cons hh2).2
    have f1 := faults_reads x h.faults h00 (here_cons hh3).2 (noW_cons (by decide)) (noW_cons (by decide))
    refine ⟨_, ?_, here_append _ (here_cons hh3).2, ?_⟩
    · unfold pBody pFaultsD
      rw [isW_at_here hh1, show isWord (⟨#[115, 105, 116, 101]⟩ : ByteArray) (wordTok [102, 97, 117, 108, 116, 115]) = false by decide, if_neg (by simp), isW_at_here hh1, show isWord (⟨#[102, 97, 117, 108, 116, 115]⟩ : ByteArray) (wordTok [102, 97, 117, 108, 116, 115]) = true by decide, if_pos rfl, adv_mk, n1]
      simp only
      rw [need_yes hh3 (by decide), f1]; rfl
    · rw [toksOf_append, toksOf_append]
      simp only [List.length_append, toksOf_cons, toksOf_nil, Pc.toks, List.length_cons, List.length_nil]; omega
  · rw [if_neg (by omega), if_neg (by omega), if_pos hk] at hh ⊢
    have hn := dc_named h (by rw [hk]; rfl)
    have ht : okTm d.term = true := by have := h.term; rw [hk] at this; exact this
    obtain ⟨e1, e2, e3, e4⟩ := dc_plain h (by rw [hk]; rfl)
    rw [kind_eta d hk, e1, e2, e3, e4 (by rw [hk]; rfl), dc_nofaults h (by rw [hk]; rfl), dc_nonames h (by rw [hk]; rfl)]
    have hh1 : here L p = wordTok [113, 117, 111, 114, 117, 109] :: wordTok d.name.data.toList :: symTok 61 :: (tt d.term ++ (semi :: r)) := by rw [hh, toksOf_append, toksOf_append]; simp [toksOf, Pc.toks, semi, tt]
    have hh2 := (here_cons hh1).2
    have n1 := nameR_yes hh2 hn
    have hh3 := (here_cons hh2).2
    have t1 := term_reads L ht _ _ (here_cons hh3).2 (folOr_semi r)
    refine ⟨_, ?_, here_append _ (here_cons hh3).2, ?_⟩
    · unfold pBody pQuorum
      rw [isW_at_here hh1, show isWord (⟨#[115, 105, 116, 101]⟩ : ByteArray) (wordTok [113, 117, 111, 114, 117, 109]) = false by decide, if_neg (by simp), isW_at_here hh1, show isWord (⟨#[102, 97, 117, 108, 116, 115]⟩ : ByteArray) (wordTok [113, 117, 111, 114, 117, 109]) = false by decide, if_neg (by simp), isW_at_here hh1, show isWord (⟨#[113, 117, 111, 114, 117, 109]⟩ : ByteArray) (wordTok [113, 117, 111, 114, 117, 109]) = true by decide, if_pos rfl, adv_mk, n1]
      simp only
      rw [need_yes hh3 (by decide), t1]; rfl
    · rw [toksOf_append, toksOf_append]
      simp only [List.length_append, toksOf_cons, toksOf_nil, Pc.toks, List.length_cons, List.length_nil]
      have : (toksOf (tmPcs d.term)).length = (tt d.term).length := rfl
      omega
  · rw [if_neg (by omega), if_neg (by omega), if_neg (by omega), if_pos hk] at hh ⊢
    have hn := dc_named h (by rw [hk]; rfl)
    obtain ⟨hp, hr, hw, hu⟩ := dc_conf h (by rw [hk]; rfl)
    rw [kind_eta d hk, dc_noterm h (by rw [hk]; rfl), dc_nofaults h (by rw [hk]; rfl), dc_nonames h (by rw [hk]; rfl)]
    have hh1 : here L p = wordTok [99, 111, 110, 102, 105, 103] :: wordTok d.name.data.toList :: wordTok d.proto.data.toList :: wordTok [114, 101, 97, 100] :: (tt d.read ++ wordTok [119, 114, 105, 116, 101] :: (tt d.write ++ wordTok [102, 97, 117, 108, 116, 115] :: wordTok d.use.data.toList :: semi :: r)) := by
      rw [hh]; simp only [toksOf_append, toksOf_cons, toksOf_nil]; simp [Pc.toks, semi, tt]
    have hh2 := (here_cons hh1).2
    have n1 := nameR_yes hh2 hn
    have hh3 := (here_cons hh2).2
    have hh4 := (here_cons hh3).2
    have hh5 := (here_cons hh4).2
    have t1 := term_reads L hr _ _ hh5 (folOr_word _ _ (by decide))
    have hh6 := here_append _ hh5
    have hh7 := (here_cons hh6).2
    have t2 := term_reads L hw _ _ hh7 (folOr_word _ _ (by decide))
    have hh8 := here_append _ hh7
    have hh9 := (here_cons hh8).2
    have n2 := nameR_yes hh9 hu
    have hcr : isW L (⟨#[99, 114, 97, 115, 104]⟩ : ByteArray) ⟨p + 1 + 1, 0⟩ = (d.proto == (⟨#[99, 114, 97, 115, 104]⟩ : ByteArray)) := by
      rw [isW_at_here hh3]
      show (((1 : Nat) == 1 || (1 : Nat) == 4) && (bs d.proto.data.toList == (⟨#[99, 114, 97, 115, 104]⟩ : ByteArray))) = _
      rw [bs_of]; rfl
    have hst : (if (d.proto == (⟨#[99, 114, 97, 115, 104]⟩ : ByteArray)) = true then adv ⟨p + 1 + 1, 0⟩ else need L (⟨#[98, 121, 122, 97, 110, 116, 105, 110, 101]⟩ : ByteArray) ⟨p + 1 + 1, 0⟩) = ⟨p + 1 + 1 + 1, 0⟩ := by
      cases e : (d.proto == (⟨#[99, 114, 97, 115, 104]⟩ : ByteArray))
      · rw [e, Bool.false_or] at hp
        rw [if_neg (by simp)]
        refine need_yes hh3 ?_
        show (((1 : Nat) == 1 || (1 : Nat) == 4) && (bs d.proto.data.toList == (⟨#[98, 121, 122, 97, 110, 116, 105, 110, 101]⟩ : ByteArray))) = true
        rw [bs_of, hp]; rfl
      · rfl
    have hpr : (if (d.proto == (⟨#[99, 114, 97, 115, 104]⟩ : ByteArray)) = true then (⟨#[99, 114, 97, 115, 104]⟩ : ByteArray) else (⟨#[98, 121, 122, 97, 110, 116, 105, 110, 101]⟩ : ByteArray)) = d.proto := by
      cases e : (d.proto == (⟨#[99, 114, 97, 115, 104]⟩ : ByteArray))
      · rw [e, Bool.false_or, ba_iff] at hp
        rw [if_neg (by simp)]; exact hp.symm
      · rw [if_pos rfl]; exact ((ba_iff _ _).1 e).symm
    refine ⟨_, ?_, (here_cons hh9).2, ?_⟩
    · unfold pBody pConfig pCfg
      rw [isW_at_here hh1, show isWord (⟨#[115, 105, 116, 101]⟩ : ByteArray) (wordTok [99, 111, 110, 102, 105, 103]) = false by decide, if_neg (by simp), isW_at_here hh1, show isWord (⟨#[102, 97, 117, 108, 116, 115]⟩ : ByteArray) (wordTok [99, 111, 110, 102, 105, 103]) = false by decide, if_neg (by simp), isW_at_here hh1, show isWord (⟨#[113, 117, 111, 114, 117, 109]⟩ : ByteArray) (wordTok [99, 111, 110, 102, 105, 103]) = false by decide, if_neg (by simp), isW_at_here hh1, show isWord (⟨#[99, 111, 110, 102, 105, 103]⟩ : ByteArray) (wordTok [99, 111, 110, 102, 105, 103]) = true by decide, if_pos rfl, adv_mk, n1]
      simp only
      rw [hcr, hst, need_yes hh4 (by decide), t1]
      simp only
      rw [need_yes hh6 (by decide), t2]
      simp only
      rw [need_yes hh8 (by decide), n2, hpr]; rfl
    · simp only [toksOf_append, List.length_append, toksOf_cons, toksOf_nil, Pc.toks, List.length_cons, List.length_nil]
      have : (toksOf (tmPcs d.read)).length = (tt d.read).length := rfl
      have : (toksOf (tmPcs d.write)).length = (tt d.write).length := rfl
      omega
  · rw [if_neg (by omega), if_neg (by omega), if_neg (by omega), if_neg (by omega), if_pos hk] at hh ⊢
    obtain ⟨e1, e2, e3, e4⟩ := dc_plain h (by rw [hk]; rfl)
    rw [kind_eta d hk, e1, e2, e3, e4 (by rw [hk]; rfl), dc_noterm h (by rw [hk]; rfl), dc_nofaults h (by rw [hk]; rfl), dc_noname h (by rw [hk]; rfl)]
    have h00 := dc_names h (by rw [hk]; rfl)
    have hh1 : here L p = wordTok [119, 105, 116, 110, 101, 115, 115] :: (toksOf (namesP d.names) ++ (semi :: r)) := by rw [hh, toksOf_append, toksOf_append]; simp [toksOf, Pc.toks, semi]
    have hh2 := (here_cons hh1).2
    have n1 := names_reads h.names h00 hh2 (noW_cons (by decide))
    refine ⟨_, ?_, here_append _ hh2, ?_⟩
    · unfold pBody
      rw [isW_at_here hh1, show isWord (⟨#[115, 105, 116, 101]⟩ : ByteArray) (wordTok [119, 105, 116, 110, 101, 115, 115]) = false by decide, if_neg (by simp), isW_at_here hh1, show isWord (⟨#[102, 97, 117, 108, 116, 115]⟩ : ByteArray) (wordTok [119, 105, 116, 110, 101, 115, 115]) = false by decide, if_neg (by simp), isW_at_here hh1, show isWord (⟨#[113, 117, 111, 114, 117, 109]⟩ : ByteArray) (wordTok [119, 105, 116, 110, 101, 115, 115]) = false by decide, if_neg (by simp), isW_at_here hh1, show isWord (⟨#[99, 111, 110, 102, 105, 103]⟩ : ByteArray) (wordTok [119, 105, 116, 110, 101, 115, 115]) = false by decide, if_neg (by simp), isW_at_here hh1, show isWord (⟨#[119, 105, 116, 110, 101, 115, 115]⟩ : ByteArray) (wordTok [119, 105, 116, 110, 101, 115, 115]) = true by decide, if_pos rfl, adv_mk, n1]; rfl
    · simp only [toksOf_append, List.length_append, toksOf_cons, toksOf_nil, Pc.toks, List.length_cons, List.length_nil]; omega
  · rw [if_neg (by omega), if_neg (by omega), if_neg (by omega), if_neg (by omega), if_neg (by omega), if_neg (by omega)] at hh ⊢
    have hn := dc_named h (by rw [hk]; rfl)
    obtain ⟨e1, e2, e3, -⟩ := dc_plain h (by rw [hk]; rfl)
    rw [kind_eta d hk, e1, e2, e3, dc_noterm h (by rw [hk]; rfl), dc_nofaults h (by rw [hk]; rfl), dc_nonames h (by rw [hk]; rfl)]
    by_cases hu : d.use.size = 0
    · rw [if_pos hu] at hh ⊢
      rw [size_nil hu]
      have hh1 : here L p = wordTok [99, 108, 105, 101, 110, 116] :: wordTok d.name.data.toList :: semi :: r := hh
      have hh2 := (here_cons hh1).2
      have n1 := nameR_yes hh2 hn
      have hh3 := (here_cons hh2).2
      refine ⟨_, ?_, hh3, ?_⟩
      · unfold pBody pClient
        rw [isW_at_here hh1, show isWord (⟨#[115, 105, 116, 101]⟩ : ByteArray) (wordTok [99, 108, 105, 101, 110, 116]) = false by decide, if_neg (by simp), isW_at_here hh1, show isWord (⟨#[102, 97, 117, 108, 116, 115]⟩ : ByteArray) (wordTok [99, 108, 105, 101, 110, 116]) = false by decide, if_neg (by simp), isW_at_here hh1, show isWord (⟨#[113, 117, 111, 114, 117, 109]⟩ : ByteArray) (wordTok [99, 108, 105, 101, 110, 116]) = false by decide, if_neg (by simp), isW_at_here hh1, show isWord (⟨#[99, 111, 110, 102, 105, 103]⟩ : ByteArray) (wordTok [99, 108, 105, 101, 110, 116]) = false by decide, if_neg (by simp), isW_at_here hh1, show isWord (⟨#[119, 105, 116, 110, 101, 115, 115]⟩ : ByteArray) (wordTok [99, 108, 105, 101, 110, 116]) = false by decide, if_neg (by simp), isW_at_here hh1, show isWord (⟨#[99, 108, 105, 101, 110, 116]⟩ : ByteArray) (wordTok [99, 108, 105, 101, 110, 116]) = true by decide, if_pos rfl, adv_mk, n1]
        simp only
        rw [isW_at_here hh3, show isWord (⟨#[102, 97, 117, 108, 116, 115]⟩ : ByteArray) semi = false by decide, if_neg (by simp)]; rfl
      · simp only [toksOf_cons, toksOf_nil, Pc.toks, List.length_append, List.length_cons, List.length_nil]
    · rw [if_neg hu] at hh ⊢
      have hu2 : okName d.use = true := by rcases h.use with h | h
                                           · exact absurd h hu
                                           · exact h
      have hh1 : here L p = wordTok [99, 108, 105, 101, 110, 116] :: wordTok d.name.data.toList :: wordTok [102, 97, 117, 108, 116, 115] :: wordTok d.use.data.toList :: semi :: r := hh
      have hh2 := (here_cons hh1).2
      have n1 := nameR_yes hh2 hn
      have hh3 := (here_cons hh2).2
      have hh4 := (here_cons hh3).2
      have n2 := nameR_yes hh4 hu2
      refine ⟨_, ?_, (here_cons hh4).2, ?_⟩
      · unfold pBody pClient
        rw [isW_at_here hh1, show isWord (⟨#[115, 105, 116, 101]⟩ : ByteArray) (wordTok [99, 108, 105, 101, 110, 116]) = false by decide, if_neg (by simp), isW_at_here hh1, show isWord (⟨#[102, 97, 117, 108, 116, 115]⟩ : ByteArray) (wordTok [99, 108, 105, 101, 110, 116]) = false by decide, if_neg (by simp), isW_at_here hh1, show isWord (⟨#[113, 117, 111, 114, 117, 109]⟩ : ByteArray) (wordTok [99, 108, 105, 101, 110, 116]) = false by decide, if_neg (by simp), isW_at_here hh1, show isWord (⟨#[99, 111, 110, 102, 105, 103]⟩ : ByteArray) (wordTok [99, 108, 105, 101, 110, 116]) = false by decide, if_neg (by simp), isW_at_here hh1, show isWord (⟨#[119, 105, 116, 110, 101, 115, 115]⟩ : ByteArray) (wordTok [99, 108, 105, 101, 110, 116]) = false by decide, if_neg (by simp), isW_at_here hh1, show isWord (⟨#[99, 108, 105, 101, 110, 116]⟩ : ByteArray) (wordTok [99, 108, 105, 101, 110, 116]) = true by decide, if_pos rfl, adv_mk, n1]
        simp only
        rw [isW_at_here hh3, show isWord (⟨#[102, 97, 117, 108, 116, 115]⟩ : ByteArray) (wordTok [102, 97, 117, 108, 116, 115]) = true by decide, if_pos rfl, adv_mk, n2]; rfl
      · simp only [toksOf_cons, toksOf_nil, Pc.toks, List.length_append, List.length_cons, List.length_nil]
  · rw [if_neg (by omega), if_neg (by omega), if_neg (by omega), if_neg (by omega), if_neg (by omega), if_pos hk] at hh ⊢
    obtain ⟨e1, e2, e3, e4⟩ := dc_plain h (by rw [hk]; rfl)
    rw [kind_eta d hk, e1, e2, e3, e4 (by rw [hk]; rfl), dc_noterm h (by rw [hk]; rfl), dc_nofaults h (by rw [hk]; rfl), dc_noname h (by rw [hk]; rfl)]
    have h00 := dc_names h (by rw [hk]; rfl)
    have hh1 : here L p = wordTok [99, 104, 97, 105, 110] :: (toksOf (namesP d.names) ++ (semi :: r)) := by rw [hh, toksOf_append, toksOf_append]; simp [toksOf, Pc.toks, semi]
    have hh2 := (here_cons hh1).2
    have n1 := names_reads h.names h00 hh2 (noW_cons (by decide))
    refine ⟨_, ?_, here_append _ hh2, ?_⟩
    · unfold pBody
      rw [isW_at_here hh1, show isWord (⟨#[115, 105, 116, 101]⟩ : ByteArray) (wordTok [99, 104, 97, 105, 110]) = false by decide, if_neg (by simp), isW_at_here hh1, show isWord (⟨#[102, 97, 117, 108, 116, 115]⟩ : ByteArray) (wordTok [99, 104, 97, 105, 110]) = false by decide, if_neg (by simp), isW_at_here hh1, show isWord (⟨#[113, 117, 111, 114, 117, 109]⟩ : ByteArray) (wordTok [99, 104, 97, 105, 110]) = false by decide, if_neg (by simp), isW_at_here hh1, show isWord (⟨#[99, 111, 110, 102, 105, 103]⟩ : ByteArray) (wordTok [99, 104, 97, 105, 110]) = false by decide, if_neg (by simp), isW_at_here hh1, show isWord (⟨#[119, 105, 116, 110, 101, 115, 115]⟩ : ByteArray) (wordTok [99, 104, 97, 105, 110]) = false by decide, if_neg (by simp), isW_at_here hh1, show isWord (⟨#[99, 108, 105, 101, 110, 116]⟩ : ByteArray) (wordTok [99, 104, 97, 105, 110]) = false by decide, if_neg (by simp), isW_at_here hh1, show isWord (⟨#[99, 104, 97, 105, 110]⟩ : ByteArray) (wordTok [99, 104, 97, 105, 110]) = true by decide, if_pos rfl, adv_mk, n1]; rfl
    · simp only [toksOf_append, List.length_append, toksOf_cons, toksOf_nil, Pc.toks, List.length_cons, List.length_nil]; omega
theorem decl_reads {L : Toks} (x : Int) {d : Dc} (h0 : okDc d = true) {p : Nat} {r : List Tok} (hh : here L p = toksOf (dcP d) ++ r) :
    pDecl L x ⟨p, 0⟩ = ({ d with line := lineOf L p }, ⟨p + (toksOf (dcP d)).length, 0⟩) := by
  obtain ⟨q, h1, h2, h3⟩ := body_reads x h0 (lineOf L p) hh
  unfold pDecl
  simp only
  rw [h1]
  simp only
  rw [need_yes h2 (by decide), h3]
theorem dc_toks_pos {d : Dc} (L : Toks) (h0 : okDc d = true) {p : Nat} {r : List Tok} (hh : here L p = toksOf (dcP d) ++ r) : 0 < (toksOf (dcP d)).length := by
  obtain ⟨q, h1, h2, h3⟩ := body_reads 4 h0 0 hh
  apply Decidable.byContradiction
  intro hn
  have h0 : (toksOf (dcP d)).length = 0 := by omega
  have e := List.length_eq_zero_iff.1 h0
  rw [e] at hh
  have hq : q < p := by omega
  have a : (here L p).length = L.length - p := by unfold here; simp
  have b : (here L q).length = L.length - q := by unfold here; simp
  rw [hh] at a
  rw [h2] at b
  simp only [List.nil_append, List.length_cons] at a b
  have hp : pBody L 4 (.zero 0) ⟨p, 0⟩ = _ := h1
  have := (ahead_body (L := L) 4 (.zero 0) (s := ⟨p, 0⟩) (by
    apply Decidable.byContradiction
    intro hc
    have : L.length < p := by simpa using hc
    omega)).le
  rw [hp] at this
  simp only at this
  omega
theorem declsGo_reads {L : Toks} (x : Int) : ∀ (l : List Dc), l.all okDc = true → ∀ (f : Nat) (acc : List Dc) (p : Nat), l.length ≤ f → here L p = (l.map fun d => toksOf (dcP d)).flatten →
    ∃ l', declsGo L x f acc ⟨p, 0⟩ = (acc ++ l', ⟨p + ((l.map fun d => toksOf (dcP d)).flatten).length, 0⟩) ∧ l'.map unline = l.map unline := by
  intro l
  induction l with
  | nil =>
    intro _ f acc p _ hh
    refine ⟨[], ?_, rfl⟩
    have hp : L.length ≤ p := by
      have := congrArg List.length hh
      simp [here] at this
      omega
    cases f with
    | zero => simp [declsGo]
    | succ f => rw [declsGo, if_neg (by simp; omega)]; simp
  | cons d l ih =>
    intro hok f acc p hf hh
    rw [List.all_cons, Bool.and_eq_true] at hok
    cases f with
    | zero => simp at hf
    | succ f =>
      have hh1 : here L p = toksOf (dcP d) ++ (l.map fun d => toksOf (dcP d)).flatten := by rw [hh]; simp
      have hpos := dc_toks_pos L hok.1 hh1
      have hlt : p < L.length := by
        have := congrArg List.length hh1
        simp [here] at this
        omega
      have hd := decl_reads x hok.1 hh1
      obtain ⟨l', h1, h2⟩ := ih hok.2 f (acc ++ [{ d with line := lineOf L p }]) _ (by simpa using hf) (here_append _ hh1)
      refine ⟨{ d with line := lineOf L p } :: l', ?_, by rw [List.map_cons, List.map_cons, h2]; rfl⟩
      rw [declsGo, if_pos ⟨rfl, hlt⟩, hd]
      simp only
      rw [h1]
      simp only [List.map_cons, List.flatten_cons, List.length_append, List.append_assoc, List.singleton_append]
      refine Prod.ext rfl ?_
      show (⟨_, 0⟩ : St) = ⟨_, 0⟩
      congr 1; omega
theorem dcs_toks (l : List Dc) : toksOf (dcsP l) = (l.map fun d => toksOf (dcP d)).flatten := by
  unfold dcsP
  induction l with
  | nil => rfl
  | cons d r ih => rw [List.flatMap_cons, toksOf_append, ih, toksOf_append]; simp [toksOf, Pc.toks]
/-- Neat pieces with the tokens of valid declarations are read as these, if they are not too long. -/
theorem parse_pcs (x : Int) {l : List Dc} (h : l.all okDc = true) {ps : List Pc} (hn : Neat ps) (ht : toksOf ps = toksOf (dcsP l)) (hb : (bytesOf ps).length ≤ 65536) (hs : (toksOf ps).length ≤ 3000) :
    ∃ l', parseOf x (bytesOf ps) = (l', 0, 0) ∧ l'.map unline = l.map unline := by
  obtain ⟨L, h1, h2⟩ := lex_pcs ps false hn.1 hn.2 1 []
  rw [List.nil_append] at h1
  have hll : L.length = (toksOf ps).length := by rw [← List.length_map (f := (·.1)), h2]
  have hh : here L 0 = (l.map fun d => toksOf (dcP d)).flatten := by unfold here; rw [List.drop_zero, h2, ht, dcs_toks]
  have hlen : l.length ≤ L.length := by
    rw [hll, ht, dcs_toks]
    have : ∀ (q : List Dc) p, q.all okDc = true → here L p = (q.map fun d => toksOf (dcP d)).flatten → q.length ≤ ((q.map fun d => toksOf (dcP d)).flatten).length := by
      intro q
      induction q with
      | nil => intro p _ _; simp
      | cons d r ih =>
        intro p hq hp
        rw [List.all_cons, Bool.and_eq_true] at hq
        have hp1 : here L p = toksOf (dcP d) ++ (r.map fun d => toksOf (dcP d)).flatten := by rw [hp]; simp
        have a := dc_toks_pos L hq.1 hp1
        have b := ih _ hq.2 (here_append _ hp1)
        simp only [List.map_cons, List.flatten_cons, List.length_append, List.length_cons]
        omega
    exact this l 0 h hh
  obtain ⟨l', g1, g2⟩ := declsGo_reads x l h L.length [] 0 hlen hh
  refine ⟨l', ?_, g2⟩
  unfold parseOf
  rw [h1]
  simp only
  rw [if_neg (by omega), if_neg (by simp), if_neg (by omega), g1]
  rfl
/-- The text of valid declarations that is not too long is read as the declarations, apart from the lines. -/
theorem parse_round (x : Int) {l : List Dc} (h : l.all okDc = true) (hs : sizedOk (dcsText l) = true) : ∃ l', parseOf x (dcsText l) = (l', 0, 0) ∧ l'.map unline = l.map unline := by
  have hn := dcs_neat h
  obtain ⟨L, h1, h2⟩ := lex_pcs (dcsP l) false hn.1 hn.2 1 []
  have hll : L.length = (toksOf (dcsP l)).length := by rw [← List.length_map (f := (·.1)), h2]
  have hb := dcs_bytes h
  rw [hb, List.nil_append] at h1
  unfold sizedOk at hs
  rw [h1] at hs
  simp only [Bool.and_eq_true, decide_eq_true_eq] at hs
  rw [← hb]
  exact parse_pcs x h hn rfl (by rw [hb]; exact hs.1.1) (by omega)
end Go.Proofs.YtipicaoinnblpaaGreatDoor
