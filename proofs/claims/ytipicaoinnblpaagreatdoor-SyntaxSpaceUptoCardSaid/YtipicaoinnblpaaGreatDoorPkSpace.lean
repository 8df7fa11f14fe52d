/- The gaps of the texts of valid declarations. No condition. White space between the tokens of a text: the text of valid declarations whose spaces and commas are replaced is read as the declarations, apart from the lines. No condition. The contracts of the library's functions at this seat's program, as the kit's tool lays them (lay-shelf, lay-plain); each by one application. The contract of the statement SyntaxSpace: it returns true. Declarations of a size up to a bound. What the listed package-level variables give where five are listed, and a world for the witness. -/
import Derived.Test.YtipicaoinnblpaaGreatDoorPkRound
import Derived.Lib.Replace
import Derived.Test.YtipicaoinnblpaaGreatDoorPkFmta
import Derived.Shelf.Strings.Builder1
import Derived.Shelf.Strings.Builder2
import Derived.Shelf.Strings.OnBuilder
import Derived.Shelf.Strconv.Itoa0
import Derived.Shelf.Strconv.Itoa1
import Derived.Shelf.LaysM
import Derived.Shelf.Strconv.Itoa2
import Derived.Shelf.Strconv.Itoa3
import Derived.Shelf.Strings.Search1
import Derived.Shelf.Strings.Search2
import Derived.Shelf.Strings.Search3
import Derived.Shelf.Strings.Count
import Derived.Shelf.Strings.Shaped
import Derived.Shelf.Strings.Replace
import Derived.Shelf.Bits.Mul64
import Derived.Shelf.Strings.Repeat
import Derived.Shelf.Slices.Turned
import Derived.Shelf.Slices.Equal
import Derived.Test.YtipicaoinnblpaaGreatDoorProg
import Derived.Test.YtipicaoinnblpaaGreatDoorPkSameF
import Derived.Test.YtipicaoinnblpaaGreatDoorPkAw
namespace Go.Proofs.YtipicaoinnblpaaGreatDoor

/-- Pieces whose gaps are a space, or a line feed too. -/
def pg (nl : Bool) (p : Pc) : Bool := match p with | .gap g => g == [32] || (nl && g == [10]) | _ => true
def plainG (nl : Bool) (l : List Pc) : Bool := l.all (pg nl)
section
variable {nl : Bool}
theorem pg_append (a b : List Pc) : plainG nl (a ++ b) = (plainG nl a && plainG nl b) := by simp [plainG]
theorem pg_join (l : List (List Pc)) (sep : List Pc) (hs : plainG nl sep = true) (h : ∀ x ∈ l, plainG nl x = true) : plainG nl (joinP l sep) = true := by
  cases l with
  | nil => rfl
  | cons x r =>
    rw [joinP, pg_append, h x (by simp), Bool.true_and]
    have hr : ∀ y ∈ r, plainG nl y = true := fun y hy => h y (by simp [hy])
    clear h
    induction r with
    | nil => rfl
    | cons y r ih => rw [List.flatMap_cons, pg_append, pg_append, hs, hr y (by simp), ih fun z hz => hr z (by simp [hz])]; rfl
theorem pg_par (ops : List Int) (t : Tm) (x : List Pc) (h : plainG nl x = true) : plainG nl (parP ops t x) = true := by
  unfold parP
  split
  · rw [pg_append, pg_append, h]; rfl
  · exact h
theorem pg_zip (ops : List Int) (ks : List Tm) : ∀ (l : List (List Pc)), (∀ x ∈ l, plainG nl x = true) → ∀ y ∈ List.zipWith (parP ops) ks l, plainG nl y = true := by
  induction ks with
  | nil => intro l _ y hy; simp at hy
  | cons k r ih =>
    intro l h y hy
    cases l with
    | nil => simp at hy
    | cons x l =>
      rw [List.zipWith_cons_cons] at hy
      rcases List.mem_cons.1 hy with rfl | hy
      · exact pg_par _ _ _ (h x (by simp))
      · exact ih l (fun z hz => h z (by simp [hz])) y hy
theorem pg_weighed (ws : List Int) (l : List (List Pc)) (h : ∀ x ∈ l, plainG nl x = true) : ∀ y ∈ weighedP ws l, plainG nl y = true := by
  intro y hy
  obtain ⟨z, hz, e | ⟨u, -, e⟩⟩ := weighedP_mem hy
  · subst e; exact h _ hz
  · subst e; rw [pg_append, h z hz]; rfl
theorem pg_tm : ∀ (n : Nat) (t : Tm), tmSize t ≤ n → plainG nl (tmPcs t) = true := by
  intro n
  induction n with
  | zero => intro t ht; have : 0 < tmSize t := by (cases t; rw [tmSize]; omega)
            omega
  | succ n ih =>
    intro t ht
    have hk : ∀ x ∈ t.kids.map tmPcs, plainG nl x = true := by
      intro x hx
      obtain ⟨k, hk, rfl⟩ := List.mem_map.1 hx
      refine ih k ?_
      have := tm_size_mem hk
      have := tmsSize_kids t
      omega
    rw [tmPcs_eq]
    unfold headP
    split
    · exact pg_join _ _ (by cases nl <;> rfl) (pg_zip _ _ _ hk)
    split
    · exact pg_join _ _ (by cases nl <;> rfl) (pg_zip _ _ _ hk)
    split
    · rw [pg_append, pg_append]
      have : plainG nl ((t.kids.map tmPcs).headD []) = true := by
        cases e : t.kids.map tmPcs with
        | nil => rfl
        | cons x r => exact hk x (by rw [e]; simp)
      rw [this]; rfl
    split
    · rfl
    split
    · rfl
    split
    · rfl
    split
    · rw [pg_append, pg_append, pg_join _ _ (by cases nl <;> rfl) (pg_weighed _ _ hk)]; rfl
    · rfl
theorem pg_tmP (t : Tm) : plainG nl (tmPcs t) = true := pg_tm _ t (Nat.le_refl _)
theorem pg_names (l : List ByteArray) : plainG nl (namesP l) = true := pg_join _ _ (by cases nl <;> rfl) (fun x hx => by obtain ⟨y, -, rfl⟩ := List.mem_map.1 hx; rfl)
theorem pg_cons (p : Pc) (l : List Pc) : plainG nl (p :: l) = (pg nl p && plainG nl l) := rfl
theorem pg_word (b : List UInt8) : pg nl (.word b) = true := rfl
theorem pg_sym (c : UInt8) : pg nl (.sym c) = true := rfl
theorem pg_sp : pg nl (.gap [32]) = true := rfl
theorem pg_nil : plainG nl [] = true := rfl
theorem pg_braced (w : List UInt8) (l : List ByteArray) : plainG nl (bracedP w l) = true := by
  unfold bracedP
  simp only [pg_append, pg_cons, pg_word, pg_sym, pg_sp, pg_nil, pg_names, Bool.and_self]
theorem pg_ft (f : Ft) : plainG nl (ftP f) = true := by
  unfold ftP
  split
  · rfl
  split
  · rfl
  split
  · rfl
  split
  · rfl
  split
  · unfold setsP
    split
    · exact pg_braced _ _
    split
    · exact pg_braced _ _
    · rw [pg_append, pg_cons, pg_braced, pg_braced]; rfl
  · rfl
theorem pg_dc (d : Dc) : plainG nl (dcP d) = true := by
  unfold dcP
  split
  · simp only [pg_append, pg_cons, pg_word, pg_sym, pg_sp, pg_nil, pg_names, Bool.and_self]
  split
  · have := pg_join (nl := nl) (d.faults.map ftP) orSep (by cases nl <;> rfl) (fun x hx => by obtain ⟨y, -, rfl⟩ := List.mem_map.1 hx; exact pg_ft y)
    simp only [pg_append, pg_cons, pg_word, pg_sym, pg_sp, pg_nil, this, Bool.and_self]
  split
  · simp only [pg_append, pg_cons, pg_word, pg_sym, pg_sp, pg_nil, pg_tmP, Bool.and_self]
  split
  · simp only [pg_append, pg_cons, pg_word, pg_sym, pg_sp, pg_nil, pg_tmP, Bool.and_self]
  split
  · simp only [pg_append, pg_cons, pg_word, pg_sym, pg_sp, pg_nil, pg_names, Bool.and_self]
  split
  · simp only [pg_append, pg_cons, pg_word, pg_sym, pg_sp, pg_nil, pg_names, Bool.and_self]
  split
  · rfl
  · rfl
end
theorem pg_dcs (l : List Dc) : plainG true (dcsP l) = true := by
  unfold dcsP
  induction l with
  | nil => rfl
  | cons d r ih => rw [List.flatMap_cons, pg_append, pg_append, pg_dc, ih]; rfl

end Go.Proofs.YtipicaoinnblpaaGreatDoor
namespace Go.Proofs.YtipicaoinnblpaaGreatDoor

def rep (c : UInt8) (new : List UInt8) (b : UInt8) : List UInt8 := if b = c then new else [b]
theorem repl_one (c : UInt8) (new : List UInt8) : ∀ s : List UInt8, Lib.replaceK [c] new (Lib.count s [c]) s = s.flatMap (rep c new) := by
  intro s
  induction s with
  | nil => rw [Lib.count_miss (by simp [Lib.index])]; rfl
  | cons b r ih =>
    by_cases h : b = c
    · subst h
      have hix : Lib.index (b :: r) [b] = ((0 : Nat) : Int) := by rw [Lib.index]; simp [List.isPrefixOf]
      rw [Lib.count_cons_eq, Nat.add_comm, Lib.replaceK_hit _ _ _ _ 0 hix, List.flatMap_cons, ← ih]
      simp [rep]
    · have hix : Lib.index (b :: r) [c] = if Lib.index r [c] == -1 then -1 else Lib.index r [c] + 1 := by
        have hp : ([c] : List UInt8).isPrefixOf (b :: r) = false := by simp [List.isPrefixOf, Ne.symm h]
        rw [Lib.index, hp]; simp
      rw [Lib.count_cons_ne b c r h, List.flatMap_cons, ← ih, rep, if_neg h]
      cases hk : Lib.count r [c] with
      | zero => rfl
      | succ k =>
        obtain ⟨i, hi⟩ := Lib.index_of_count (s := r) (old := [c]) (by omega)
        have hi' : Lib.index (b :: r) [c] = ((i + 1 : Nat) : Int) := by
          rw [hix, hi, if_neg (fun e => by have := beq_iff_eq.1 e; omega)]; omega
        rw [Lib.replaceK_hit _ _ _ _ _ hi', Lib.replaceK_hit _ _ _ _ _ hi]
        simp
theorem rep_same (c : UInt8) (s : List UInt8) : s.flatMap (rep c [c]) = s := by
  induction s with
  | nil => rfl
  | cons b r ih =>
    rw [List.flatMap_cons, ih]
    unfold rep
    split
    · rename_i h; subst h; rfl
    · rfl
theorem replaceAll_one (c : UInt8) (new s : List UInt8) : Lib.replaceAll s [c] new = s.flatMap (rep c new) := by
  unfold Lib.replaceAll Lib.replace
  by_cases h : ([c] == new) = true
  · rw [if_pos h]
    obtain rfl : [c] = new := by simpa using h
    rw [rep_same]
  · rw [if_neg h, ← repl_one]
    rfl
theorem rep_none (c : UInt8) (new s : List UInt8) (h : ∀ b ∈ s, b ≠ c) : s.flatMap (rep c new) = s := by
  induction s with
  | nil => rfl
  | cons b r ih =>
    rw [List.flatMap_cons, ih (fun d hd => h d (by simp [hd])), rep, if_neg (h b (by simp))]; rfl

/-- The pieces behind the replacements. -/
def subP (sp : List UInt8) (p : Pc) : List Pc := match p with
  | .gap g => if g = [32] then [.gap sp] else [.gap g]
  | .sym c => if c = 44 then [.gap sp, .sym 44] else [.sym c]
  | p => [p]
theorem cont_not {c : UInt8} (h : isCont c.toNat = true) : c ≠ 32 ∧ c ≠ 44 := by
  constructor
  · rintro rfl; exact absurd h (by decide)
  · rintro rfl; exact absurd h (by decide)
theorem sub_bytes (sp : List UInt8) (hc : ∀ b ∈ sp, b ≠ 44) {p : Pc} (hok : p.ok) (hp : pg true p = true) : (p.bytes.flatMap (rep 32 sp)).flatMap (rep 44 (sp ++ [44])) = bytesOf (subP sp p) := by
  cases p with
  | word b =>
    obtain ⟨-, -, -, -, -, h⟩ := lexName_parts hok
    have e : (Pc.word b).bytes = b := rfl
    rw [e, rep_none _ _ _ (fun d hd => (cont_not (h d hd)).1), rep_none _ _ _ (fun d hd => (cont_not (h d hd)).2)]
    simp [subP, bytesOf, Pc.bytes]
  | int n =>
    have h : ∀ d ∈ Lib.itoa n, isCont d.toNat = true := fun d hd => by
      rw [itoa_nat hok] at hd
      unfold isCont
      rw [dec_digits _ _ (Nat.le_refl _) d hd, Bool.or_true]
    have e : (Pc.int n).bytes = Lib.itoa n := rfl
    rw [e, rep_none _ _ _ (fun d hd => (cont_not (h d hd)).1), rep_none _ _ _ (fun d hd => (cont_not (h d hd)).2)]
    simp [subP, bytesOf, Pc.bytes]
  | sym c =>
    have h32 : c ≠ 32 := by rintro rfl; exact absurd hok.1 (by decide)
    have e : (Pc.sym c).bytes = [c] := rfl
    rw [e, rep_none 32 sp [c] (fun d hd => by simp at hd; subst hd; exact h32)]
    by_cases h44 : c = 44
    · subst h44; simp [subP, bytesOf, Pc.bytes, rep]
    · simp [subP, bytesOf, Pc.bytes, rep, h44]
  | gap g =>
    have hg : g = [32] ∨ g = [10] := by simpa [pg] using hp
    have e : (Pc.gap g).bytes = g := rfl
    rw [e]
    rcases hg with rfl | rfl
    · have e2 : ([32] : List UInt8).flatMap (rep 32 sp) = sp := by simp [rep]
      rw [e2, rep_none _ _ _ hc]
      simp [subP, bytesOf, Pc.bytes]
    · rw [rep_none 32 sp [10] (by decide), rep_none 44 _ [10] (by decide)]
      simp [subP, bytesOf, Pc.bytes]
theorem subs_bytes (sp : List UInt8) (hc : ∀ b ∈ sp, b ≠ 44) (ps : List Pc) (hok : ∀ p ∈ ps, p.ok) (hp : plainG true ps = true) : ((bytesOf ps).flatMap (rep 32 sp)).flatMap (rep 44 (sp ++ [44])) = bytesOf (ps.flatMap (subP sp)) := by
  induction ps with
  | nil => rfl
  | cons p r ih =>
    rw [pg_cons, Bool.and_eq_true] at hp
    rw [bytesOf_cons, List.flatMap_append, List.flatMap_append, sub_bytes sp hc (hok p (by simp)) hp.1, ih (fun q hq => hok q (by simp [hq])) hp.2, List.flatMap_cons, bytesOf_append]
theorem subs_toks (sp : List UInt8) (ps : List Pc) : toksOf (ps.flatMap (subP sp)) = toksOf ps := by
  induction ps with
  | nil => rfl
  | cons p r ih =>
    rw [List.flatMap_cons, toksOf_append, ih, toksOf_cons]
    congr 1
    cases p with
    | word b => simp [subP, toksOf, Pc.toks]
    | int n => simp [subP, toksOf, Pc.toks]
    | sym c =>
      by_cases h : c = 44
      · subst h; simp [subP, toksOf, Pc.toks]
      · simp [subP, toksOf, Pc.toks, h]
    | gap g =>
      by_cases h : g = [32]
      · subst h; simp [subP, toksOf, Pc.toks]
      · simp [subP, toksOf, Pc.toks, h]
theorem subs_sepd (sp : List UInt8) (ps : List Pc) : ∀ b, sepd b ps = true → sepd b (ps.flatMap (subP sp)) = true := by
  induction ps with
  | nil => intro b _; rfl
  | cons p r ih =>
    intro b h
    have h2 : (!(b && p.solid) && sepd p.solid r) = true := h
    rw [Bool.and_eq_true] at h2
    have h3 := ih _ h2.2
    rw [List.flatMap_cons]
    cases p with
    | word w => show sepd b (.word w :: r.flatMap (subP sp)) = true; rw [sepd, h2.1, h3]; rfl
    | int n => show sepd b (.int n :: r.flatMap (subP sp)) = true; rw [sepd, h2.1, h3]; rfl
    | sym c =>
      by_cases h : c = 44
      · subst h
        show sepd b (.gap sp :: .sym 44 :: r.flatMap (subP sp)) = true
        rw [sepd_gap, sepd_sym]; exact h3
      · rw [show subP sp (.sym c) = [.sym c] from if_neg h]
        show sepd b (.sym c :: r.flatMap (subP sp)) = true
        rw [sepd_sym]; exact h3
    | gap g =>
      by_cases h : g = [32]
      · subst h
        show sepd b (.gap sp :: r.flatMap (subP sp)) = true
        rw [sepd_gap]; exact h3
      · rw [show subP sp (.gap g) = [.gap g] from if_neg h]
        show sepd b (.gap g :: r.flatMap (subP sp)) = true
        rw [sepd_gap]; exact h3
theorem subs_ok (sp : List UInt8) (hg : GapOk sp) (ps : List Pc) (h : ∀ p ∈ ps, p.ok) : ∀ p ∈ ps.flatMap (subP sp), p.ok := by
  intro q hq
  obtain ⟨p, hp, hq⟩ := List.mem_flatMap.1 hq
  have hok := h p hp
  cases p with
  | word b => rw [show subP sp (.word b) = [.word b] from rfl] at hq; simp at hq; subst hq; exact hok
  | int n => rw [show subP sp (.int n) = [.int n] from rfl] at hq; simp at hq; subst hq; exact hok
  | sym c =>
    unfold subP at hq
    simp only at hq
    split at hq
    · simp at hq
      rcases hq with rfl | rfl
      · exact hg
      · exact ok_sym
    · simp at hq; subst hq; exact hok
  | gap g =>
    unfold subP at hq
    simp only at hq
    split at hq
    · simp at hq; subst hq; exact hg
    · simp at hq; subst hq; exact hok
theorem subs_length (sp : List UInt8) (ps : List Pc) : (bytesOf (ps.flatMap (subP sp))).length ≤ (sp.length + 1) * (bytesOf ps).length := by
  induction ps with
  | nil => simp [bytesOf]
  | cons p r ih =>
    rw [List.flatMap_cons, bytesOf_append, bytesOf_cons, List.length_append, List.length_append, Nat.mul_add]
    refine Nat.add_le_add ?_ ih
    have hle : ∀ n : Nat, n ≤ (sp.length + 1) * n := fun n => Nat.le_mul_of_pos_left n (by omega)
    cases p with
    | word b => simpa [subP, bytesOf] using hle _
    | int n => simpa [subP, bytesOf] using hle _
    | sym c =>
      by_cases h : c = 44
      · subst h; simp [subP, bytesOf, Pc.bytes]
      · simp [subP, bytesOf, Pc.bytes, h]
    | gap g =>
      by_cases h : g = [32]
      · subst h; simp [subP, bytesOf, Pc.bytes]
      · rw [show subP sp (.gap g) = [.gap g] from if_neg h]
        simpa [bytesOf] using hle _

/-- The statement's five gaps. -/
def gapN (n : Nat) : List UInt8 := if n = 0 then [9] else if n = 1 then [10] else if n = 2 then [32, 32] else if n = 3 then [32, 47, 47, 32, 99, 111, 109, 109, 101, 110, 116, 32, 59, 10] else [13, 10]
theorem gap_comment : GapOk [32, 47, 47, 32, 99, 111, 109, 109, 101, 110, 116, 32, 59, 10] := by
  refine ⟨⟨_, _, rfl, by decide⟩, fun rest line acc => ⟨line + 1, ?_⟩⟩
  have e1 : ([32, 47, 47, 32, 99, 111, 109, 109, 101, 110, 116, 32, 59, 10] : List UInt8) ++ rest = 32 :: 47 :: ([47, 32, 99, 111, 109, 109, 101, 110, 116, 32, 59, 10] ++ rest) := rfl
  rw [e1, lex_white 32 _ _ _ (by decide), if_neg (by decide), lex_comment 47 _ _ _ (by decide) ⟨rfl, rfl⟩]
  have e2 : dropLine (47 :: ([47, 32, 99, 111, 109, 109, 101, 110, 116, 32, 59, 10] ++ rest)) = 10 :: rest := by
    simp [dropLine]
  rw [e2, lex_white 10 _ _ _ (by decide), if_pos rfl]
theorem gapN_ok (n : Nat) : GapOk (gapN n) ∧ (∀ b ∈ gapN n, b ≠ 44) ∧ (gapN n).length ≤ 14 := by
  unfold gapN
  split
  · exact ⟨⟨⟨_, _, rfl, by decide⟩, gap_white [9] (by decide)⟩, by decide, by decide⟩
  split
  · exact ⟨gap_line, by decide, by decide⟩
  split
  · exact ⟨⟨⟨_, _, rfl, by decide⟩, gap_white [32, 32] (by decide)⟩, by decide, by decide⟩
  split
  · exact ⟨gap_comment, by decide, by decide⟩
  · exact ⟨⟨⟨_, _, rfl, by decide⟩, gap_white [13, 10] (by decide)⟩, by decide, by decide⟩

/-- The statement's text. -/
def spaced (sp s : List UInt8) : List UInt8 := sp ++ Lib.replaceAll (Lib.replaceAll s [32] sp) [44] (sp ++ [44])
theorem space_round (x : Int) {l : List Dc} (h : l.all okDc = true) (hs : sizedOk (dcsText l) = true) (hb : (dcsText l).length ≤ 4000) (n : Nat) : ∃ l', parseOf x (spaced (gapN n) (dcsText l)) = (l', 0, 0) ∧ l'.map unline = l.map unline := by
  obtain ⟨hg, hc, hl⟩ := gapN_ok n
  generalize gapN n = sp at hg hc hl
  have hn := dcs_neat h
  obtain ⟨L, h1, h2⟩ := lex_pcs (dcsP l) false hn.1 hn.2 1 []
  have hll : L.length = (toksOf (dcsP l)).length := by rw [← List.length_map (f := (·.1)), h2]
  have hby := dcs_bytes h
  rw [hby, List.nil_append] at h1
  unfold sizedOk at hs
  rw [h1] at hs
  simp only [Bool.and_eq_true, decide_eq_true_eq] at hs
  have e : spaced sp (dcsText l) = bytesOf (.gap sp :: (dcsP l).flatMap (subP sp)) := by
    unfold spaced
    rw [replaceAll_one, replaceAll_one, ← hby, subs_bytes sp hc _ hn.2 (pg_dcs l)]; rfl
  have ht : toksOf (.gap sp :: (dcsP l).flatMap (subP sp)) = toksOf (dcsP l) := by rw [toksOf_cons, subs_toks]; rfl
  have hlen := subs_length sp (dcsP l)
  rw [hby] at hlen
  have h15 : (sp.length + 1) * (dcsText l).length ≤ 15 * 4000 := Nat.mul_le_mul (by omega) hb
  rw [e]
  refine parse_pcs x h ⟨?_, ?_⟩ ht ?_ (by rw [ht]; omega)
  · rw [sepd_gap]; exact subs_sepd sp _ _ hn.1
  · intro p hp
    rcases List.mem_cons.1 hp with rfl | hp
    · exact hg
    · exact subs_ok sp hg _ hn.2 p hp
  · rw [bytesOf_cons, List.length_append]
    have : (Pc.gap sp).bytes.length = sp.length := rfl
    omega
end Go.Proofs.YtipicaoinnblpaaGreatDoor
namespace Go.Proofs
open Go.Shelf
def Tryz.lays155_ren : Go.Shelf.Ren := ⟨fun | 155 => 28 | 154 => 58 | 138 => 111 | 165 => 61 | 143 => 112 | 166 => 53 | 197 => 113 | 169 => 55 | 195 => 142 | 218 => 143 | 240 => 101 | 241 => 117 | 219 => 144 | 260 => 145 | 276 => 141 | 277 => 146 | 217 => 147 | 225 => 165 | 224 => 166 | 267 => 167 | 266 => 168 | 314 => 176 | n => n, fun | 9 => 9 | 3 => 3 | 4 => 4 | 72 => 79 | 0 => 0 | 76 => 82 | 105 => 120 | 21 => 21 | 5 => 5 | 70 => 76 | 20 => 20 | 37 => 77 | 75 => 81 | 127 => 117 | 164 => 138 | 46 => 87 | 119 => 152 | 139 => 155 | 138 => 154 | 146 => 123 | 51 => 122 | 80 => 85 | n => n, fun | 1 => 0 | 3 => 1 | 4 => 2 | n => n⟩
theorem Tryz.lays155 : Go.Proofs.Lays.n155 Tryz.prog Tryz.lays155_ren := {
  mixed := by kernel_rfl
  f138 := Tryz.func111.trans (congrArg some (by kernel_rfl))
  f143 := Tryz.func112.trans (congrArg some (by kernel_rfl))
  f154 := Tryz.func58.trans (congrArg some (by kernel_rfl))
  f155 := Tryz.func28.trans (congrArg some (by kernel_rfl))
  f165 := Tryz.func61.trans (congrArg some (by kernel_rfl))
  f166 := Tryz.func53.trans (congrArg some (by kernel_rfl))
  f169 := Tryz.func55.trans (congrArg some (by kernel_rfl))
  f195 := Tryz.func142.trans (congrArg some (by kernel_rfl))
  f197 := Tryz.func113.trans (congrArg some (by kernel_rfl))
  f217 := Tryz.func147.trans (congrArg some (by kernel_rfl))
  f218 := Tryz.func143.trans (congrArg some (by kernel_rfl))
  f219 := Tryz.func144.trans (congrArg some (by kernel_rfl))
  f224 := Tryz.func166.trans (congrArg some (by kernel_rfl))
  f225 := Tryz.func165.trans (congrArg some (by kernel_rfl))
  f240 := Tryz.func101.trans (congrArg some (by kernel_rfl))
  f241 := Tryz.func117.trans (congrArg some (by kernel_rfl))
  f260 := Tryz.func145.trans (congrArg some (by kernel_rfl))
  f266 := Tryz.func168.trans (congrArg some (by kernel_rfl))
  f267 := Tryz.func167.trans (congrArg some (by kernel_rfl))
  f276 := Tryz.func141.trans (congrArg some (by kernel_rfl))
  f277 := Tryz.func146.trans (congrArg some (by kernel_rfl))
  f314 := Tryz.func176.trans (congrArg some (by kernel_rfl))
  t0 := Tryz.underlying0
  a0 := Tryz.isAgg0
  z0 := Tryz.sizeOf0
  v0 := Tryz.zeroValue0
  t3 := Tryz.underlying3
  a3 := Tryz.isAgg3
  z3 := Tryz.sizeOf3
  v3 := Tryz.zeroValue3
  t4 := Tryz.underlying4
  a4 := Tryz.isAgg4
  z4 := Tryz.sizeOf4
  v4 := Tryz.zeroValue4
  t5 := Tryz.underlying5
  a5 := Tryz.isAgg5
  z5 := Tryz.sizeOf5
  v5 := Tryz.zeroValue5
  t9 := Tryz.underlying9
  a9 := Tryz.isAgg9
  z9 := Tryz.sizeOf9
  v9 := Tryz.zeroValue9
  t20 := Tryz.underlying20
  a20 := Tryz.isAgg20
  z20 := Tryz.sizeOf20
  v20 := Tryz.zeroValue20
  t21 := Tryz.underlying21
  a21 := Tryz.isAgg21
  z21 := Tryz.sizeOf21
  v21 := Tryz.zeroValue21
  t37 := Tryz.underlying77
  a37 := Tryz.isAgg77
  z37 := Tryz.sizeOf77
  v37 := Tryz.zeroValue77
  t46 := Tryz.underlying87
  a46 := Tryz.isAgg87
  z46 := Tryz.sizeOf87
  v46 := Tryz.zeroValue87
  t51 := Tryz.underlying122
  a51 := Tryz.isAgg122
  z51 := Tryz.sizeOf122
  v51 := Tryz.zeroValue122
  t70 := Tryz.underlying76
  a70 := Tryz.isAgg76
  z70 := Tryz.sizeOf76
  v70 := Tryz.zeroValue76
  t72 := Tryz.underlying79
  a72 := Tryz.isAgg79
  z72 := Tryz.sizeOf79
  v72 := Tryz.zeroValue79
  t75 := Tryz.underlying81
  a75 := Tryz.isAgg81
  z75 := Tryz.sizeOf81
  v75 := Tryz.zeroValue81
  t76 := Tryz.underlying82
  a76 := Tryz.isAgg82
  z76 := Tryz.sizeOf82
  v76 := Tryz.zeroValue82
  t105 := Tryz.underlying120
  a105 := Tryz.isAgg120
  z105 := Tryz.sizeOf120
  v105 := Tryz.zeroValue120
  t119 := Tryz.underlying152
  a119 := Tryz.isAgg152
  z119 := Tryz.sizeOf152
  t127 := Tryz.underlying117
  a127 := Tryz.isAgg117
  z127 := Tryz.sizeOf117
  v127 := Tryz.zeroValue117
  t138 := Tryz.underlying154
  a138 := Tryz.isAgg154
  z138 := Tryz.sizeOf154
  v138 := Tryz.zeroValue154
  t139 := Tryz.underlying155
  a139 := Tryz.isAgg155
  z139 := Tryz.sizeOf155
  v139 := Tryz.zeroValue155
  t146 := Tryz.underlying123
  a146 := Tryz.isAgg123
  z146 := Tryz.sizeOf123
  v146 := Tryz.zeroValue123
  t164 := Tryz.underlying138
  a164 := Tryz.isAgg138
  z164 := Tryz.sizeOf138
  v164 := Tryz.zeroValue138
  g1 := by kernel_rfl
  g3 := by kernel_rfl
  g4 := by kernel_rfl }
theorem Tryz.Builder_Extra_155 : Builder.Extra Tryz.prog Tryz.lays155_ren := {
  sizeBuilder := by kernel_rfl
  liesBuilder := by kernel_rfl
  t5 := Tryz.underlying5
  a5 := Tryz.isAgg5
  z5 := Tryz.sizeOf5
  v5 := Tryz.zeroValue5
  infoByte := by kernel_rfl
  cellsByte := by kernel_rfl
  sizeByte := by kernel_rfl
  neB5 := by decide }
open Go.RowKit Go.Lib in
theorem Tryz.strings_ReplaceAll (s old new : ByteArray) (m : Int) (w : World) (hs : s.size < 4294967281) (hm : w.cell? ⟨0, 0, none⟩ = some (.int .i64 m)) (h1 : 1 ≤ old.size) (hlen : s.size + Lib.countB s old * new.size ≤ 140737488355328) :
    Calls Tryz.prog 28 #[.string s, .string old, .string new] w fun e w' =>
      e = .returned (.string ⟨(Lib.replaceAll s.data.toList old.data.toList new.data.toList).toArray⟩) ∧ Below w.heap.size w w' := Any.strings_ReplaceAll Tryz.lays155 Tryz.Builder_Extra_155 s old new m w hs hm h1 hlen
end Go.Proofs
namespace Go.Proofs.YtipicaoinnblpaaGreatDoor
open Go.RowKit

theorem replace_any (s : ByteArray) (c : UInt8) (g : ByteArray) (m : Int) (w : World) (hm : w.cell? ⟨0, 0, none⟩ = some (.int .i64 m)) (hs : s.size ≤ 1000000) (hg : g.size ≤ 1000000) :
    Calls Tryz.prog 28 #[.string s, .string ⟨#[c]⟩, .string g] w fun e w' => e = .returned (.string (bs (Lib.replaceAll s.data.toList [c] g.data.toList))) ∧ Below w.heap.size w w' := by
  refine Tryz.strings_ReplaceAll s ⟨#[c]⟩ g m w (by omega) hm (Nat.le_refl _) ?_
  have h1 : Lib.countB s ⟨#[c]⟩ ≤ s.size + 1 := by
    have := Lib.count_le s.data.toList [c]
    have e : s.data.toList.length = s.size := by simp
    rw [e] at this; exact this
  have h2 : Lib.countB s ⟨#[c]⟩ * g.size ≤ 1000001 * 1000000 := Nat.mul_le_mul (by omega) hg
  omega
theorem format_space {l : List Dc} (h : (formatOf l).2 = 0) (hb : (formatOf l).1.length ≤ 4000) (n : Nat) : ∃ l', parseOf 4 (spaced (gapN n) (formatOf l).1) = (l', 0, 0) ∧ l'.map unline = l.map unline := by
  unfold formatOf at h hb ⊢
  by_cases ho : l.all okDc = true
  · rw [if_pos ho] at h hb ⊢
    unfold sizedOf at h hb ⊢
    by_cases hs : sizedOk (dcsText l) = true
    · rw [if_pos hs] at hb ⊢; exact space_round 4 ho hs hb n
    · rw [if_neg hs] at h; simp at h
  · rw [if_neg ho] at h; simp at h
theorem rep_length (c : UInt8) (new s : List UInt8) : (Lib.replaceAll s [c] new).length ≤ s.length * (new.length + 1) := by
  rw [replaceAll_one]
  induction s with
  | nil => simp
  | cons b r ih =>
    rw [List.flatMap_cons, List.length_append, List.length_cons, Nat.add_mul, Nat.one_mul]
    have : (rep c new b).length ≤ new.length + 1 := by unfold rep; split <;> simp
    omega

set_option maxRecDepth 100000 in
set_option maxHeartbeats 8000000 in
theorem space_law (l : List Dc) (A : Option Addr) (c : Nat) (z : Int) (hz0 : 0 ≤ z) (_ : z ≤ 255) (m : Int) (w : World) (S : Nat → Prop) (hl : ListAt (DcAt w S) w S 22 A l) (hS : ∀ g, S g → g < w.heap.size) (hsz : (l.map dcSize).sum ≤ 1100000) (hpw : Pow w) (hm : w.cell? ⟨0, 0, none⟩ = some (.int .i64 m)) :
    Calls Tryz.prog 9 #[.slice A l.length c, .int .u8 z] w fun e w' => e = .returned (.bool true) ∧ Below w.heap.size w w' := by
  have HP := Lib.hid hpw
  have hL := fun (W : World) (hW : Below w.heap.size w W) => (⟨hl.keep (P' := DcAt W S) (kept_of hW hS) (fun _ _ h => h.keep (kept_of hW hS)), fun g hg => by have := hS g hg; have := hW.size; omega⟩ : ListAt (DcAt W S) W S 22 A l ∧ ∀ g, S g → g < W.heap.size)
  have HFW := Lib.hid (fun (W : World) (hW : Below w.heap.size w W) => few_ref l A c W S (hL W hW).1 (hL W hW).2 hsz)
  have h0 : 0 < w.heap.size := World.block_lt_of_cell? w _ hm
  have HR := Lib.hid (fun (s : ByteArray) (ch : UInt8) (g : ByteArray) (W : World) (hW : Below w.heap.size w W) (h1 : s.size ≤ 1000000) (h2 : g.size ≤ 1000000) => replace_any s ch g m W ((hW.cell (p := ⟨0, 0, none⟩) h0).trans hm) h1 h2)
  clear hm
  go_enter Tryz.func9, Tryz.ntmps9
  go_wp2_with fail
  refine (awake23_any w HP.out).mono ?_
  rintro e W1 ⟨rfl, hb1⟩
  by_cases hfew : (l.map fewSize).sum ≤ 10000
  · rw [decide_eq_true hfew] at HFW
    go_wp2_with fail
    refine (HFW.out W1 hb1).mono ?_
    rintro e W2 ⟨rfl, hb2⟩
    have hw2 := hb1.trans (hb2.mono hb1.size)
    by_cases h30 : l.length ≤ 30
    · have hlI : ¬ (30 : Int) < (l.length : Int) := by omega
      have hlims : ∀ d ∈ l, TLim d ∧ ILim d ∧ QLim d := fun d hd => dc_limits (by have := dc_in_sum hd; omega) (by have := few_in_sum hd; omega)
      have HG := Lib.hid (fun (W : World) (hW : Below w.heap.size w W) => format_ref l A c W S (hL W hW).1 (hL W hW).2 hsz (fun d hd => ⟨(hlims d hd).1, (hlims d hd).2.1⟩) (hpw.below hW))
      have HEQ := Lib.hid (show ∀ (W : World) (l' : List Dc) (A2 : Option Addr) (c2 : Nat) (S2 : Nat → Prop), Below w.heap.size w W → ListAt (DcAt W S2) W S2 22 A2 l' → l'.map unline = l.map unline →
          Calls Tryz.prog 14 #[.slice A2 l'.length c2, .slice A l.length c, .bool false] W fun e w' => e = .returned (.bool true) ∧ Below W.heap.size W w' from
        fun W l' A2 c2 S2 hW h2 hun => equal_true l' l false A2 A c2 c W S2 S h2 (hL W hW).1 hun (fun h => by cases h) (by have := congrArg List.length hun; simp only [List.length_map] at this; omega) (lims_unline hun fun d hd => (hlims d hd).2.2))
      have hok := format_space (l := l)
      obtain ⟨r, hr⟩ : ∃ r, r = formatOf l := ⟨_, rfl⟩
      rw [← hr] at hok HG
      obtain ⟨x, er⟩ := r
      simp only at hok HG
      obtain ⟨X, hX⟩ : ∃ X, X = bs x := ⟨_, rfl⟩
      have hxX : x.length = X.size := by rw [hX, bs_size]
      rw [← hX] at HG
      have HX := Lib.hid hX
      have HOK := Lib.hid hok
      clear hl hsz hpw hL hlims hok hr hX hfew
      go_wp2_with fail
      refine (HG.out W2 hw2).mono ?_
      rintro e W3 ⟨rfl, hb3⟩
      have hw3 := hw2.trans (hb3.mono hw2.size)
      by_cases he : er = 0
      · subst he
        by_cases hx4 : X.size ≤ 4000
        · have hxI : ¬ (4000 : Int) < (X.size : Int) := by omega
          obtain ⟨k, hk⟩ : ∃ k : Nat, k = (z % 5).toNat := ⟨_, rfl⟩
          obtain ⟨l', hp, hun⟩ := HOK.out rfl (by omega) k
          have HPL := Lib.hid hp
          have HUN := Lib.hid hun
          have HXX := Lib.hid hxX
          clear hp hun hxX
          go_upto_region 6 with fail
          go_cut [7] (fun s7 wx => s7 = .string (bs (gapN k)) ∧ Below W3.heap.size W3 wx)
          case first =>
            have h5 : k = 0 ∨ k = 1 ∨ k = 2 ∨ k = 3 ∨ k = 4 := by omega
            have htm : z.tmod 5 = z % 5 := Int.tmod_eq_emod_of_nonneg hz0
            rcases h5 with h5 | h5 | h5 | h5 | h5
            · have e5 : z % 5 = 0 := by omega
              rw [e5] at htm
              have H5 := Lib.hid h5
              clear hk h5
              go_wp2
              go_meet
              exact ⟨by rw [H5.out]; rfl, (Below.refl _ _).alloc (Nat.le_refl _) _⟩
            · have e5 : z % 5 = 1 := by omega
              rw [e5] at htm
              have H5 := Lib.hid h5
              clear hk h5
              go_wp2
              go_meet
              exact ⟨by rw [H5.out]; rfl, (Below.refl _ _).alloc (Nat.le_refl _) _⟩
            · have e5 : z % 5 = 2 := by omega
              rw [e5] at htm
              have H5 := Lib.hid h5
              clear hk h5
              go_wp2
              go_meet
              exact ⟨by rw [H5.out]; rfl, (Below.refl _ _).alloc (Nat.le_refl _) _⟩
            · have e5 : z % 5 = 3 := by omega
              rw [e5] at htm
              have H5 := Lib.hid h5
              clear hk h5
              go_wp2
              go_meet
              exact ⟨by rw [H5.out]; rfl, (Below.refl _ _).alloc (Nat.le_refl _) _⟩
            · have e5 : z % 5 = 4 := by omega
              rw [e5] at htm
              have H5 := Lib.hid h5
              clear hk h5
              go_wp2
              go_meet
              exact ⟨by rw [H5.out]; rfl, (Below.refl _ _).alloc (Nat.le_refl _) _⟩
          case rest =>
            obtain ⟨rfl, hb4⟩ := hcut
            obtain ⟨W4, hW4⟩ : ∃ W4 : World, W4 = wc := ⟨_, rfl⟩
            rw [← hW4] at hb4
            rw [← hW4]
            clear hW4
            have hw4 := hw3.trans (hb4.mono hw3.size)
            obtain ⟨G, hG⟩ : ∃ G, G = bs (gapN k) := ⟨_, rfl⟩
            have hGs : G.size ≤ 14 := by rw [hG, bs_size]; exact (gapN_ok k).2.2
            obtain ⟨R1, hR1⟩ : ∃ R1, R1 = bs (Lib.replaceAll X.data.toList [32] G.data.toList) := ⟨_, rfl⟩
            have hR1s : R1.size ≤ 60000 := by
              rw [hR1, bs_size]
              have h1 := rep_length 32 G.data.toList X.data.toList
              have e1 : X.data.toList.length = X.size := by simp
              have e2 : G.data.toList.length = G.size := by simp
              rw [e1, e2] at h1
              have h2 : X.size * (G.size + 1) ≤ 4000 * 15 := Nat.mul_le_mul hx4 (by omega)
              omega
            obtain ⟨R2, hR2⟩ : ∃ R2, R2 = bs (Lib.replaceAll R1.data.toList [44] (G ++ (⟨#[44]⟩ : ByteArray)).data.toList) := ⟨_, rfl⟩
            have hGc : (G ++ (⟨#[44]⟩ : ByteArray)).size = G.size + 1 := by rw [ByteArray.size_append]; rfl
            have hR2s : R2.size ≤ 1000000 := by
              rw [hR2, bs_size]
              have h1 := rep_length 44 (G ++ (⟨#[44]⟩ : ByteArray)).data.toList R1.data.toList
              have e1 : R1.data.toList.length = R1.size := by simp
              have e2 : (G ++ (⟨#[44]⟩ : ByteArray)).data.toList.length = (G ++ (⟨#[44]⟩ : ByteArray)).size := by rw [Array.length_toList]; rfl
              rw [e1, e2] at h1
              have h2 : R1.size * ((G ++ (⟨#[44]⟩ : ByteArray)).size + 1) ≤ 60000 * 16 := Nat.mul_le_mul hR1s (by omega)
              omega
            have htx : G ++ R2 = bs (spaced (gapN k) x) := by
              have e0 : X.data.toList = x := by rw [HX.out, bs_data]
              have e1 : G.data.toList = gapN k := by rw [hG, bs_data]
              have e2 : (G ++ (⟨#[44]⟩ : ByteArray)) = bs (gapN k ++ [44]) := by rw [hG, show (⟨#[44]⟩ : ByteArray) = bs [44] from rfl, bs_append]
              rw [hR2, hR1, e2, bs_data, bs_data, e0, e1, hG, bs_append]; rfl
            have HPA := Lib.hid (show ∀ W : World, Calls Tryz.prog 12 #[.string (G ++ R2)] W (PfPost (l', 0, 0) W) from fun W => by
              have h := parse_any (bs (spaced (gapN k) x)) W
              rw [bs_data, HPL.out] at h
              rw [htx]; exact h)
            have H1 := Lib.hid (show Calls Tryz.prog 28 #[.string X, .string ⟨#[32]⟩, .string G] W4 fun e w' => e = .returned (.string R1) ∧ Below W4.heap.size W4 w' by
              rw [hR1]; exact HR.out X 32 G W4 hw4 (by omega) (by omega))
            have H2 := Lib.hid (fun (W : World) (hW : Below w.heap.size w W) => show Calls Tryz.prog 28 #[.string R1, .string ⟨#[44]⟩, .string (G ++ (⟨#[44]⟩ : ByteArray))] W fun e w' => e = .returned (.string R2) ∧ Below W.heap.size W w' by
              rw [hR2]; exact HR.out R1 44 (G ++ (⟨#[44]⟩ : ByteArray)) W hW (by omega) (by omega))
            rw [← hG]
            clear hG hR1 hR2 htx HR HPL HX HXX hk
            go_wp2_with fail
            refine H1.out.mono ?_
            rintro e W5 ⟨rfl, hb5⟩
            have hw5 := hw4.trans (hb5.mono hw4.size)
            go_wp2_with fail
            refine (H2.out W5 hw5).mono ?_
            rintro e W6 ⟨rfl, hb6⟩
            have hw6 := hw5.trans (hb6.mono hw5.size)
            go_wp2_with fail
            refine (HPA.out _).mono ?_
            rintro e W7 ⟨A7, c7, rfl, hc7, hl7, hb7⟩
            simp only at hc7 hl7
            have hw7 := hw6.trans (hb7.mono hw6.size)
            have HE := Lib.hid (HEQ.out W7 l' A7 c7 _ hw7 hl7 HUN.out)
            clear hl7 HPA H1 H2
            go_wp2_with fail
            refine HE.out.mono ?_
            rintro e W8 ⟨rfl, hb8⟩
            go_wp2
            go_ret
            exact ⟨rfl, hw7.trans (hb8.mono hw7.size)⟩
        · have hxI : (4000 : Int) < (X.size : Int) := by omega
          clear hxX
          go_wp2
          go_ret
          exact ⟨rfl, hw3⟩
      · have hz : ((er : Int) != 0) = true := natNeq he
        clear he
        go_wp2
        go_ret
        exact ⟨rfl, hw3⟩
    · have hlI : (30 : Int) < (l.length : Int) := by omega
      clear hl hsz hpw hL hfew
      go_wp2_with fail
      refine (awake23_any W2 (HP.out.below hw2)).mono ?_
      rintro e W3 ⟨rfl, hb3⟩
      go_wp2
      go_ret
      exact ⟨rfl, hw2.trans (hb3.mono hw2.size)⟩
  · rw [decide_eq_false hfew] at HFW
    clear hl hsz hpw hL hfew
    go_wp2_with fail
    refine (HFW.out W1 hb1).mono ?_
    rintro e W2 ⟨rfl, hb2⟩
    have hw2 := hb1.trans (hb2.mono hb1.size)
    go_wp2_with fail
    refine (awake23_any W2 (HP.out.below hw2)).mono ?_
    rintro e W3 ⟨rfl, hb3⟩
    go_wp2
    go_ret
    exact ⟨rfl, hw2.trans (hb3.mono hw2.size)⟩
end Go.Proofs.YtipicaoinnblpaaGreatDoor
namespace Go.Proofs.YtipicaoinnblpaaGreatDoor
open Go.ChangeShapes Go.WideShapes Go.ChangeAt Go.RowKit

def laid5 : List (String × DataW Unit) := [("math/bits.deBruijn32tab", Rows.laid_math_bits_deBruijn32tab), ("math/bits.deBruijn64tab", Rows.laid_math_bits_deBruijn64tab), ("internal/strconv.uint64pow10", Rows.laid_internal_strconv_uint64pow10), ("unicode/utf8.acceptRanges", Rows.laid_unicode_utf8_acceptRanges), ("unicode/utf8.first", Rows.laid_unicode_utf8_first)]
theorem pow_of_laid5 {W : World} (h : laidMetH Tryz.prog laid5 W) : Pow W := by
  rw [MakeChecks.laidMetH_plain _ _ _ (by kernel_rfl)] at h
  exact Lib.tabIs_of_head gPow gPowType Tryz.underlying167 Tryz.underlying125 cellsU64 cellsPow (zs := Lib.pow10Tab) (by have h2 := laid_tail (laid_tail h); exact h2)
noncomputable def laidWorld5 (os : Os) : World :=
  { World.holding Tryz.prog os ⟨#[], #[], []⟩ with heap := layAt (layAt (layAt (layAt (layAt (World.holding Tryz.prog os ⟨#[], #[], []⟩).heap 4 (tabVals Rows.laid_math_bits_deBruijn32tab)) 5 (tabVals Rows.laid_math_bits_deBruijn64tab)) 3 (tabVals Rows.laid_internal_strconv_uint64pow10)) 2 (tabVals2 Rows.laid_unicode_utf8_acceptRanges)) 1 (tabVals Rows.laid_unicode_utf8_first) }
set_option maxRecDepth 100000 in
theorem laid_met5 (os : Os) (args : Array Value) : laidMet Tryz.prog laid5 ((laidWorld5 os).forCall (fun _ _ => 0) ⟨#[], args, []⟩).memory :=
  laidMet_of_run' 8 (by kernel_rfl) (by kernel_rfl)
end Go.Proofs.YtipicaoinnblpaaGreatDoor
