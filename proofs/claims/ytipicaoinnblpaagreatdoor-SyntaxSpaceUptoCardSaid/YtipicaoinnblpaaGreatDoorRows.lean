/-
  NARROWER THAN 'FOR EVERY INPUT', by the rows' own cells (each row's printed sentence says how): SyntaxParse: laid · SyntaxTerm: laid · SyntaxFormatTerm: loops, laid · SyntaxAgain: laid · SyntaxFormat: loops, laid · SyntaxNames: loops, laid · SyntaxSpace: loops, laid · SyntaxLarge: laid.
  DERIVED. THE GIVEN ROWS OF THIS SEAT. 8 by the template 'for every input the law returns true; each argument reads behind the call as it read before'; 0 by the template 'total and deterministic' (their statements: YtipicaoinnblpaaGreatDoorTotals.lean).
  GIVEN WITH THE SEED: the statements are not yours to turn. If you find one false, say at which input.
  Laid BY PROGRAM, IN A SANDBOX (cutbox-rows.mjs): the forced cells as the released guide's own fill.sh prints them over the translation f18e717ddf19b91e… (all of the seat's roots in one cut). By AI agents, Wed Nov 11 2026. No macro, syntax, notation, axiom, sorry.
-/
import Derived.Test.YtipicaoinnblpaaGreatDoorChecked
import GoSem.PinnedTables
import GoSem.Claim
import GoSem.ClaimJoined
import GoSem.ClaimMapViews
import Derived.JoinedTies
import Derived.KernelRfl
namespace Go.Proofs.YtipicaoinnblpaaGreatDoor
/- THE CELL 'sum', in the pinned program and in every row, IS THE sha256 OF THE DUMP (.gsa) THAT YtipicaoinnblpaaGreatDoorProg.lean LOADS. Nothing in Lean hashes anything: it is a label: what it is worth is what the hold of that sum in a sandbox is worth. -/
noncomputable def Tryz.pinned : Pinned := { name := "ytipicaoinnblpaagreatdoor", sum := "f18e717ddf19b91efc9aca3d5965afc3833dc5a2d33661496853581eb420dacb", checked := Tryz.checked }
namespace Rows
def none {H : Type} : Left H := { results := [], args := [] }

/- WHAT THE LISTED PACKAGE-LEVEL VARIABLES READ AS WHEN THE CALL BEGINS. Each datum BY PROGRAM (the guide's laid-datum.mjs) off the statement by which the dump's own 'gosem.cut.vars' lays the variable. In a bare row this is a premise. The card (YtipicaoinnblpaaGreatDoorCards.lean) ties it to the program's text. -/
def laid_math_bits_deBruijn32tab {H : Type} : DataW H := .agg [.lit (.int .u8 0), .lit (.int .u8 1), .lit (.int .u8 28), .lit (.int .u8 2), .lit (.int .u8 29), .lit (.int .u8 14), .lit (.int .u8 24), .lit (.int .u8 3), .lit (.int .u8 30), .lit (.int .u8 22), .lit (.int .u8 20), .lit (.int .u8 15), .lit (.int .u8 25), .lit (.int .u8 17), .lit (.int .u8 4), .lit (.int .u8 8), .lit (.int .u8 31), .lit (.int .u8 27), .lit (.int .u8 13), .lit (.int .u8 23), .lit (.int .u8 21), .lit (.int .u8 19), .lit (.int .u8 16), .lit (.int .u8 7), .lit (.int .u8 26), .lit (.int .u8 12), .lit (.int .u8 18), .lit (.int .u8 6), .lit (.int .u8 11), .lit (.int .u8 5), .lit (.int .u8 10), .lit (.int .u8 9)]
def laid_math_bits_deBruijn64tab {H : Type} : DataW H := .agg [.lit (.int .u8 0), .lit (.int .u8 1), .lit (.int .u8 56), .lit (.int .u8 2), .lit (.int .u8 57), .lit (.int .u8 49), .lit (.int .u8 28), .lit (.int .u8 3), .lit (.int .u8 61), .lit (.int .u8 58), .lit (.int .u8 42), .lit (.int .u8 50), .lit (.int .u8 38), .lit (.int .u8 29), .lit (.int .u8 17), .lit (.int .u8 4), .lit (.int .u8 62), .lit (.int .u8 47), .lit (.int .u8 59), .lit (.int .u8 36), .lit (.int .u8 45), .lit (.int .u8 43), .lit (.int .u8 51), .lit (.int .u8 22), .lit (.int .u8 53), .lit (.int .u8 39), .lit (.int .u8 33), .lit (.int .u8 30), .lit (.int .u8 24), .lit (.int .u8 18), .lit (.int .u8 12), .lit (.int .u8 5), .lit (.int .u8 63), .lit (.int .u8 55), .lit (.int .u8 48), .lit (.int .u8 27), .lit (.int .u8 60), .lit (.int .u8 41), .lit (.int .u8 37), .lit (.int .u8 16), .lit (.int .u8 46), .lit (.int .u8 35), .lit (.int .u8 44), .lit (.int .u8 21), .lit (.int .u8 52), .lit (.int .u8 32), .lit (.int .u8 23), .lit (.int .u8 11), .lit (.int .u8 54), .lit (.int .u8 26), .lit (.int .u8 40), .lit (.int .u8 15), .lit (.int .u8 34), .lit (.int .u8 20), .lit (.int .u8 31), .lit (.int .u8 10), .lit (.int .u8 25), .lit (.int .u8 14), .lit (.int .u8 19), .lit (.int .u8 9), .lit (.int .u8 13), .lit (.int .u8 8), .lit (.int .u8 7), .lit (.int .u8 6)]
def laid_internal_strconv_uint64pow10 {H : Type} : DataW H := .agg [.lit (.int .u64 1), .lit (.int .u64 10), .lit (.int .u64 100), .lit (.int .u64 1000), .lit (.int .u64 10000), .lit (.int .u64 100000), .lit (.int .u64 1000000), .lit (.int .u64 10000000), .lit (.int .u64 100000000), .lit (.int .u64 1000000000), .lit (.int .u64 10000000000), .lit (.int .u64 100000000000), .lit (.int .u64 1000000000000), .lit (.int .u64 10000000000000), .lit (.int .u64 100000000000000), .lit (.int .u64 1000000000000000), .lit (.int .u64 10000000000000000), .lit (.int .u64 100000000000000000), .lit (.int .u64 1000000000000000000), .lit (.int .u64 10000000000000000000)]
def laid_unicode_utf8_acceptRanges {H : Type} : DataW H := .agg [.agg [.lit (.int .u8 128), .lit (.int .u8 191)], .agg [.lit (.int .u8 160), .lit (.int .u8 191)], .agg [.lit (.int .u8 128), .lit (.int .u8 159)], .agg [.lit (.int .u8 144), .lit (.int .u8 191)], .agg [.lit (.int .u8 128), .lit (.int .u8 143)], .agg [.lit (.int .u8 0), .lit (.int .u8 0)], .agg [.lit (.int .u8 0), .lit (.int .u8 0)], .agg [.lit (.int .u8 0), .lit (.int .u8 0)], .agg [.lit (.int .u8 0), .lit (.int .u8 0)], .agg [.lit (.int .u8 0), .lit (.int .u8 0)], .agg [.lit (.int .u8 0), .lit (.int .u8 0)], .agg [.lit (.int .u8 0), .lit (.int .u8 0)], .agg [.lit (.int .u8 0), .lit (.int .u8 0)], .agg [.lit (.int .u8 0), .lit (.int .u8 0)], .agg [.lit (.int .u8 0), .lit (.int .u8 0)], .agg [.lit (.int .u8 0), .lit (.int .u8 0)]]
/-- One of Go's own tables, pinned by name: the form's constant. -/
def laid_unicode_utf8_first : DataW Unit := Go.Pinned.utf8First

/-- 'sederuntlaw23.SyntaxParse': WHATEVER THE INPUT: true; the input reads as it did. -/
def syntaxParseSpec : ChangeSpec := { name := "syntaxParse", fn := fun _ => fun
  | [d] => { results := [.lit (.bool true)], args := [d] }
  | _ => none }
def syntaxParseRow : OpenClaim := { program := "ytipicaoinnblpaagreatdoor", sum := "f18e717ddf19b91efc9aca3d5965afc3833dc5a2d33661496853581eb420dacb", func := "sederunt/sederuntlaw23.SyntaxParse", spec := "syntaxParse", inPlace := ["internal/bytealg.IndexByteString", "internal/bytealg.CountString", "internal/bytealg.IndexString", "internal/abi.NoEscape", "internal/bytealg.MakeNoZero"], unfollowed := true, recurses := true, named := ["internal/bytealg.MaxLen", "internal/strconv.uint64pow10", "math/bits.deBruijn32tab", "math/bits.deBruijn64tab"], apart := false, laid := [("math/bits.deBruijn32tab", laid_math_bits_deBruijn32tab), ("math/bits.deBruijn64tab", laid_math_bits_deBruijn64tab), ("internal/strconv.uint64pow10", laid_internal_strconv_uint64pow10)] }
def SyntaxParseSaid : Prop := syntaxParseRow.holds Tryz.pinned (OpenSpec.ofChange syntaxParseSpec)

/-- ITS FALSE NEIGHBOUR: 'it returns false'. Refute it at one input. -/
def syntaxParseWrong : ChangeSpec := { name := "syntaxParse", fn := fun _ => fun
  | [d] => { results := [.lit (.bool false)], args := [d] }
  | _ => none }
def SyntaxParseWrongFalsely : Prop := syntaxParseRow.holds Tryz.pinned (OpenSpec.ofChange syntaxParseWrong)

/-- 'sederuntlaw23.SyntaxTerm': WHATEVER THE INPUT: true; the input reads as it did. -/
def syntaxTermSpec : ChangeSpec := { name := "syntaxTerm", fn := fun _ => fun
  | [d] => { results := [.lit (.bool true)], args := [d] }
  | _ => none }
def syntaxTermRow : OpenClaim := { program := "ytipicaoinnblpaagreatdoor", sum := "f18e717ddf19b91efc9aca3d5965afc3833dc5a2d33661496853581eb420dacb", func := "sederunt/sederuntlaw23.SyntaxTerm", spec := "syntaxTerm", inPlace := ["internal/bytealg.IndexByteString", "internal/bytealg.CountString", "internal/bytealg.IndexString", "internal/abi.NoEscape", "internal/bytealg.MakeNoZero"], unfollowed := true, recurses := true, named := ["internal/bytealg.MaxLen", "internal/strconv.uint64pow10", "math/bits.deBruijn32tab", "math/bits.deBruijn64tab"], apart := false, laid := [("math/bits.deBruijn32tab", laid_math_bits_deBruijn32tab), ("math/bits.deBruijn64tab", laid_math_bits_deBruijn64tab), ("internal/strconv.uint64pow10", laid_internal_strconv_uint64pow10)] }
def SyntaxTermSaid : Prop := syntaxTermRow.holds Tryz.pinned (OpenSpec.ofChange syntaxTermSpec)

/-- ITS FALSE NEIGHBOUR: 'it returns false'. Refute it at one input. -/
def syntaxTermWrong : ChangeSpec := { name := "syntaxTerm", fn := fun _ => fun
  | [d] => { results := [.lit (.bool false)], args := [d] }
  | _ => none }
def SyntaxTermWrongFalsely : Prop := syntaxTermRow.holds Tryz.pinned (OpenSpec.ofChange syntaxTermWrong)

/-- 'sederuntlaw23.SyntaxFormatTerm': WHATEVER THE INPUT: true; the input reads as it did. -/
def syntaxFormatTermSpec : ChangeSpec := { name := "syntaxFormatTerm", fn := fun _ => fun
  | [d] => { results := [.lit (.bool true)], args := [d] }
  | _ => none }
def syntaxFormatTermRow : OpenClaim := { program := "ytipicaoinnblpaagreatdoor", sum := "f18e717ddf19b91efc9aca3d5965afc3833dc5a2d33661496853581eb420dacb", func := "sederunt/sederuntlaw23.SyntaxFormatTerm", spec := "syntaxFormatTerm", inPlace := ["internal/bytealg.IndexByteString", "internal/bytealg.CountString", "internal/bytealg.IndexString", "internal/abi.NoEscape", "internal/bytealg.MakeNoZero"], unfollowed := true, recurses := true, named := ["internal/bytealg.MaxLen", "internal/strconv.uint64pow10", "math/bits.deBruijn32tab", "math/bits.deBruijn64tab"], loops := true, apart := false, laid := [("math/bits.deBruijn32tab", laid_math_bits_deBruijn32tab), ("math/bits.deBruijn64tab", laid_math_bits_deBruijn64tab), ("internal/strconv.uint64pow10", laid_internal_strconv_uint64pow10)] }
def SyntaxFormatTermSaid : Prop := syntaxFormatTermRow.holds Tryz.pinned (OpenSpec.ofChange syntaxFormatTermSpec)

/-- ITS FALSE NEIGHBOUR: 'it returns false'. Refute it at one input. -/
def syntaxFormatTermWrong : ChangeSpec := { name := "syntaxFormatTerm", fn := fun _ => fun
  | [d] => { results := [.lit (.bool false)], args := [d] }
  | _ => none }
def SyntaxFormatTermWrongFalsely : Prop := syntaxFormatTermRow.holds Tryz.pinned (OpenSpec.ofChange syntaxFormatTermWrong)

/-- 'sederuntlaw23.SyntaxAgain': WHATEVER THE INPUT: true; the input reads as it did. -/
def syntaxAgainSpec : ChangeSpec := { name := "syntaxAgain", fn := fun _ => fun
  | [d] => { results := [.lit (.bool true)], args := [d] }
  | _ => none }
def syntaxAgainRow : OpenClaim := { program := "ytipicaoinnblpaagreatdoor", sum := "f18e717ddf19b91efc9aca3d5965afc3833dc5a2d33661496853581eb420dacb", func := "sederunt/sederuntlaw23.SyntaxAgain", spec := "syntaxAgain", inPlace := ["internal/bytealg.IndexByteString", "internal/bytealg.CountString", "internal/bytealg.IndexString", "internal/abi.NoEscape", "internal/bytealg.MakeNoZero"], unfollowed := true, recurses := true, named := ["internal/bytealg.MaxLen", "internal/strconv.uint64pow10", "math/bits.deBruijn32tab", "math/bits.deBruijn64tab"], apart := false, laid := [("math/bits.deBruijn32tab", laid_math_bits_deBruijn32tab), ("math/bits.deBruijn64tab", laid_math_bits_deBruijn64tab), ("internal/strconv.uint64pow10", laid_internal_strconv_uint64pow10)] }
def SyntaxAgainSaid : Prop := syntaxAgainRow.holds Tryz.pinned (OpenSpec.ofChange syntaxAgainSpec)

/-- ITS FALSE NEIGHBOUR: 'it returns false'. Refute it at one input. -/
def syntaxAgainWrong : ChangeSpec := { name := "syntaxAgain", fn := fun _ => fun
  | [d] => { results := [.lit (.bool false)], args := [d] }
  | _ => none }
def SyntaxAgainWrongFalsely : Prop := syntaxAgainRow.holds Tryz.pinned (OpenSpec.ofChange syntaxAgainWrong)

/-- 'sederuntlaw23.SyntaxFormat': WHATEVER THE INPUT: true; the input reads as it did. -/
def syntaxFormatSpec : ChangeSpec := { name := "syntaxFormat", fn := fun _ => fun
  | [d] => { results := [.lit (.bool true)], args := [d] }
  | _ => none }
def syntaxFormatRow : OpenClaim := { program := "ytipicaoinnblpaagreatdoor", sum := "f18e717ddf19b91efc9aca3d5965afc3833dc5a2d33661496853581eb420dacb", func := "sederunt/sederuntlaw23.SyntaxFormat", spec := "syntaxFormat", inPlace := ["internal/bytealg.IndexByteString", "internal/bytealg.CountString", "internal/bytealg.IndexString", "internal/abi.NoEscape", "internal/bytealg.MakeNoZero"], unfollowed := true, recurses := true, named := ["internal/bytealg.MaxLen", "internal/strconv.uint64pow10", "math/bits.deBruijn32tab", "math/bits.deBruijn64tab"], loops := true, apart := false, laid := [("math/bits.deBruijn32tab", laid_math_bits_deBruijn32tab), ("math/bits.deBruijn64tab", laid_math_bits_deBruijn64tab), ("internal/strconv.uint64pow10", laid_internal_strconv_uint64pow10)] }
def SyntaxFormatSaid : Prop := syntaxFormatRow.holds Tryz.pinned (OpenSpec.ofChange syntaxFormatSpec)

/-- ITS FALSE NEIGHBOUR: 'it returns false'. Refute it at one input. -/
def syntaxFormatWrong : ChangeSpec := { name := "syntaxFormat", fn := fun _ => fun
  | [d] => { results := [.lit (.bool false)], args := [d] }
  | _ => none }
def SyntaxFormatWrongFalsely : Prop := syntaxFormatRow.holds Tryz.pinned (OpenSpec.ofChange syntaxFormatWrong)

/-- 'sederuntlaw23.SyntaxNames': WHATEVER THE INPUT: true; the input reads as it did. -/
def syntaxNamesSpec : ChangeSpec := { name := "syntaxNames", fn := fun _ => fun
  | [d] => { results := [.lit (.bool true)], args := [d] }
  | _ => none }
def syntaxNamesRow : OpenClaim := { program := "ytipicaoinnblpaagreatdoor", sum := "f18e717ddf19b91efc9aca3d5965afc3833dc5a2d33661496853581eb420dacb", func := "sederunt/sederuntlaw23.SyntaxNames", spec := "syntaxNames", inPlace := ["internal/bytealg.IndexByteString", "internal/bytealg.CountString", "internal/bytealg.IndexString", "internal/abi.NoEscape", "internal/bytealg.MakeNoZero"], unfollowed := true, recurses := true, named := ["internal/bytealg.MaxLen", "internal/strconv.uint64pow10", "math/bits.deBruijn32tab", "math/bits.deBruijn64tab"], loops := true, apart := false, laid := [("math/bits.deBruijn32tab", laid_math_bits_deBruijn32tab), ("math/bits.deBruijn64tab", laid_math_bits_deBruijn64tab), ("internal/strconv.uint64pow10", laid_internal_strconv_uint64pow10)] }
def SyntaxNamesSaid : Prop := syntaxNamesRow.holds Tryz.pinned (OpenSpec.ofChange syntaxNamesSpec)

/-- ITS FALSE NEIGHBOUR: 'it returns false'. Refute it at one input. -/
def syntaxNamesWrong : ChangeSpec := { name := "syntaxNames", fn := fun _ => fun
  | [d] => { results := [.lit (.bool false)], args := [d] }
  | _ => none }
def SyntaxNamesWrongFalsely : Prop := syntaxNamesRow.holds Tryz.pinned (OpenSpec.ofChange syntaxNamesWrong)

/-- 'sederuntlaw23.SyntaxSpace': WHATEVER THE INPUT: true; the input reads as it did. -/
def syntaxSpaceSpec : ChangeSpec := { name := "syntaxSpace", fn := fun _ => fun
  | [d1, d2] => { results := [.lit (.bool true)], args := [d1, d2] }
  | _ => none }
def syntaxSpaceRow : OpenClaim := { program := "ytipicaoinnblpaagreatdoor", sum := "f18e717ddf19b91efc9aca3d5965afc3833dc5a2d33661496853581eb420dacb", func := "sederunt/sederuntlaw23.SyntaxSpace", spec := "syntaxSpace", inPlace := ["internal/bytealg.IndexByteString", "internal/bytealg.CountString", "internal/bytealg.IndexString", "internal/abi.NoEscape", "internal/bytealg.MakeNoZero"], unfollowed := true, recurses := true, named := ["internal/bytealg.MaxLen", "internal/strconv.uint64pow10", "math/bits.deBruijn32tab", "math/bits.deBruijn64tab", "unicode/utf8.first", "unicode/utf8.acceptRanges"], loops := true, apart := false, laid := [("math/bits.deBruijn32tab", laid_math_bits_deBruijn32tab), ("math/bits.deBruijn64tab", laid_math_bits_deBruijn64tab), ("internal/strconv.uint64pow10", laid_internal_strconv_uint64pow10), ("unicode/utf8.acceptRanges", laid_unicode_utf8_acceptRanges), ("unicode/utf8.first", laid_unicode_utf8_first)] }
def SyntaxSpaceSaid : Prop := syntaxSpaceRow.holds Tryz.pinned (OpenSpec.ofChange syntaxSpaceSpec)

/-- ITS FALSE NEIGHBOUR: 'it returns false'. Refute it at one input. -/
def syntaxSpaceWrong : ChangeSpec := { name := "syntaxSpace", fn := fun _ => fun
  | [d1, d2] => { results := [.lit (.bool false)], args := [d1, d2] }
  | _ => none }
def SyntaxSpaceWrongFalsely : Prop := syntaxSpaceRow.holds Tryz.pinned (OpenSpec.ofChange syntaxSpaceWrong)

/-- 'sederuntlaw23.SyntaxLarge': WHATEVER THE INPUT: true; the input reads as it did. -/
def syntaxLargeSpec : ChangeSpec := { name := "syntaxLarge", fn := fun _ => fun
  | [d] => { results := [.lit (.bool true)], args := [d] }
  | _ => none }
def syntaxLargeRow : OpenClaim := { program := "ytipicaoinnblpaagreatdoor", sum := "f18e717ddf19b91efc9aca3d5965afc3833dc5a2d33661496853581eb420dacb", func := "sederunt/sederuntlaw23.SyntaxLarge", spec := "syntaxLarge", inPlace := ["internal/bytealg.IndexByteString", "internal/bytealg.CountString", "internal/bytealg.IndexString", "internal/abi.NoEscape", "internal/bytealg.MakeNoZero"], unfollowed := true, recurses := true, named := ["internal/bytealg.MaxLen", "internal/strconv.uint64pow10", "math/bits.deBruijn32tab", "math/bits.deBruijn64tab"], apart := false, laid := [("math/bits.deBruijn32tab", laid_math_bits_deBruijn32tab), ("math/bits.deBruijn64tab", laid_math_bits_deBruijn64tab), ("internal/strconv.uint64pow10", laid_internal_strconv_uint64pow10)] }
def SyntaxLargeSaid : Prop := syntaxLargeRow.holds Tryz.pinned (OpenSpec.ofChange syntaxLargeSpec)

/-- ITS FALSE NEIGHBOUR: 'it returns false'. Refute it at one input. -/
def syntaxLargeWrong : ChangeSpec := { name := "syntaxLarge", fn := fun _ => fun
  | [d] => { results := [.lit (.bool false)], args := [d] }
  | _ => none }
def SyntaxLargeWrongFalsely : Prop := syntaxLargeRow.holds Tryz.pinned (OpenSpec.ofChange syntaxLargeWrong)

/- THE SECOND FORM. 'bulk': how many values and letters a reading holds, each counted each time it is reached (what is shared counts as often as it is met; a slice's spare places count too). A statement '..UptoSaid' is the law's where the arguments, and the package variables that the reading takes, are together of bulk at most 1048576: NARROWER than '..Said'. Prove '..Said' where nothing that the law and all that it calls make is longer than what came in: it says more and counts as full. Else prove '..UptoSaid'. A law counts once. -/
mutual
def uptoBulk {H : Type} : DataW H → Nat
  | .lit (.string bytes) => bytes.length + 1
  | .lit _ => 1
  | .nil => 1
  | .ptr d => uptoBulk d + 1
  | .slice elems spare => uptoBulkAll elems + uptoBulkAll spare + 1
  | .agg parts => uptoBulkAll parts + 1
  | .iface _ d => uptoBulk d + 1
  | .map entries => uptoBulkEntries entries + 1
  | .held _ => 1
def uptoBulkAll {H : Type} : List (DataW H) → Nat
  | [] => 0
  | d :: r => uptoBulk d + uptoBulkAll r
def uptoBulkEntries {H : Type} : List (Lit × DataW H) → Nat
  | [] => 0
  | x :: r => uptoBulkEntry x + uptoBulkEntries r
def uptoBulkEntry {H : Type} : Lit × DataW H → Nat
  | (.string bytes, d) => bytes.length + uptoBulk d + 1
  | (_, d) => uptoBulk d + 1
 end
def uptoSmall : (H : Type) → List (DataW H) → Bool := fun _ ds => decide (uptoBulkAll ds ≤ 1048576)
def OpenSpec.upto (s : _root_.Go.ChangeSpec) : _root_.Go.OpenSpec := { _root_.Go.OpenSpec.ofChange s with cond := some uptoSmall }

/-- 'sederuntlaw23.SyntaxParse', WHERE WHAT IT READS IS OF BULK AT MOST 1048576: true; the input reads as it did. -/
def syntaxParseUptoRow : OpenClaim := { program := "ytipicaoinnblpaagreatdoor", sum := "f18e717ddf19b91efc9aca3d5965afc3833dc5a2d33661496853581eb420dacb", func := "sederunt/sederuntlaw23.SyntaxParse", spec := "syntaxParse", inPlace := ["internal/bytealg.IndexByteString", "internal/bytealg.CountString", "internal/bytealg.IndexString", "internal/abi.NoEscape", "internal/bytealg.MakeNoZero"], unfollowed := true, recurses := true, named := ["internal/bytealg.MaxLen", "internal/strconv.uint64pow10", "math/bits.deBruijn32tab", "math/bits.deBruijn64tab"], apart := false, laid := [("math/bits.deBruijn32tab", laid_math_bits_deBruijn32tab), ("math/bits.deBruijn64tab", laid_math_bits_deBruijn64tab), ("internal/strconv.uint64pow10", laid_internal_strconv_uint64pow10)], narrowed := true }
def SyntaxParseUptoSaid : Prop := syntaxParseUptoRow.holds Tryz.pinned (OpenSpec.upto syntaxParseSpec)

/-- 'sederuntlaw23.SyntaxTerm', WHERE WHAT IT READS IS OF BULK AT MOST 1048576: true; the input reads as it did. -/
def syntaxTermUptoRow : OpenClaim := { program := "ytipicaoinnblpaagreatdoor", sum := "f18e717ddf19b91efc9aca3d5965afc3833dc5a2d33661496853581eb420dacb", func := "sederunt/sederuntlaw23.SyntaxTerm", spec := "syntaxTerm", inPlace := ["internal/bytealg.IndexByteString", "internal/bytealg.CountString", "internal/bytealg.IndexString", "internal/abi.NoEscape", "internal/bytealg.MakeNoZero"], unfollowed := true, recurses := true, named := ["internal/bytealg.MaxLen", "internal/strconv.uint64pow10", "math/bits.deBruijn32tab", "math/bits.deBruijn64tab"], apart := false, laid := [("math/bits.deBruijn32tab", laid_math_bits_deBruijn32tab), ("math/bits.deBruijn64tab", laid_math_bits_deBruijn64tab), ("internal/strconv.uint64pow10", laid_internal_strconv_uint64pow10)], narrowed := true }
def SyntaxTermUptoSaid : Prop := syntaxTermUptoRow.holds Tryz.pinned (OpenSpec.upto syntaxTermSpec)

/-- 'sederuntlaw23.SyntaxFormatTerm', WHERE WHAT IT READS IS OF BULK AT MOST 1048576: true; the input reads as it did. -/
def syntaxFormatTermUptoRow : OpenClaim := { program := "ytipicaoinnblpaagreatdoor", sum := "f18e717ddf19b91efc9aca3d5965afc3833dc5a2d33661496853581eb420dacb", func := "sederunt/sederuntlaw23.SyntaxFormatTerm", spec := "syntaxFormatTerm", inPlace := ["internal/bytealg.IndexByteString", "internal/bytealg.CountString", "internal/bytealg.IndexString", "internal/abi.NoEscape", "internal/bytealg.MakeNoZero"], unfollowed := true, recurses := true, named := ["internal/bytealg.MaxLen", "internal/strconv.uint64pow10", "math/bits.deBruijn32tab", "math/bits.deBruijn64tab"], loops := true, apart := false, laid := [("math/bits.deBruijn32tab", laid_math_bits_deBruijn32tab), ("math/bits.deBruijn64tab", laid_math_bits_deBruijn64tab), ("internal/strconv.uint64pow10", laid_internal_strconv_uint64pow10)], narrowed := true }
def SyntaxFormatTermUptoSaid : Prop := syntaxFormatTermUptoRow.holds Tryz.pinned (OpenSpec.upto syntaxFormatTermSpec)

/-- 'sederuntlaw23.SyntaxAgain', WHERE WHAT IT READS IS OF BULK AT MOST 1048576: true; the input reads as it did. -/
def syntaxAgainUptoRow : OpenClaim := { program := "ytipicaoinnblpaagreatdoor", sum := "f18e717ddf19b91efc9aca3d5965afc3833dc5a2d33661496853581eb420dacb", func := "sederunt/sederuntlaw23.SyntaxAgain", spec := "syntaxAgain", inPlace := ["internal/bytealg.IndexByteString", "internal/bytealg.CountString", "internal/bytealg.IndexString", "internal/abi.NoEscape", "internal/bytealg.MakeNoZero"], unfollowed := true, recurses := true, named := ["internal/bytealg.MaxLen", "internal/strconv.uint64pow10", "math/bits.deBruijn32tab", "math/bits.deBruijn64tab"], apart := false, laid := [("math/bits.deBruijn32tab", laid_math_bits_deBruijn32tab), ("math/bits.deBruijn64tab", laid_math_bits_deBruijn64tab), ("internal/strconv.uint64pow10", laid_internal_strconv_uint64pow10)], narrowed := true }
def SyntaxAgainUptoSaid : Prop := syntaxAgainUptoRow.holds Tryz.pinned (OpenSpec.upto syntaxAgainSpec)

/-- 'sederuntlaw23.SyntaxFormat', WHERE WHAT IT READS IS OF BULK AT MOST 1048576: true; the input reads as it did. -/
def syntaxFormatUptoRow : OpenClaim := { program := "ytipicaoinnblpaagreatdoor", sum := "f18e717ddf19b91efc9aca3d5965afc3833dc5a2d33661496853581eb420dacb", func := "sederunt/sederuntlaw23.SyntaxFormat", spec := "syntaxFormat", inPlace := ["internal/bytealg.IndexByteString", "internal/bytealg.CountString", "internal/bytealg.IndexString", "internal/abi.NoEscape", "internal/bytealg.MakeNoZero"], unfollowed := true, recurses := true, named := ["internal/bytealg.MaxLen", "internal/strconv.uint64pow10", "math/bits.deBruijn32tab", "math/bits.deBruijn64tab"], loops := true, apart := false, laid := [("math/bits.deBruijn32tab", laid_math_bits_deBruijn32tab), ("math/bits.deBruijn64tab", laid_math_bits_deBruijn64tab), ("internal/strconv.uint64pow10", laid_internal_strconv_uint64pow10)], narrowed := true }
def SyntaxFormatUptoSaid : Prop := syntaxFormatUptoRow.holds Tryz.pinned (OpenSpec.upto syntaxFormatSpec)

/-- 'sederuntlaw23.SyntaxNames', WHERE WHAT IT READS IS OF BULK AT MOST 1048576: true; the input reads as it did. -/
def syntaxNamesUptoRow : OpenClaim := { program := "ytipicaoinnblpaagreatdoor", sum := "f18e717ddf19b91efc9aca3d5965afc3833dc5a2d33661496853581eb420dacb", func := "sederunt/sederuntlaw23.SyntaxNames", spec := "syntaxNames", inPlace := ["internal/bytealg.IndexByteString", "internal/bytealg.CountString", "internal/bytealg.IndexString", "internal/abi.NoEscape", "internal/bytealg.MakeNoZero"], unfollowed := true, recurses := true, named := ["internal/bytealg.MaxLen", "internal/strconv.uint64pow10", "math/bits.deBruijn32tab", "math/bits.deBruijn64tab"], loops := true, apart := false, laid := [("math/bits.deBruijn32tab", laid_math_bits_deBruijn32tab), ("math/bits.deBruijn64tab", laid_math_bits_deBruijn64tab), ("internal/strconv.uint64pow10", laid_internal_strconv_uint64pow10)], narrowed := true }
def SyntaxNamesUptoSaid : Prop := syntaxNamesUptoRow.holds Tryz.pinned (OpenSpec.upto syntaxNamesSpec)

/-- 'sederuntlaw23.SyntaxSpace', WHERE WHAT IT READS IS OF BULK AT MOST 1048576: true; the input reads as it did. -/
def syntaxSpaceUptoRow : OpenClaim := { program := "ytipicaoinnblpaagreatdoor", sum := "f18e717ddf19b91efc9aca3d5965afc3833dc5a2d33661496853581eb420dacb", func := "sederunt/sederuntlaw23.SyntaxSpace", spec := "syntaxSpace", inPlace := ["internal/bytealg.IndexByteString", "internal/bytealg.CountString", "internal/bytealg.IndexString", "internal/abi.NoEscape", "internal/bytealg.MakeNoZero"], unfollowed := true, recurses := true, named := ["internal/bytealg.MaxLen", "internal/strconv.uint64pow10", "math/bits.deBruijn32tab", "math/bits.deBruijn64tab", "unicode/utf8.first", "unicode/utf8.acceptRanges"], loops := true, apart := false, laid := [("math/bits.deBruijn32tab", laid_math_bits_deBruijn32tab), ("math/bits.deBruijn64tab", laid_math_bits_deBruijn64tab), ("internal/strconv.uint64pow10", laid_internal_strconv_uint64pow10), ("unicode/utf8.acceptRanges", laid_unicode_utf8_acceptRanges), ("unicode/utf8.first", laid_unicode_utf8_first)], narrowed := true }
def SyntaxSpaceUptoSaid : Prop := syntaxSpaceUptoRow.holds Tryz.pinned (OpenSpec.upto syntaxSpaceSpec)

/-- 'sederuntlaw23.SyntaxLarge', WHERE WHAT IT READS IS OF BULK AT MOST 1048576: true; the input reads as it did. -/
def syntaxLargeUptoRow : OpenClaim := { program := "ytipicaoinnblpaagreatdoor", sum := "f18e717ddf19b91efc9aca3d5965afc3833dc5a2d33661496853581eb420dacb", func := "sederunt/sederuntlaw23.SyntaxLarge", spec := "syntaxLarge", inPlace := ["internal/bytealg.IndexByteString", "internal/bytealg.CountString", "internal/bytealg.IndexString", "internal/abi.NoEscape", "internal/bytealg.MakeNoZero"], unfollowed := true, recurses := true, named := ["internal/bytealg.MaxLen", "internal/strconv.uint64pow10", "math/bits.deBruijn32tab", "math/bits.deBruijn64tab"], apart := false, laid := [("math/bits.deBruijn32tab", laid_math_bits_deBruijn32tab), ("math/bits.deBruijn64tab", laid_math_bits_deBruijn64tab), ("internal/strconv.uint64pow10", laid_internal_strconv_uint64pow10)], narrowed := true }
def SyntaxLargeUptoSaid : Prop := syntaxLargeUptoRow.holds Tryz.pinned (OpenSpec.upto syntaxLargeSpec)

end Rows
end Go.Proofs.YtipicaoinnblpaaGreatDoor
