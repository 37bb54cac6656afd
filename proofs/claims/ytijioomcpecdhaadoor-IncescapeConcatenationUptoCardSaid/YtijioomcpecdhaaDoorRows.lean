/-
  NARROWER THAN 'FOR EVERY INPUT', by the rows' own cells (each row's printed sentence says how): EscapeRuneMatchesReference: laid · EscapeKeepsLetters: laid · EscapeConcatenation: laid · EscapeMatchesReference: laid · EscapeIsSafe: laid · EscapeIsInjective: laid · IncescapeNumbers: laid · IncescapeMatchesReference: laid · IncescapeHoldsLittle: laid · IncescapeNext: laid · IncescapeSplitIrrelevant: laid · IncescapeConcatenation: laid.
  DERIVED. THE GIVEN ROWS OF THIS SEAT. 12 by the template 'for every input the law returns true; each argument reads behind the call as it read before'; 0 by the template 'total and deterministic' (their statements: YtijioomcpecdhaaDoorTotals.lean).
  GIVEN WITH THE SEED: the statements are not yours to turn. If you find one false, say at which input.
  Laid BY PROGRAM, IN A SANDBOX (cutbox-rows.mjs): the forced cells as the released guide's own fill.sh prints them over the translation cbdfa6eff96e3eb9… (all of the seat's roots in one cut). By AI agents, Wed Nov 11 2026. No macro, syntax, notation, axiom, sorry.
-/
import Derived.Test.YtijioomcpecdhaaDoorChecked
import GoSem.PinnedTables
import GoSem.Claim
import GoSem.ClaimJoined
import GoSem.ClaimMapViews
import Derived.JoinedTies
import Derived.KernelRfl
namespace Go.Proofs.YtijioomcpecdhaaDoor
/- THE CELL 'sum', in the pinned program and in every row, IS THE sha256 OF THE DUMP (.gsa) THAT YtijioomcpecdhaaDoorProg.lean LOADS. Nothing in Lean hashes anything: it is a label: what it is worth is what the hold of that sum in a sandbox is worth. -/
noncomputable def Tryd.pinned : Pinned := { name := "ytijioomcpecdhaadoor", sum := "cbdfa6eff96e3eb9689faa4e14653bd864de01142863e64f01fa6f270cf59e94", checked := Tryd.checked }
namespace Rows
def none {H : Type} : Left H := { results := [], args := [] }

/- WHAT THE LISTED PACKAGE-LEVEL VARIABLES READ AS WHEN THE CALL BEGINS. Each datum BY PROGRAM (the guide's laid-datum.mjs) off the statement by which the dump's own 'gosem.cut.vars' lays the variable. In a bare row this is a premise. The card (YtijioomcpecdhaaDoorCards.lean) ties it to the program's text. -/
def laid_math_bits_deBruijn32tab {H : Type} : DataW H := .agg [.lit (.int .u8 0), .lit (.int .u8 1), .lit (.int .u8 28), .lit (.int .u8 2), .lit (.int .u8 29), .lit (.int .u8 14), .lit (.int .u8 24), .lit (.int .u8 3), .lit (.int .u8 30), .lit (.int .u8 22), .lit (.int .u8 20), .lit (.int .u8 15), .lit (.int .u8 25), .lit (.int .u8 17), .lit (.int .u8 4), .lit (.int .u8 8), .lit (.int .u8 31), .lit (.int .u8 27), .lit (.int .u8 13), .lit (.int .u8 23), .lit (.int .u8 21), .lit (.int .u8 19), .lit (.int .u8 16), .lit (.int .u8 7), .lit (.int .u8 26), .lit (.int .u8 12), .lit (.int .u8 18), .lit (.int .u8 6), .lit (.int .u8 11), .lit (.int .u8 5), .lit (.int .u8 10), .lit (.int .u8 9)]
def laid_math_bits_deBruijn64tab {H : Type} : DataW H := .agg [.lit (.int .u8 0), .lit (.int .u8 1), .lit (.int .u8 56), .lit (.int .u8 2), .lit (.int .u8 57), .lit (.int .u8 49), .lit (.int .u8 28), .lit (.int .u8 3), .lit (.int .u8 61), .lit (.int .u8 58), .lit (.int .u8 42), .lit (.int .u8 50), .lit (.int .u8 38), .lit (.int .u8 29), .lit (.int .u8 17), .lit (.int .u8 4), .lit (.int .u8 62), .lit (.int .u8 47), .lit (.int .u8 59), .lit (.int .u8 36), .lit (.int .u8 45), .lit (.int .u8 43), .lit (.int .u8 51), .lit (.int .u8 22), .lit (.int .u8 53), .lit (.int .u8 39), .lit (.int .u8 33), .lit (.int .u8 30), .lit (.int .u8 24), .lit (.int .u8 18), .lit (.int .u8 12), .lit (.int .u8 5), .lit (.int .u8 63), .lit (.int .u8 55), .lit (.int .u8 48), .lit (.int .u8 27), .lit (.int .u8 60), .lit (.int .u8 41), .lit (.int .u8 37), .lit (.int .u8 16), .lit (.int .u8 46), .lit (.int .u8 35), .lit (.int .u8 44), .lit (.int .u8 21), .lit (.int .u8 52), .lit (.int .u8 32), .lit (.int .u8 23), .lit (.int .u8 11), .lit (.int .u8 54), .lit (.int .u8 26), .lit (.int .u8 40), .lit (.int .u8 15), .lit (.int .u8 34), .lit (.int .u8 20), .lit (.int .u8 31), .lit (.int .u8 10), .lit (.int .u8 25), .lit (.int .u8 14), .lit (.int .u8 19), .lit (.int .u8 9), .lit (.int .u8 13), .lit (.int .u8 8), .lit (.int .u8 7), .lit (.int .u8 6)]
def laid_internal_strconv_uint64pow10 {H : Type} : DataW H := .agg [.lit (.int .u64 1), .lit (.int .u64 10), .lit (.int .u64 100), .lit (.int .u64 1000), .lit (.int .u64 10000), .lit (.int .u64 100000), .lit (.int .u64 1000000), .lit (.int .u64 10000000), .lit (.int .u64 100000000), .lit (.int .u64 1000000000), .lit (.int .u64 10000000000), .lit (.int .u64 100000000000), .lit (.int .u64 1000000000000), .lit (.int .u64 10000000000000), .lit (.int .u64 100000000000000), .lit (.int .u64 1000000000000000), .lit (.int .u64 10000000000000000), .lit (.int .u64 100000000000000000), .lit (.int .u64 1000000000000000000), .lit (.int .u64 10000000000000000000)]
def laid_unicode_utf8_acceptRanges {H : Type} : DataW H := .agg [.agg [.lit (.int .u8 128), .lit (.int .u8 191)], .agg [.lit (.int .u8 160), .lit (.int .u8 191)], .agg [.lit (.int .u8 128), .lit (.int .u8 159)], .agg [.lit (.int .u8 144), .lit (.int .u8 191)], .agg [.lit (.int .u8 128), .lit (.int .u8 143)], .agg [.lit (.int .u8 0), .lit (.int .u8 0)], .agg [.lit (.int .u8 0), .lit (.int .u8 0)], .agg [.lit (.int .u8 0), .lit (.int .u8 0)], .agg [.lit (.int .u8 0), .lit (.int .u8 0)], .agg [.lit (.int .u8 0), .lit (.int .u8 0)], .agg [.lit (.int .u8 0), .lit (.int .u8 0)], .agg [.lit (.int .u8 0), .lit (.int .u8 0)], .agg [.lit (.int .u8 0), .lit (.int .u8 0)], .agg [.lit (.int .u8 0), .lit (.int .u8 0)], .agg [.lit (.int .u8 0), .lit (.int .u8 0)], .agg [.lit (.int .u8 0), .lit (.int .u8 0)]]
/-- One of Go's own tables, pinned by name: the form's constant. -/
def laid_unicode_utf8_first : DataW Unit := Go.Pinned.utf8First

/-- 'tmplpipelaw07.EscapeRuneMatchesReference': WHATEVER THE INPUT: true; the input reads as it did. -/
def escapeRuneMatchesReferenceSpec : ChangeSpec := { name := "escapeRuneMatchesReference", fn := fun _ => fun
  | [d1, d2] => { results := [.lit (.bool true)], args := [d1, d2] }
  | _ => none }
def escapeRuneMatchesReferenceRow : OpenClaim := { program := "ytijioomcpecdhaadoor", sum := "cbdfa6eff96e3eb9689faa4e14653bd864de01142863e64f01fa6f270cf59e94", func := "tmplpipe/tmplpipelaw07.EscapeRuneMatchesReference", spec := "escapeRuneMatchesReference", inPlace := ["internal/bytealg.IndexByteString", "internal/bytealg.IndexString", "internal/abi.NoEscape", "internal/bytealg.MakeNoZero"], named := ["internal/strconv.uint64pow10", "math/bits.deBruijn32tab", "math/bits.deBruijn64tab", "internal/bytealg.MaxLen"], apart := false, laid := [("math/bits.deBruijn32tab", laid_math_bits_deBruijn32tab), ("math/bits.deBruijn64tab", laid_math_bits_deBruijn64tab), ("internal/strconv.uint64pow10", laid_internal_strconv_uint64pow10)] }
def EscapeRuneMatchesReferenceSaid : Prop := escapeRuneMatchesReferenceRow.holds Tryd.pinned (OpenSpec.ofChange escapeRuneMatchesReferenceSpec)

/-- ITS FALSE NEIGHBOUR: 'it returns false'. Refute it at one input. -/
def escapeRuneMatchesReferenceWrong : ChangeSpec := { name := "escapeRuneMatchesReference", fn := fun _ => fun
  | [d1, d2] => { results := [.lit (.bool false)], args := [d1, d2] }
  | _ => none }
def EscapeRuneMatchesReferenceWrongFalsely : Prop := escapeRuneMatchesReferenceRow.holds Tryd.pinned (OpenSpec.ofChange escapeRuneMatchesReferenceWrong)

/-- 'tmplpipelaw07.EscapeKeepsLetters': WHATEVER THE INPUT: true; the input reads as it did. -/
def escapeKeepsLettersSpec : ChangeSpec := { name := "escapeKeepsLetters", fn := fun _ => fun
  | [d1, d2] => { results := [.lit (.bool true)], args := [d1, d2] }
  | _ => none }
def escapeKeepsLettersRow : OpenClaim := { program := "ytijioomcpecdhaadoor", sum := "cbdfa6eff96e3eb9689faa4e14653bd864de01142863e64f01fa6f270cf59e94", func := "tmplpipe/tmplpipelaw07.EscapeKeepsLetters", spec := "escapeKeepsLetters", inPlace := ["internal/bytealg.IndexByteString", "internal/bytealg.IndexString", "internal/abi.NoEscape", "internal/bytealg.MakeNoZero"], named := ["internal/strconv.uint64pow10", "math/bits.deBruijn32tab", "math/bits.deBruijn64tab", "internal/bytealg.MaxLen"], apart := false, laid := [("math/bits.deBruijn32tab", laid_math_bits_deBruijn32tab), ("math/bits.deBruijn64tab", laid_math_bits_deBruijn64tab), ("internal/strconv.uint64pow10", laid_internal_strconv_uint64pow10)] }
def EscapeKeepsLettersSaid : Prop := escapeKeepsLettersRow.holds Tryd.pinned (OpenSpec.ofChange escapeKeepsLettersSpec)

/-- ITS FALSE NEIGHBOUR: 'it returns false'. Refute it at one input. -/
def escapeKeepsLettersWrong : ChangeSpec := { name := "escapeKeepsLetters", fn := fun _ => fun
  | [d1, d2] => { results := [.lit (.bool false)], args := [d1, d2] }
  | _ => none }
def EscapeKeepsLettersWrongFalsely : Prop := escapeKeepsLettersRow.holds Tryd.pinned (OpenSpec.ofChange escapeKeepsLettersWrong)

/-- 'tmplpipelaw07.EscapeConcatenation': WHATEVER THE INPUT: true; the input reads as it did. -/
def escapeConcatenationSpec : ChangeSpec := { name := "escapeConcatenation", fn := fun _ => fun
  | [d1, d2, d3] => { results := [.lit (.bool true)], args := [d1, d2, d3] }
  | _ => none }
def escapeConcatenationRow : OpenClaim := { program := "ytijioomcpecdhaadoor", sum := "cbdfa6eff96e3eb9689faa4e14653bd864de01142863e64f01fa6f270cf59e94", func := "tmplpipe/tmplpipelaw07.EscapeConcatenation", spec := "escapeConcatenation", inPlace := ["internal/bytealg.IndexByteString", "internal/bytealg.IndexString", "internal/abi.NoEscape", "internal/bytealg.MakeNoZero"], named := ["unicode/utf8.first", "unicode/utf8.acceptRanges", "internal/strconv.uint64pow10", "math/bits.deBruijn32tab", "math/bits.deBruijn64tab", "internal/bytealg.MaxLen"], apart := false, laid := [("math/bits.deBruijn32tab", laid_math_bits_deBruijn32tab), ("math/bits.deBruijn64tab", laid_math_bits_deBruijn64tab), ("internal/strconv.uint64pow10", laid_internal_strconv_uint64pow10), ("unicode/utf8.acceptRanges", laid_unicode_utf8_acceptRanges), ("unicode/utf8.first", laid_unicode_utf8_first)] }
def EscapeConcatenationSaid : Prop := escapeConcatenationRow.holds Tryd.pinned (OpenSpec.ofChange escapeConcatenationSpec)

/-- ITS FALSE NEIGHBOUR: 'it returns false'. Refute it at one input. -/
def escapeConcatenationWrong : ChangeSpec := { name := "escapeConcatenation", fn := fun _ => fun
  | [d1, d2, d3] => { results := [.lit (.bool false)], args := [d1, d2, d3] }
  | _ => none }
def EscapeConcatenationWrongFalsely : Prop := escapeConcatenationRow.holds Tryd.pinned (OpenSpec.ofChange escapeConcatenationWrong)

/-- 'tmplpipelaw07.EscapeMatchesReference': WHATEVER THE INPUT: true; the input reads as it did. -/
def escapeMatchesReferenceSpec : ChangeSpec := { name := "escapeMatchesReference", fn := fun _ => fun
  | [d1, d2] => { results := [.lit (.bool true)], args := [d1, d2] }
  | _ => none }
def escapeMatchesReferenceRow : OpenClaim := { program := "ytijioomcpecdhaadoor", sum := "cbdfa6eff96e3eb9689faa4e14653bd864de01142863e64f01fa6f270cf59e94", func := "tmplpipe/tmplpipelaw07.EscapeMatchesReference", spec := "escapeMatchesReference", inPlace := ["internal/bytealg.IndexByteString", "internal/bytealg.IndexString", "internal/abi.NoEscape", "internal/bytealg.MakeNoZero"], unfollowed := true, recurses := true, named := ["internal/strconv.uint64pow10", "math/bits.deBruijn32tab", "math/bits.deBruijn64tab", "unicode/utf8.first", "unicode/utf8.acceptRanges", "internal/bytealg.MaxLen"], apart := false, laid := [("math/bits.deBruijn32tab", laid_math_bits_deBruijn32tab), ("math/bits.deBruijn64tab", laid_math_bits_deBruijn64tab), ("internal/strconv.uint64pow10", laid_internal_strconv_uint64pow10), ("unicode/utf8.acceptRanges", laid_unicode_utf8_acceptRanges), ("unicode/utf8.first", laid_unicode_utf8_first)] }
def EscapeMatchesReferenceSaid : Prop := escapeMatchesReferenceRow.holds Tryd.pinned (OpenSpec.ofChange escapeMatchesReferenceSpec)

/-- ITS FALSE NEIGHBOUR: 'it returns false'. Refute it at one input. -/
def escapeMatchesReferenceWrong : ChangeSpec := { name := "escapeMatchesReference", fn := fun _ => fun
  | [d1, d2] => { results := [.lit (.bool false)], args := [d1, d2] }
  | _ => none }
def EscapeMatchesReferenceWrongFalsely : Prop := escapeMatchesReferenceRow.holds Tryd.pinned (OpenSpec.ofChange escapeMatchesReferenceWrong)

/-- 'tmplpipelaw07.EscapeIsSafe': WHATEVER THE INPUT: true; the input reads as it did. -/
def escapeIsSafeSpec : ChangeSpec := { name := "escapeIsSafe", fn := fun _ => fun
  | [d1, d2] => { results := [.lit (.bool true)], args := [d1, d2] }
  | _ => none }
def escapeIsSafeRow : OpenClaim := { program := "ytijioomcpecdhaadoor", sum := "cbdfa6eff96e3eb9689faa4e14653bd864de01142863e64f01fa6f270cf59e94", func := "tmplpipe/tmplpipelaw07.EscapeIsSafe", spec := "escapeIsSafe", inPlace := ["internal/bytealg.IndexByteString", "internal/bytealg.IndexString", "internal/abi.NoEscape", "internal/bytealg.MakeNoZero"], unfollowed := true, recurses := true, named := ["internal/strconv.uint64pow10", "math/bits.deBruijn32tab", "math/bits.deBruijn64tab", "unicode/utf8.first", "unicode/utf8.acceptRanges", "internal/bytealg.MaxLen"], apart := false, laid := [("math/bits.deBruijn32tab", laid_math_bits_deBruijn32tab), ("math/bits.deBruijn64tab", laid_math_bits_deBruijn64tab), ("internal/strconv.uint64pow10", laid_internal_strconv_uint64pow10), ("unicode/utf8.acceptRanges", laid_unicode_utf8_acceptRanges), ("unicode/utf8.first", laid_unicode_utf8_first)] }
def EscapeIsSafeSaid : Prop := escapeIsSafeRow.holds Tryd.pinned (OpenSpec.ofChange escapeIsSafeSpec)

/-- ITS FALSE NEIGHBOUR: 'it returns false'. Refute it at one input. -/
def escapeIsSafeWrong : ChangeSpec := { name := "escapeIsSafe", fn := fun _ => fun
  | [d1, d2] => { results := [.lit (.bool false)], args := [d1, d2] }
  | _ => none }
def EscapeIsSafeWrongFalsely : Prop := escapeIsSafeRow.holds Tryd.pinned (OpenSpec.ofChange escapeIsSafeWrong)

/-- 'tmplpipelaw07.EscapeIsInjective': WHATEVER THE INPUT: true; the input reads as it did. -/
def escapeIsInjectiveSpec : ChangeSpec := { name := "escapeIsInjective", fn := fun _ => fun
  | [d1, d2, d3] => { results := [.lit (.bool true)], args := [d1, d2, d3] }
  | _ => none }
def escapeIsInjectiveRow : OpenClaim := { program := "ytijioomcpecdhaadoor", sum := "cbdfa6eff96e3eb9689faa4e14653bd864de01142863e64f01fa6f270cf59e94", func := "tmplpipe/tmplpipelaw07.EscapeIsInjective", spec := "escapeIsInjective", inPlace := ["internal/bytealg.IndexByteString", "internal/bytealg.IndexString", "internal/abi.NoEscape", "internal/bytealg.MakeNoZero"], named := ["unicode/utf8.first", "unicode/utf8.acceptRanges", "internal/bytealg.MaxLen", "internal/strconv.uint64pow10", "math/bits.deBruijn32tab", "math/bits.deBruijn64tab"], apart := false, laid := [("math/bits.deBruijn32tab", laid_math_bits_deBruijn32tab), ("math/bits.deBruijn64tab", laid_math_bits_deBruijn64tab), ("internal/strconv.uint64pow10", laid_internal_strconv_uint64pow10), ("unicode/utf8.acceptRanges", laid_unicode_utf8_acceptRanges), ("unicode/utf8.first", laid_unicode_utf8_first)] }
def EscapeIsInjectiveSaid : Prop := escapeIsInjectiveRow.holds Tryd.pinned (OpenSpec.ofChange escapeIsInjectiveSpec)

/-- ITS FALSE NEIGHBOUR: 'it returns false'. Refute it at one input. -/
def escapeIsInjectiveWrong : ChangeSpec := { name := "escapeIsInjective", fn := fun _ => fun
  | [d1, d2, d3] => { results := [.lit (.bool false)], args := [d1, d2, d3] }
  | _ => none }
def EscapeIsInjectiveWrongFalsely : Prop := escapeIsInjectiveRow.holds Tryd.pinned (OpenSpec.ofChange escapeIsInjectiveWrong)

/-- 'tmplpipelaw08.IncescapeNumbers': WHATEVER THE INPUT: true; the input reads as it did. -/
def incescapeNumbersSpec : ChangeSpec := { name := "incescapeNumbers", fn := fun _ => fun
  | [d] => { results := [.lit (.bool true)], args := [d] }
  | _ => none }
def incescapeNumbersRow : OpenClaim := { program := "ytijioomcpecdhaadoor", sum := "cbdfa6eff96e3eb9689faa4e14653bd864de01142863e64f01fa6f270cf59e94", func := "tmplpipe/tmplpipelaw08.IncescapeNumbers", spec := "incescapeNumbers", inPlace := ["internal/bytealg.IndexByteString", "internal/bytealg.IndexString", "internal/abi.NoEscape", "internal/bytealg.MakeNoZero"], named := ["unicode/utf8.first", "unicode/utf8.acceptRanges", "internal/strconv.uint64pow10", "math/bits.deBruijn32tab", "math/bits.deBruijn64tab", "internal/bytealg.MaxLen"], apart := false, laid := [("math/bits.deBruijn32tab", laid_math_bits_deBruijn32tab), ("math/bits.deBruijn64tab", laid_math_bits_deBruijn64tab), ("internal/strconv.uint64pow10", laid_internal_strconv_uint64pow10), ("unicode/utf8.acceptRanges", laid_unicode_utf8_acceptRanges), ("unicode/utf8.first", laid_unicode_utf8_first)] }
def IncescapeNumbersSaid : Prop := incescapeNumbersRow.holds Tryd.pinned (OpenSpec.ofChange incescapeNumbersSpec)

/-- ITS FALSE NEIGHBOUR: 'it returns false'. Refute it at one input. -/
def incescapeNumbersWrong : ChangeSpec := { name := "incescapeNumbers", fn := fun _ => fun
  | [d] => { results := [.lit (.bool false)], args := [d] }
  | _ => none }
def IncescapeNumbersWrongFalsely : Prop := incescapeNumbersRow.holds Tryd.pinned (OpenSpec.ofChange incescapeNumbersWrong)

/-- 'tmplpipelaw08.IncescapeMatchesReference': WHATEVER THE INPUT: true; the input reads as it did. -/
def incescapeMatchesReferenceSpec : ChangeSpec := { name := "incescapeMatchesReference", fn := fun _ => fun
  | [d1, d2] => { results := [.lit (.bool true)], args := [d1, d2] }
  | _ => none }
def incescapeMatchesReferenceRow : OpenClaim := { program := "ytijioomcpecdhaadoor", sum := "cbdfa6eff96e3eb9689faa4e14653bd864de01142863e64f01fa6f270cf59e94", func := "tmplpipe/tmplpipelaw08.IncescapeMatchesReference", spec := "incescapeMatchesReference", inPlace := ["internal/bytealg.IndexByteString", "internal/bytealg.IndexString", "internal/abi.NoEscape", "internal/bytealg.MakeNoZero"], named := ["unicode/utf8.first", "unicode/utf8.acceptRanges", "internal/strconv.uint64pow10", "math/bits.deBruijn32tab", "math/bits.deBruijn64tab", "internal/bytealg.MaxLen"], apart := false, laid := [("math/bits.deBruijn32tab", laid_math_bits_deBruijn32tab), ("math/bits.deBruijn64tab", laid_math_bits_deBruijn64tab), ("internal/strconv.uint64pow10", laid_internal_strconv_uint64pow10), ("unicode/utf8.acceptRanges", laid_unicode_utf8_acceptRanges), ("unicode/utf8.first", laid_unicode_utf8_first)] }
def IncescapeMatchesReferenceSaid : Prop := incescapeMatchesReferenceRow.holds Tryd.pinned (OpenSpec.ofChange incescapeMatchesReferenceSpec)

/-- ITS FALSE NEIGHBOUR: 'it returns false'. Refute it at one input. -/
def incescapeMatchesReferenceWrong : ChangeSpec := { name := "incescapeMatchesReference", fn := fun _ => fun
  | [d1, d2] => { results := [.lit (.bool false)], args := [d1, d2] }
  | _ => none }
def IncescapeMatchesReferenceWrongFalsely : Prop := incescapeMatchesReferenceRow.holds Tryd.pinned (OpenSpec.ofChange incescapeMatchesReferenceWrong)

/-- 'tmplpipelaw08.IncescapeHoldsLittle': WHATEVER THE INPUT: true; the input reads as it did. -/
def incescapeHoldsLittleSpec : ChangeSpec := { name := "incescapeHoldsLittle", fn := fun _ => fun
  | [d1, d2] => { results := [.lit (.bool true)], args := [d1, d2] }
  | _ => none }
def incescapeHoldsLittleRow : OpenClaim := { program := "ytijioomcpecdhaadoor", sum := "cbdfa6eff96e3eb9689faa4e14653bd864de01142863e64f01fa6f270cf59e94", func := "tmplpipe/tmplpipelaw08.IncescapeHoldsLittle", spec := "incescapeHoldsLittle", inPlace := ["internal/bytealg.IndexByteString", "internal/bytealg.IndexString", "internal/abi.NoEscape", "internal/bytealg.MakeNoZero"], named := ["unicode/utf8.first", "unicode/utf8.acceptRanges", "internal/strconv.uint64pow10", "math/bits.deBruijn32tab", "math/bits.deBruijn64tab", "internal/bytealg.MaxLen"], apart := false, laid := [("math/bits.deBruijn32tab", laid_math_bits_deBruijn32tab), ("math/bits.deBruijn64tab", laid_math_bits_deBruijn64tab), ("internal/strconv.uint64pow10", laid_internal_strconv_uint64pow10), ("unicode/utf8.acceptRanges", laid_unicode_utf8_acceptRanges), ("unicode/utf8.first", laid_unicode_utf8_first)] }
def IncescapeHoldsLittleSaid : Prop := incescapeHoldsLittleRow.holds Tryd.pinned (OpenSpec.ofChange incescapeHoldsLittleSpec)

/-- ITS FALSE NEIGHBOUR: 'it returns false'. Refute it at one input. -/
def incescapeHoldsLittleWrong : ChangeSpec := { name := "incescapeHoldsLittle", fn := fun _ => fun
  | [d1, d2] => { results := [.lit (.bool false)], args := [d1, d2] }
  | _ => none }
def IncescapeHoldsLittleWrongFalsely : Prop := incescapeHoldsLittleRow.holds Tryd.pinned (OpenSpec.ofChange incescapeHoldsLittleWrong)

/-- 'tmplpipelaw08.IncescapeNext': WHATEVER THE INPUT: true; the input reads as it did. -/
def incescapeNextSpec : ChangeSpec := { name := "incescapeNext", fn := fun _ => fun
  | [d1, d2, d3] => { results := [.lit (.bool true)], args := [d1, d2, d3] }
  | _ => none }
def incescapeNextRow : OpenClaim := { program := "ytijioomcpecdhaadoor", sum := "cbdfa6eff96e3eb9689faa4e14653bd864de01142863e64f01fa6f270cf59e94", func := "tmplpipe/tmplpipelaw08.IncescapeNext", spec := "incescapeNext", inPlace := ["internal/bytealg.IndexByteString", "internal/bytealg.IndexString", "internal/abi.NoEscape", "internal/bytealg.MakeNoZero"], named := ["unicode/utf8.first", "unicode/utf8.acceptRanges", "internal/strconv.uint64pow10", "math/bits.deBruijn32tab", "math/bits.deBruijn64tab", "internal/bytealg.MaxLen"], apart := false, laid := [("math/bits.deBruijn32tab", laid_math_bits_deBruijn32tab), ("math/bits.deBruijn64tab", laid_math_bits_deBruijn64tab), ("internal/strconv.uint64pow10", laid_internal_strconv_uint64pow10), ("unicode/utf8.acceptRanges", laid_unicode_utf8_acceptRanges), ("unicode/utf8.first", laid_unicode_utf8_first)] }
def IncescapeNextSaid : Prop := incescapeNextRow.holds Tryd.pinned (OpenSpec.ofChange incescapeNextSpec)

/-- ITS FALSE NEIGHBOUR: 'it returns false'. Refute it at one input. -/
def incescapeNextWrong : ChangeSpec := { name := "incescapeNext", fn := fun _ => fun
  | [d1, d2, d3] => { results := [.lit (.bool false)], args := [d1, d2, d3] }
  | _ => none }
def IncescapeNextWrongFalsely : Prop := incescapeNextRow.holds Tryd.pinned (OpenSpec.ofChange incescapeNextWrong)

/-- 'tmplpipelaw08.IncescapeSplitIrrelevant': WHATEVER THE INPUT: true; the input reads as it did. -/
def incescapeSplitIrrelevantSpec : ChangeSpec := { name := "incescapeSplitIrrelevant", fn := fun _ => fun
  | [d1, d2, d3] => { results := [.lit (.bool true)], args := [d1, d2, d3] }
  | _ => none }
def incescapeSplitIrrelevantRow : OpenClaim := { program := "ytijioomcpecdhaadoor", sum := "cbdfa6eff96e3eb9689faa4e14653bd864de01142863e64f01fa6f270cf59e94", func := "tmplpipe/tmplpipelaw08.IncescapeSplitIrrelevant", spec := "incescapeSplitIrrelevant", inPlace := ["internal/bytealg.IndexByteString", "internal/bytealg.IndexString", "internal/abi.NoEscape", "internal/bytealg.MakeNoZero"], named := ["unicode/utf8.first", "unicode/utf8.acceptRanges", "internal/strconv.uint64pow10", "math/bits.deBruijn32tab", "math/bits.deBruijn64tab", "internal/bytealg.MaxLen"], apart := false, laid := [("math/bits.deBruijn32tab", laid_math_bits_deBruijn32tab), ("math/bits.deBruijn64tab", laid_math_bits_deBruijn64tab), ("internal/strconv.uint64pow10", laid_internal_strconv_uint64pow10), ("unicode/utf8.acceptRanges", laid_unicode_utf8_acceptRanges), ("unicode/utf8.first", laid_unicode_utf8_first)] }
def IncescapeSplitIrrelevantSaid : Prop := incescapeSplitIrrelevantRow.holds Tryd.pinned (OpenSpec.ofChange incescapeSplitIrrelevantSpec)

/-- ITS FALSE NEIGHBOUR: 'it returns false'. Refute it at one input. -/
def incescapeSplitIrrelevantWrong : ChangeSpec := { name := "incescapeSplitIrrelevant", fn := fun _ => fun
  | [d1, d2, d3] => { results := [.lit (.bool false)], args := [d1, d2, d3] }
  | _ => none }
def IncescapeSplitIrrelevantWrongFalsely : Prop := incescapeSplitIrrelevantRow.holds Tryd.pinned (OpenSpec.ofChange incescapeSplitIrrelevantWrong)

/-- 'tmplpipelaw08.IncescapeConcatenation': WHATEVER THE INPUT: true; the input reads as it did. -/
def incescapeConcatenationSpec : ChangeSpec := { name := "incescapeConcatenation", fn := fun _ => fun
  | [d1, d2, d3] => { results := [.lit (.bool true)], args := [d1, d2, d3] }
  | _ => none }
def incescapeConcatenationRow : OpenClaim := { program := "ytijioomcpecdhaadoor", sum := "cbdfa6eff96e3eb9689faa4e14653bd864de01142863e64f01fa6f270cf59e94", func := "tmplpipe/tmplpipelaw08.IncescapeConcatenation", spec := "incescapeConcatenation", inPlace := ["internal/abi.NoEscape", "internal/bytealg.MakeNoZero", "internal/bytealg.IndexByteString", "internal/bytealg.IndexString"], named := ["unicode/utf8.first", "unicode/utf8.acceptRanges", "internal/strconv.uint64pow10", "math/bits.deBruijn32tab", "math/bits.deBruijn64tab", "internal/bytealg.MaxLen"], apart := false, laid := [("math/bits.deBruijn32tab", laid_math_bits_deBruijn32tab), ("math/bits.deBruijn64tab", laid_math_bits_deBruijn64tab), ("internal/strconv.uint64pow10", laid_internal_strconv_uint64pow10), ("unicode/utf8.acceptRanges", laid_unicode_utf8_acceptRanges), ("unicode/utf8.first", laid_unicode_utf8_first)] }
def IncescapeConcatenationSaid : Prop := incescapeConcatenationRow.holds Tryd.pinned (OpenSpec.ofChange incescapeConcatenationSpec)

/-- ITS FALSE NEIGHBOUR: 'it returns false'. Refute it at one input. -/
def incescapeConcatenationWrong : ChangeSpec := { name := "incescapeConcatenation", fn := fun _ => fun
  | [d1, d2, d3] => { results := [.lit (.bool false)], args := [d1, d2, d3] }
  | _ => none }
def IncescapeConcatenationWrongFalsely : Prop := incescapeConcatenationRow.holds Tryd.pinned (OpenSpec.ofChange incescapeConcatenationWrong)

/- THE SECOND FORM. 'bulk': how many values and letters a reading holds, each counted each time it is reached (what is shared counts as often as it is met; a slice's spare places count too). A statement '..UptoSaid' is the law's where the arguments, and the package variables that the reading takes, are together of bulk at most 1048576: NARROWER than '..Said'. Prove '..Said' where nothing that the law and all that it calls make is longer than what came in: it says more and counts as full. Else prove '..UptoSaid'. A law counts once. -/
mutual
def uptoBulk {H : Type} : DataW H → Nat
  | .lit (.string bytes) => bytes.length + 1
  | .lit _ => 1
  | .nil => 1
  | .ptr d => uptoBulk d + 1
  | .slice elems spare => uptoBulkAll elems + uptoBulkAll spare + 1
  | .agg parts => uptoBulkAll parts + 1
  | .iface _ d => uptoBulk d + 1
  | .map entries => uptoBulkEntries entries + 1
  | .held _ => 1
def uptoBulkAll {H : Type} : List (DataW H) → Nat
  | [] => 0
  | d :: r => uptoBulk d + uptoBulkAll r
def uptoBulkEntries {H : Type} : List (Lit × DataW H) → Nat
  | [] => 0
  | x :: r => uptoBulkEntry x + uptoBulkEntries r
def uptoBulkEntry {H : Type} : Lit × DataW H → Nat
  | (.string bytes, d) => bytes.length + uptoBulk d + 1
  | (_, d) => uptoBulk d + 1
 end
def uptoSmall : (H : Type) → List (DataW H) → Bool := fun _ ds => decide (uptoBulkAll ds ≤ 1048576)
def OpenSpec.upto (s : _root_.Go.ChangeSpec) : _root_.Go.OpenSpec := { _root_.Go.OpenSpec.ofChange s with cond := some uptoSmall }

/-- 'tmplpipelaw07.EscapeRuneMatchesReference', WHERE WHAT IT READS IS OF BULK AT MOST 1048576: true; the input reads as it did. -/
def escapeRuneMatchesReferenceUptoRow : OpenClaim := { program := "ytijioomcpecdhaadoor", sum := "cbdfa6eff96e3eb9689faa4e14653bd864de01142863e64f01fa6f270cf59e94", func := "tmplpipe/tmplpipelaw07.EscapeRuneMatchesReference", spec := "escapeRuneMatchesReference", inPlace := ["internal/bytealg.IndexByteString", "internal/bytealg.IndexString", "internal/abi.NoEscape", "internal/bytealg.MakeNoZero"], named := ["internal/strconv.uint64pow10", "math/bits.deBruijn32tab", "math/bits.deBruijn64tab", "internal/bytealg.MaxLen"], apart := false, laid := [("math/bits.deBruijn32tab", laid_math_bits_deBruijn32tab), ("math/bits.deBruijn64tab", laid_math_bits_deBruijn64tab), ("internal/strconv.uint64pow10", laid_internal_strconv_uint64pow10)], narrowed := true }
def EscapeRuneMatchesReferenceUptoSaid : Prop := escapeRuneMatchesReferenceUptoRow.holds Tryd.pinned (OpenSpec.upto escapeRuneMatchesReferenceSpec)

/-- 'tmplpipelaw07.EscapeKeepsLetters', WHERE WHAT IT READS IS OF BULK AT MOST 1048576: true; the input reads as it did. -/
def escapeKeepsLettersUptoRow : OpenClaim := { program := "ytijioomcpecdhaadoor", sum := "cbdfa6eff96e3eb9689faa4e14653bd864de01142863e64f01fa6f270cf59e94", func := "tmplpipe/tmplpipelaw07.EscapeKeepsLetters", spec := "escapeKeepsLetters", inPlace := ["internal/bytealg.IndexByteString", "internal/bytealg.IndexString", "internal/abi.NoEscape", "internal/bytealg.MakeNoZero"], named := ["internal/strconv.uint64pow10", "math/bits.deBruijn32tab", "math/bits.deBruijn64tab", "internal/bytealg.MaxLen"], apart := false, laid := [("math/bits.deBruijn32tab", laid_math_bits_deBruijn32tab), ("math/bits.deBruijn64tab", laid_math_bits_deBruijn64tab), ("internal/strconv.uint64pow10", laid_internal_strconv_uint64pow10)], narrowed := true }
def EscapeKeepsLettersUptoSaid : Prop := escapeKeepsLettersUptoRow.holds Tryd.pinned (OpenSpec.upto escapeKeepsLettersSpec)

/-- 'tmplpipelaw07.EscapeConcatenation', WHERE WHAT IT READS IS OF BULK AT MOST 1048576: true; the input reads as it did. -/
def escapeConcatenationUptoRow : OpenClaim := { program := "ytijioomcpecdhaadoor", sum := "cbdfa6eff96e3eb9689faa4e14653bd864de01142863e64f01fa6f270cf59e94", func := "tmplpipe/tmplpipelaw07.EscapeConcatenation", spec := "escapeConcatenation", inPlace := ["internal/bytealg.IndexByteString", "internal/bytealg.IndexString", "internal/abi.NoEscape", "internal/bytealg.MakeNoZero"], named := ["unicode/utf8.first", "unicode/utf8.acceptRanges", "internal/strconv.uint64pow10", "math/bits.deBruijn32tab", "math/bits.deBruijn64tab", "internal/bytealg.MaxLen"], apart := false, laid := [("math/bits.deBruijn32tab", laid_math_bits_deBruijn32tab), ("math/bits.deBruijn64tab", laid_math_bits_deBruijn64tab), ("internal/strconv.uint64pow10", laid_internal_strconv_uint64pow10), ("unicode/utf8.acceptRanges", laid_unicode_utf8_acceptRanges), ("unicode/utf8.first", laid_unicode_utf8_first)], narrowed := true }
def EscapeConcatenationUptoSaid : Prop := escapeConcatenationUptoRow.holds Tryd.pinned (OpenSpec.upto escapeConcatenationSpec)

/-- 'tmplpipelaw07.EscapeMatchesReference', WHERE WHAT IT READS IS OF BULK AT MOST 1048576: true; the input reads as it did. -/
def escapeMatchesReferenceUptoRow : OpenClaim := { program := "ytijioomcpecdhaadoor", sum := "cbdfa6eff96e3eb9689faa4e14653bd864de01142863e64f01fa6f270cf59e94", func := "tmplpipe/tmplpipelaw07.EscapeMatchesReference", spec := "escapeMatchesReference", inPlace := ["internal/bytealg.IndexByteString", "internal/bytealg.IndexString", "internal/abi.NoEscape", "internal/bytealg.MakeNoZero"], unfollowed := true, recurses := true, named := ["internal/strconv.uint64pow10", "math/bits.deBruijn32tab", "math/bits.deBruijn64tab", "unicode/utf8.first", "unicode/utf8.acceptRanges", "internal/bytealg.MaxLen"], apart := false, laid := [("math/bits.deBruijn32tab", laid_math_bits_deBruijn32tab), ("math/bits.deBruijn64tab", laid_math_bits_deBruijn64tab), ("internal/strconv.uint64pow10", laid_internal_strconv_uint64pow10), ("unicode/utf8.acceptRanges", laid_unicode_utf8_acceptRanges), ("unicode/utf8.first", laid_unicode_utf8_first)], narrowed := true }
def EscapeMatchesReferenceUptoSaid : Prop := escapeMatchesReferenceUptoRow.holds Tryd.pinned (OpenSpec.upto escapeMatchesReferenceSpec)

/-- 'tmplpipelaw07.EscapeIsSafe', WHERE WHAT IT READS IS OF BULK AT MOST 1048576: true; the input reads as it did. -/
def escapeIsSafeUptoRow : OpenClaim := { program := "ytijioomcpecdhaadoor", sum := "cbdfa6eff96e3eb9689faa4e14653bd864de01142863e64f01fa6f270cf59e94", func := "tmplpipe/tmplpipelaw07.EscapeIsSafe", spec := "escapeIsSafe", inPlace := ["internal/bytealg.IndexByteString", "internal/bytealg.IndexString", "internal/abi.NoEscape", "internal/bytealg.MakeNoZero"], unfollowed := true, recurses := true, named := ["internal/strconv.uint64pow10", "math/bits.deBruijn32tab", "math/bits.deBruijn64tab", "unicode/utf8.first", "unicode/utf8.acceptRanges", "internal/bytealg.MaxLen"], apart := false, laid := [("math/bits.deBruijn32tab", laid_math_bits_deBruijn32tab), ("math/bits.deBruijn64tab", laid_math_bits_deBruijn64tab), ("internal/strconv.uint64pow10", laid_internal_strconv_uint64pow10), ("unicode/utf8.acceptRanges", laid_unicode_utf8_acceptRanges), ("unicode/utf8.first", laid_unicode_utf8_first)], narrowed := true }
def EscapeIsSafeUptoSaid : Prop := escapeIsSafeUptoRow.holds Tryd.pinned (OpenSpec.upto escapeIsSafeSpec)

/-- 'tmplpipelaw07.EscapeIsInjective', WHERE WHAT IT READS IS OF BULK AT MOST 1048576: true; the input reads as it did. -/
def escapeIsInjectiveUptoRow : OpenClaim := { program := "ytijioomcpecdhaadoor", sum := "cbdfa6eff96e3eb9689faa4e14653bd864de01142863e64f01fa6f270cf59e94", func := "tmplpipe/tmplpipelaw07.EscapeIsInjective", spec := "escapeIsInjective", inPlace := ["internal/bytealg.IndexByteString", "internal/bytealg.IndexString", "internal/abi.NoEscape", "internal/bytealg.MakeNoZero"], named := ["unicode/utf8.first", "unicode/utf8.acceptRanges", "internal/bytealg.MaxLen", "internal/strconv.uint64pow10", "math/bits.deBruijn32tab", "math/bits.deBruijn64tab"], apart := false, laid := [("math/bits.deBruijn32tab", laid_math_bits_deBruijn32tab), ("math/bits.deBruijn64tab", laid_math_bits_deBruijn64tab), ("internal/strconv.uint64pow10", laid_internal_strconv_uint64pow10), ("unicode/utf8.acceptRanges", laid_unicode_utf8_acceptRanges), ("unicode/utf8.first", laid_unicode_utf8_first)], narrowed := true }
def EscapeIsInjectiveUptoSaid : Prop := escapeIsInjectiveUptoRow.holds Tryd.pinned (OpenSpec.upto escapeIsInjectiveSpec)

/-- 'tmplpipelaw08.IncescapeNumbers', WHERE WHAT IT READS IS OF BULK AT MOST 1048576: true; the input reads as it did. -/
def incescapeNumbersUptoRow : OpenClaim := { program := "ytijioomcpecdhaadoor", sum := "cbdfa6eff96e3eb9689faa4e14653bd864de01142863e64f01fa6f270cf59e94", func := "tmplpipe/tmplpipelaw08.IncescapeNumbers", spec := "incescapeNumbers", inPlace := ["internal/bytealg.IndexByteString", "internal/bytealg.IndexString", "internal/abi.NoEscape", "internal/bytealg.MakeNoZero"], named := ["unicode/utf8.first", "unicode/utf8.acceptRanges", "internal/strconv.uint64pow10", "math/bits.deBruijn32tab", "math/bits.deBruijn64tab", "internal/bytealg.MaxLen"], apart := false, laid := [("math/bits.deBruijn32tab", laid_math_bits_deBruijn32tab), ("math/bits.deBruijn64tab", laid_math_bits_deBruijn64tab), ("internal/strconv.uint64pow10", laid_internal_strconv_uint64pow10), ("unicode/utf8.acceptRanges", laid_unicode_utf8_acceptRanges), ("unicode/utf8.first", laid_unicode_utf8_first)], narrowed := true }
def IncescapeNumbersUptoSaid : Prop := incescapeNumbersUptoRow.holds Tryd.pinned (OpenSpec.upto incescapeNumbersSpec)

/-- 'tmplpipelaw08.IncescapeMatchesReference', WHERE WHAT IT READS IS OF BULK AT MOST 1048576: true; the input reads as it did. -/
def incescapeMatchesReferenceUptoRow : OpenClaim := { program := "ytijioomcpecdhaadoor", sum := "cbdfa6eff96e3eb9689faa4e14653bd864de01142863e64f01fa6f270cf59e94", func := "tmplpipe/tmplpipelaw08.IncescapeMatchesReference", spec := "incescapeMatchesReference", inPlace := ["internal/bytealg.IndexByteString", "internal/bytealg.IndexString", "internal/abi.NoEscape", "internal/bytealg.MakeNoZero"], named := ["unicode/utf8.first", "unicode/utf8.acceptRanges", "internal/strconv.uint64pow10", "math/bits.deBruijn32tab", "math/bits.deBruijn64tab", "internal/bytealg.MaxLen"], apart := false, laid := [("math/bits.deBruijn32tab", laid_math_bits_deBruijn32tab), ("math/bits.deBruijn64tab", laid_math_bits_deBruijn64tab), ("internal/strconv.uint64pow10", laid_internal_strconv_uint64pow10), ("unicode/utf8.acceptRanges", laid_unicode_utf8_acceptRanges), ("unicode/utf8.first", laid_unicode_utf8_first)], narrowed := true }
def IncescapeMatchesReferenceUptoSaid : Prop := incescapeMatchesReferenceUptoRow.holds Tryd.pinned (OpenSpec.upto incescapeMatchesReferenceSpec)

/-- 'tmplpipelaw08.IncescapeHoldsLittle', WHERE WHAT IT READS IS OF BULK AT MOST 1048576: true; the input reads as it did. -/
def incescapeHoldsLittleUptoRow : OpenClaim := { program := "ytijioomcpecdhaadoor", sum := "cbdfa6eff96e3eb9689faa4e14653bd864de01142863e64f01fa6f270cf59e94", func := "tmplpipe/tmplpipelaw08.IncescapeHoldsLittle", spec := "incescapeHoldsLittle", inPlace := ["internal/bytealg.IndexByteString", "internal/bytealg.IndexString", "internal/abi.NoEscape", "internal/bytealg.MakeNoZero"], named := ["unicode/utf8.first", "unicode/utf8.acceptRanges", "internal/strconv.uint64pow10", "math/bits.deBruijn32tab", "math/bits.deBruijn64tab", "internal/bytealg.MaxLen"], apart := false, laid := [("math/bits.deBruijn32tab", laid_math_bits_deBruijn32tab), ("math/bits.deBruijn64tab", laid_math_bits_deBruijn64tab), ("internal/strconv.uint64pow10", laid_internal_strconv_uint64pow10), ("unicode/utf8.acceptRanges", laid_unicode_utf8_acceptRanges), ("unicode/utf8.first", laid_unicode_utf8_first)], narrowed := true }
def IncescapeHoldsLittleUptoSaid : Prop := incescapeHoldsLittleUptoRow.holds Tryd.pinned (OpenSpec.upto incescapeHoldsLittleSpec)

/-- 'tmplpipelaw08.IncescapeNext', WHERE WHAT IT READS IS OF BULK AT MOST 1048576: true; the input reads as it did. -/
def incescapeNextUptoRow : OpenClaim := { program := "ytijioomcpecdhaadoor", sum := "cbdfa6eff96e3eb9689faa4e14653bd864de01142863e64f01fa6f270cf59e94", func := "tmplpipe/tmplpipelaw08.IncescapeNext", spec := "incescapeNext", inPlace := ["internal/bytealg.IndexByteString", "internal/bytealg.IndexString", "internal/abi.NoEscape", "internal/bytealg.MakeNoZero"], named := ["unicode/utf8.first", "unicode/utf8.acceptRanges", "internal/strconv.uint64pow10", "math/bits.deBruijn32tab", "math/bits.deBruijn64tab", "internal/bytealg.MaxLen"], apart := false, laid := [("math/bits.deBruijn32tab", laid_math_bits_deBruijn32tab), ("math/bits.deBruijn64tab", laid_math_bits_deBruijn64tab), ("internal/strconv.uint64pow10", laid_internal_strconv_uint64pow10), ("unicode/utf8.acceptRanges", laid_unicode_utf8_acceptRanges), ("unicode/utf8.first", laid_unicode_utf8_first)], narrowed := true }
def IncescapeNextUptoSaid : Prop := incescapeNextUptoRow.holds Tryd.pinned (OpenSpec.upto incescapeNextSpec)

/-- 'tmplpipelaw08.IncescapeSplitIrrelevant', WHERE WHAT IT READS IS OF BULK AT MOST 1048576: true; the input reads as it did. -/
def incescapeSplitIrrelevantUptoRow : OpenClaim := { program := "ytijioomcpecdhaadoor", sum := "cbdfa6eff96e3eb9689faa4e14653bd864de01142863e64f01fa6f270cf59e94", func := "tmplpipe/tmplpipelaw08.IncescapeSplitIrrelevant", spec := "incescapeSplitIrrelevant", inPlace := ["internal/bytealg.IndexByteString", "internal/bytealg.IndexString", "internal/abi.NoEscape", "internal/bytealg.MakeNoZero"], named := ["unicode/utf8.first", "unicode/utf8.acceptRanges", "internal/strconv.uint64pow10", "math/bits.deBruijn32tab", "math/bits.deBruijn64tab", "internal/bytealg.MaxLen"], apart := false, laid := [("math/bits.deBruijn32tab", laid_math_bits_deBruijn32tab), ("math/bits.deBruijn64tab", laid_math_bits_deBruijn64tab), ("internal/strconv.uint64pow10", laid_internal_strconv_uint64pow10), ("unicode/utf8.acceptRanges", laid_unicode_utf8_acceptRanges), ("unicode/utf8.first", laid_unicode_utf8_first)], narrowed := true }
def IncescapeSplitIrrelevantUptoSaid : Prop := incescapeSplitIrrelevantUptoRow.holds Tryd.pinned (OpenSpec.upto incescapeSplitIrrelevantSpec)

/-- 'tmplpipelaw08.IncescapeConcatenation', WHERE WHAT IT READS IS OF BULK AT MOST 1048576: true; the input reads as it did. -/
def incescapeConcatenationUptoRow : OpenClaim := { program := "ytijioomcpecdhaadoor", sum := "cbdfa6eff96e3eb9689faa4e14653bd864de01142863e64f01fa6f270cf59e94", func := "tmplpipe/tmplpipelaw08.IncescapeConcatenation", spec := "incescapeConcatenation", inPlace := ["internal/abi.NoEscape", "internal/bytealg.MakeNoZero", "internal/bytealg.IndexByteString", "internal/bytealg.IndexString"], named := ["unicode/utf8.first", "unicode/utf8.acceptRanges", "internal/strconv.uint64pow10", "math/bits.deBruijn32tab", "math/bits.deBruijn64tab", "internal/bytealg.MaxLen"], apart := false, laid := [("math/bits.deBruijn32tab", laid_math_bits_deBruijn32tab), ("math/bits.deBruijn64tab", laid_math_bits_deBruijn64tab), ("internal/strconv.uint64pow10", laid_internal_strconv_uint64pow10), ("unicode/utf8.acceptRanges", laid_unicode_utf8_acceptRanges), ("unicode/utf8.first", laid_unicode_utf8_first)], narrowed := true }
def IncescapeConcatenationUptoSaid : Prop := incescapeConcatenationUptoRow.holds Tryd.pinned (OpenSpec.upto incescapeConcatenationSpec)

end Rows
end Go.Proofs.YtijioomcpecdhaaDoor
