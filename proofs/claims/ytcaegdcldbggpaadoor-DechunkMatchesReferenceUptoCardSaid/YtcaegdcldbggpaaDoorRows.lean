/-
  NARROWER THAN 'FOR EVERY INPUT', by the rows' own cells (each row's printed sentence says how): DechunkDecodeMatchesReference: laid · DechunkMatchesReference: laid · DechunkSplitIrrelevant: laid · HexlineFormatMatchesReference: laid · HexlineParseMatchesReference: laid · HexlineRoundTrip: laid · HexlineIsCanonical: laid · HexlineOrder: laid.
  DERIVED. THE GIVEN ROWS OF THIS SEAT. 8 by the template 'for every input the law returns true; each argument reads behind the call as it read before'; 0 by the template 'total and deterministic' (their statements: YtcaegdcldbggpaaDoorTotals.lean).
  GIVEN WITH THE SEED: the statements are not yours to turn. If you find one false, say at which input.
  Laid BY PROGRAM, IN A SANDBOX (cutbox-rows.mjs): the forced cells as the released guide's own fill.sh prints them over the translation af63c393a006dec8… (all of the seat's roots in one cut). By AI agents, Wed Nov 11 2026. No macro, syntax, notation, axiom, sorry.
-/
import Derived.Test.YtcaegdcldbggpaaDoorChecked
import GoSem.PinnedTables
import GoSem.Claim
import GoSem.ClaimJoined
import GoSem.ClaimMapViews
import Derived.JoinedTies
import Derived.KernelRfl
namespace Go.Proofs.YtcaegdcldbggpaaDoor
/- THE CELL 'sum', in the pinned program and in every row, IS THE sha256 OF THE DUMP (.gsa) THAT YtcaegdcldbggpaaDoorProg.lean LOADS. Nothing in Lean hashes anything: it is a label: what it is worth is what the hold of that sum in a sandbox is worth. -/
noncomputable def Tryd.pinned : Pinned := { name := "ytcaegdcldbggpaadoor", sum := "af63c393a006dec8f8881ad282d7a78d80e979f4f7bef512aaa1f124ebb5b0fa", checked := Tryd.checked }
namespace Rows
def none {H : Type} : Left H := { results := [], args := [] }

/- WHAT THE LISTED PACKAGE-LEVEL VARIABLES READ AS WHEN THE CALL BEGINS. Each datum BY PROGRAM (the guide's laid-datum.mjs) off the statement by which the dump's own 'gosem.cut.vars' lays the variable. In a bare row this is a premise. The card (YtcaegdcldbggpaaDoorCards.lean) ties it to the program's text. -/
def laid_unicode_utf8_acceptRanges {H : Type} : DataW H := .agg [.agg [.lit (.int .u8 128), .lit (.int .u8 191)], .agg [.lit (.int .u8 160), .lit (.int .u8 191)], .agg [.lit (.int .u8 128), .lit (.int .u8 159)], .agg [.lit (.int .u8 144), .lit (.int .u8 191)], .agg [.lit (.int .u8 128), .lit (.int .u8 143)], .agg [.lit (.int .u8 0), .lit (.int .u8 0)], .agg [.lit (.int .u8 0), .lit (.int .u8 0)], .agg [.lit (.int .u8 0), .lit (.int .u8 0)], .agg [.lit (.int .u8 0), .lit (.int .u8 0)], .agg [.lit (.int .u8 0), .lit (.int .u8 0)], .agg [.lit (.int .u8 0), .lit (.int .u8 0)], .agg [.lit (.int .u8 0), .lit (.int .u8 0)], .agg [.lit (.int .u8 0), .lit (.int .u8 0)], .agg [.lit (.int .u8 0), .lit (.int .u8 0)], .agg [.lit (.int .u8 0), .lit (.int .u8 0)], .agg [.lit (.int .u8 0), .lit (.int .u8 0)]]
/-- One of Go's own tables, pinned by name: the form's constant. -/
def laid_unicode_utf8_first : DataW Unit := Go.Pinned.utf8First
def laid_math_bits_deBruijn32tab {H : Type} : DataW H := .agg [.lit (.int .u8 0), .lit (.int .u8 1), .lit (.int .u8 28), .lit (.int .u8 2), .lit (.int .u8 29), .lit (.int .u8 14), .lit (.int .u8 24), .lit (.int .u8 3), .lit (.int .u8 30), .lit (.int .u8 22), .lit (.int .u8 20), .lit (.int .u8 15), .lit (.int .u8 25), .lit (.int .u8 17), .lit (.int .u8 4), .lit (.int .u8 8), .lit (.int .u8 31), .lit (.int .u8 27), .lit (.int .u8 13), .lit (.int .u8 23), .lit (.int .u8 21), .lit (.int .u8 19), .lit (.int .u8 16), .lit (.int .u8 7), .lit (.int .u8 26), .lit (.int .u8 12), .lit (.int .u8 18), .lit (.int .u8 6), .lit (.int .u8 11), .lit (.int .u8 5), .lit (.int .u8 10), .lit (.int .u8 9)]
def laid_math_bits_deBruijn64tab {H : Type} : DataW H := .agg [.lit (.int .u8 0), .lit (.int .u8 1), .lit (.int .u8 56), .lit (.int .u8 2), .lit (.int .u8 57), .lit (.int .u8 49), .lit (.int .u8 28), .lit (.int .u8 3), .lit (.int .u8 61), .lit (.int .u8 58), .lit (.int .u8 42), .lit (.int .u8 50), .lit (.int .u8 38), .lit (.int .u8 29), .lit (.int .u8 17), .lit (.int .u8 4), .lit (.int .u8 62), .lit (.int .u8 47), .lit (.int .u8 59), .lit (.int .u8 36), .lit (.int .u8 45), .lit (.int .u8 43), .lit (.int .u8 51), .lit (.int .u8 22), .lit (.int .u8 53), .lit (.int .u8 39), .lit (.int .u8 33), .lit (.int .u8 30), .lit (.int .u8 24), .lit (.int .u8 18), .lit (.int .u8 12), .lit (.int .u8 5), .lit (.int .u8 63), .lit (.int .u8 55), .lit (.int .u8 48), .lit (.int .u8 27), .lit (.int .u8 60), .lit (.int .u8 41), .lit (.int .u8 37), .lit (.int .u8 16), .lit (.int .u8 46), .lit (.int .u8 35), .lit (.int .u8 44), .lit (.int .u8 21), .lit (.int .u8 52), .lit (.int .u8 32), .lit (.int .u8 23), .lit (.int .u8 11), .lit (.int .u8 54), .lit (.int .u8 26), .lit (.int .u8 40), .lit (.int .u8 15), .lit (.int .u8 34), .lit (.int .u8 20), .lit (.int .u8 31), .lit (.int .u8 10), .lit (.int .u8 25), .lit (.int .u8 14), .lit (.int .u8 19), .lit (.int .u8 9), .lit (.int .u8 13), .lit (.int .u8 8), .lit (.int .u8 7), .lit (.int .u8 6)]
def laid_internal_strconv_uint64pow10 {H : Type} : DataW H := .agg [.lit (.int .u64 1), .lit (.int .u64 10), .lit (.int .u64 100), .lit (.int .u64 1000), .lit (.int .u64 10000), .lit (.int .u64 100000), .lit (.int .u64 1000000), .lit (.int .u64 10000000), .lit (.int .u64 100000000), .lit (.int .u64 1000000000), .lit (.int .u64 10000000000), .lit (.int .u64 100000000000), .lit (.int .u64 1000000000000), .lit (.int .u64 10000000000000), .lit (.int .u64 100000000000000), .lit (.int .u64 1000000000000000), .lit (.int .u64 10000000000000000), .lit (.int .u64 100000000000000000), .lit (.int .u64 1000000000000000000), .lit (.int .u64 10000000000000000000)]

/-- 'tmplpipelaw05.DechunkDecodeMatchesReference': WHATEVER THE INPUT: true; the input reads as it did. -/
def dechunkDecodeMatchesReferenceSpec : ChangeSpec := { name := "dechunkDecodeMatchesReference", fn := fun _ => fun
  | [d] => { results := [.lit (.bool true)], args := [d] }
  | _ => none }
def dechunkDecodeMatchesReferenceRow : OpenClaim := { program := "ytcaegdcldbggpaadoor", sum := "af63c393a006dec8f8881ad282d7a78d80e979f4f7bef512aaa1f124ebb5b0fa", func := "tmplpipe/tmplpipelaw05.DechunkDecodeMatchesReference", spec := "dechunkDecodeMatchesReference", inPlace := ["internal/bytealg.IndexByteString", "internal/bytealg.IndexString"], unfollowed := true, recurses := true, named := ["unicode/utf8.first", "unicode/utf8.acceptRanges", "internal/bytealg.MaxLen"], apart := false, laid := [("unicode/utf8.acceptRanges", laid_unicode_utf8_acceptRanges), ("unicode/utf8.first", laid_unicode_utf8_first)] }
def DechunkDecodeMatchesReferenceSaid : Prop := dechunkDecodeMatchesReferenceRow.holds Tryd.pinned (OpenSpec.ofChange dechunkDecodeMatchesReferenceSpec)

/-- ITS FALSE NEIGHBOUR: 'it returns false'. Refute it at one input. -/
def dechunkDecodeMatchesReferenceWrong : ChangeSpec := { name := "dechunkDecodeMatchesReference", fn := fun _ => fun
  | [d] => { results := [.lit (.bool false)], args := [d] }
  | _ => none }
def DechunkDecodeMatchesReferenceWrongFalsely : Prop := dechunkDecodeMatchesReferenceRow.holds Tryd.pinned (OpenSpec.ofChange dechunkDecodeMatchesReferenceWrong)

/-- 'tmplpipelaw05.DechunkMatchesReference': WHATEVER THE INPUT: true; the input reads as it did. -/
def dechunkMatchesReferenceSpec : ChangeSpec := { name := "dechunkMatchesReference", fn := fun _ => fun
  | [d] => { results := [.lit (.bool true)], args := [d] }
  | _ => none }
def dechunkMatchesReferenceRow : OpenClaim := { program := "ytcaegdcldbggpaadoor", sum := "af63c393a006dec8f8881ad282d7a78d80e979f4f7bef512aaa1f124ebb5b0fa", func := "tmplpipe/tmplpipelaw05.DechunkMatchesReference", spec := "dechunkMatchesReference", inPlace := ["internal/bytealg.IndexByteString", "internal/bytealg.IndexString"], unfollowed := true, recurses := true, named := ["unicode/utf8.first", "unicode/utf8.acceptRanges", "internal/bytealg.MaxLen"], apart := false, laid := [("unicode/utf8.acceptRanges", laid_unicode_utf8_acceptRanges), ("unicode/utf8.first", laid_unicode_utf8_first)] }
def DechunkMatchesReferenceSaid : Prop := dechunkMatchesReferenceRow.holds Tryd.pinned (OpenSpec.ofChange dechunkMatchesReferenceSpec)

/-- ITS FALSE NEIGHBOUR: 'it returns false'. Refute it at one input. -/
def dechunkMatchesReferenceWrong : ChangeSpec := { name := "dechunkMatchesReference", fn := fun _ => fun
  | [d] => { results := [.lit (.bool false)], args := [d] }
  | _ => none }
def DechunkMatchesReferenceWrongFalsely : Prop := dechunkMatchesReferenceRow.holds Tryd.pinned (OpenSpec.ofChange dechunkMatchesReferenceWrong)

/-- 'tmplpipelaw05.DechunkSplitIrrelevant': WHATEVER THE INPUT: true; the input reads as it did. -/
def dechunkSplitIrrelevantSpec : ChangeSpec := { name := "dechunkSplitIrrelevant", fn := fun _ => fun
  | [d1, d2] => { results := [.lit (.bool true)], args := [d1, d2] }
  | _ => none }
def dechunkSplitIrrelevantRow : OpenClaim := { program := "ytcaegdcldbggpaadoor", sum := "af63c393a006dec8f8881ad282d7a78d80e979f4f7bef512aaa1f124ebb5b0fa", func := "tmplpipe/tmplpipelaw05.DechunkSplitIrrelevant", spec := "dechunkSplitIrrelevant", inPlace := ["internal/bytealg.IndexByteString", "internal/bytealg.IndexString"], unfollowed := true, recurses := true, named := ["unicode/utf8.first", "unicode/utf8.acceptRanges", "internal/bytealg.MaxLen"], apart := false, laid := [("unicode/utf8.acceptRanges", laid_unicode_utf8_acceptRanges), ("unicode/utf8.first", laid_unicode_utf8_first)] }
def DechunkSplitIrrelevantSaid : Prop := dechunkSplitIrrelevantRow.holds Tryd.pinned (OpenSpec.ofChange dechunkSplitIrrelevantSpec)

/-- ITS FALSE NEIGHBOUR: 'it returns false'. Refute it at one input. -/
def dechunkSplitIrrelevantWrong : ChangeSpec := { name := "dechunkSplitIrrelevant", fn := fun _ => fun
  | [d1, d2] => { results := [.lit (.bool false)], args := [d1, d2] }
  | _ => none }
def DechunkSplitIrrelevantWrongFalsely : Prop := dechunkSplitIrrelevantRow.holds Tryd.pinned (OpenSpec.ofChange dechunkSplitIrrelevantWrong)

/-- 'tmplpipelaw03.HexlineFormatMatchesReference': WHATEVER THE INPUT: true; the input reads as it did. -/
def hexlineFormatMatchesReferenceSpec : ChangeSpec := { name := "hexlineFormatMatchesReference", fn := fun _ => fun
  | [d] => { results := [.lit (.bool true)], args := [d] }
  | _ => none }
def hexlineFormatMatchesReferenceRow : OpenClaim := { program := "ytcaegdcldbggpaadoor", sum := "af63c393a006dec8f8881ad282d7a78d80e979f4f7bef512aaa1f124ebb5b0fa", func := "tmplpipe/tmplpipelaw03.HexlineFormatMatchesReference", spec := "hexlineFormatMatchesReference", inPlace := ["internal/bytealg.IndexByteString", "internal/bytealg.IndexString"], unfollowed := true, recurses := true, named := ["internal/strconv.uint64pow10", "math/bits.deBruijn32tab", "math/bits.deBruijn64tab", "unicode/utf8.first", "unicode/utf8.acceptRanges", "internal/bytealg.MaxLen"], apart := false, laid := [("math/bits.deBruijn32tab", laid_math_bits_deBruijn32tab), ("math/bits.deBruijn64tab", laid_math_bits_deBruijn64tab), ("internal/strconv.uint64pow10", laid_internal_strconv_uint64pow10), ("unicode/utf8.acceptRanges", laid_unicode_utf8_acceptRanges), ("unicode/utf8.first", laid_unicode_utf8_first)] }
def HexlineFormatMatchesReferenceSaid : Prop := hexlineFormatMatchesReferenceRow.holds Tryd.pinned (OpenSpec.ofChange hexlineFormatMatchesReferenceSpec)

/-- ITS FALSE NEIGHBOUR: 'it returns false'. Refute it at one input. -/
def hexlineFormatMatchesReferenceWrong : ChangeSpec := { name := "hexlineFormatMatchesReference", fn := fun _ => fun
  | [d] => { results := [.lit (.bool false)], args := [d] }
  | _ => none }
def HexlineFormatMatchesReferenceWrongFalsely : Prop := hexlineFormatMatchesReferenceRow.holds Tryd.pinned (OpenSpec.ofChange hexlineFormatMatchesReferenceWrong)

/-- 'tmplpipelaw03.HexlineParseMatchesReference': WHATEVER THE INPUT: true; the input reads as it did. -/
def hexlineParseMatchesReferenceSpec : ChangeSpec := { name := "hexlineParseMatchesReference", fn := fun _ => fun
  | [d] => { results := [.lit (.bool true)], args := [d] }
  | _ => none }
def hexlineParseMatchesReferenceRow : OpenClaim := { program := "ytcaegdcldbggpaadoor", sum := "af63c393a006dec8f8881ad282d7a78d80e979f4f7bef512aaa1f124ebb5b0fa", func := "tmplpipe/tmplpipelaw03.HexlineParseMatchesReference", spec := "hexlineParseMatchesReference", inPlace := ["internal/bytealg.IndexByteString", "internal/bytealg.IndexString"], unfollowed := true, recurses := true, named := ["internal/strconv.uint64pow10", "math/bits.deBruijn32tab", "math/bits.deBruijn64tab", "unicode/utf8.first", "unicode/utf8.acceptRanges", "internal/bytealg.MaxLen"], apart := false, laid := [("math/bits.deBruijn32tab", laid_math_bits_deBruijn32tab), ("math/bits.deBruijn64tab", laid_math_bits_deBruijn64tab), ("internal/strconv.uint64pow10", laid_internal_strconv_uint64pow10), ("unicode/utf8.acceptRanges", laid_unicode_utf8_acceptRanges), ("unicode/utf8.first", laid_unicode_utf8_first)] }
def HexlineParseMatchesReferenceSaid : Prop := hexlineParseMatchesReferenceRow.holds Tryd.pinned (OpenSpec.ofChange hexlineParseMatchesReferenceSpec)

/-- ITS FALSE NEIGHBOUR: 'it returns false'. Refute it at one input. -/
def hexlineParseMatchesReferenceWrong : ChangeSpec := { name := "hexlineParseMatchesReference", fn := fun _ => fun
  | [d] => { results := [.lit (.bool false)], args := [d] }
  | _ => none }
def HexlineParseMatchesReferenceWrongFalsely : Prop := hexlineParseMatchesReferenceRow.holds Tryd.pinned (OpenSpec.ofChange hexlineParseMatchesReferenceWrong)

/-- 'tmplpipelaw03.HexlineRoundTrip': WHATEVER THE INPUT: true; the input reads as it did. -/
def hexlineRoundTripSpec : ChangeSpec := { name := "hexlineRoundTrip", fn := fun _ => fun
  | [d1, d2] => { results := [.lit (.bool true)], args := [d1, d2] }
  | _ => none }
def hexlineRoundTripRow : OpenClaim := { program := "ytcaegdcldbggpaadoor", sum := "af63c393a006dec8f8881ad282d7a78d80e979f4f7bef512aaa1f124ebb5b0fa", func := "tmplpipe/tmplpipelaw03.HexlineRoundTrip", spec := "hexlineRoundTrip", inPlace := ["internal/bytealg.IndexByteString", "internal/bytealg.IndexString"], unfollowed := true, recurses := true, named := ["internal/strconv.uint64pow10", "math/bits.deBruijn32tab", "math/bits.deBruijn64tab", "unicode/utf8.first", "unicode/utf8.acceptRanges", "internal/bytealg.MaxLen"], apart := false, laid := [("math/bits.deBruijn32tab", laid_math_bits_deBruijn32tab), ("math/bits.deBruijn64tab", laid_math_bits_deBruijn64tab), ("internal/strconv.uint64pow10", laid_internal_strconv_uint64pow10), ("unicode/utf8.acceptRanges", laid_unicode_utf8_acceptRanges), ("unicode/utf8.first", laid_unicode_utf8_first)] }
def HexlineRoundTripSaid : Prop := hexlineRoundTripRow.holds Tryd.pinned (OpenSpec.ofChange hexlineRoundTripSpec)

/-- ITS FALSE NEIGHBOUR: 'it returns false'. Refute it at one input. -/
def hexlineRoundTripWrong : ChangeSpec := { name := "hexlineRoundTrip", fn := fun _ => fun
  | [d1, d2] => { results := [.lit (.bool false)], args := [d1, d2] }
  | _ => none }
def HexlineRoundTripWrongFalsely : Prop := hexlineRoundTripRow.holds Tryd.pinned (OpenSpec.ofChange hexlineRoundTripWrong)

/-- 'tmplpipelaw03.HexlineIsCanonical': WHATEVER THE INPUT: true; the input reads as it did. -/
def hexlineIsCanonicalSpec : ChangeSpec := { name := "hexlineIsCanonical", fn := fun _ => fun
  | [d] => { results := [.lit (.bool true)], args := [d] }
  | _ => none }
def hexlineIsCanonicalRow : OpenClaim := { program := "ytcaegdcldbggpaadoor", sum := "af63c393a006dec8f8881ad282d7a78d80e979f4f7bef512aaa1f124ebb5b0fa", func := "tmplpipe/tmplpipelaw03.HexlineIsCanonical", spec := "hexlineIsCanonical", inPlace := ["internal/bytealg.IndexByteString", "internal/bytealg.IndexString"], unfollowed := true, recurses := true, named := ["unicode/utf8.first", "unicode/utf8.acceptRanges", "internal/strconv.uint64pow10", "math/bits.deBruijn32tab", "math/bits.deBruijn64tab", "internal/bytealg.MaxLen"], apart := false, laid := [("math/bits.deBruijn32tab", laid_math_bits_deBruijn32tab), ("math/bits.deBruijn64tab", laid_math_bits_deBruijn64tab), ("internal/strconv.uint64pow10", laid_internal_strconv_uint64pow10), ("unicode/utf8.acceptRanges", laid_unicode_utf8_acceptRanges), ("unicode/utf8.first", laid_unicode_utf8_first)] }
def HexlineIsCanonicalSaid : Prop := hexlineIsCanonicalRow.holds Tryd.pinned (OpenSpec.ofChange hexlineIsCanonicalSpec)

/-- ITS FALSE NEIGHBOUR: 'it returns false'. Refute it at one input. -/
def hexlineIsCanonicalWrong : ChangeSpec := { name := "hexlineIsCanonical", fn := fun _ => fun
  | [d] => { results := [.lit (.bool false)], args := [d] }
  | _ => none }
def HexlineIsCanonicalWrongFalsely : Prop := hexlineIsCanonicalRow.holds Tryd.pinned (OpenSpec.ofChange hexlineIsCanonicalWrong)

/-- 'tmplpipelaw03.HexlineOrder': WHATEVER THE INPUT: true; the input reads as it did. -/
def hexlineOrderSpec : ChangeSpec := { name := "hexlineOrder", fn := fun _ => fun
  | [d1, d2] => { results := [.lit (.bool true)], args := [d1, d2] }
  | _ => none }
def hexlineOrderRow : OpenClaim := { program := "ytcaegdcldbggpaadoor", sum := "af63c393a006dec8f8881ad282d7a78d80e979f4f7bef512aaa1f124ebb5b0fa", func := "tmplpipe/tmplpipelaw03.HexlineOrder", spec := "hexlineOrder", inPlace := ["internal/bytealg.IndexByteString", "internal/bytealg.IndexString"], unfollowed := true, recurses := true, named := ["internal/strconv.uint64pow10", "math/bits.deBruijn32tab", "math/bits.deBruijn64tab", "unicode/utf8.first", "unicode/utf8.acceptRanges", "internal/bytealg.MaxLen"], apart := false, laid := [("math/bits.deBruijn32tab", laid_math_bits_deBruijn32tab), ("math/bits.deBruijn64tab", laid_math_bits_deBruijn64tab), ("internal/strconv.uint64pow10", laid_internal_strconv_uint64pow10), ("unicode/utf8.acceptRanges", laid_unicode_utf8_acceptRanges), ("unicode/utf8.first", laid_unicode_utf8_first)] }
def HexlineOrderSaid : Prop := hexlineOrderRow.holds Tryd.pinned (OpenSpec.ofChange hexlineOrderSpec)

/-- ITS FALSE NEIGHBOUR: 'it returns false'. Refute it at one input. -/
def hexlineOrderWrong : ChangeSpec := { name := "hexlineOrder", fn := fun _ => fun
  | [d1, d2] => { results := [.lit (.bool false)], args := [d1, d2] }
  | _ => none }
def HexlineOrderWrongFalsely : Prop := hexlineOrderRow.holds Tryd.pinned (OpenSpec.ofChange hexlineOrderWrong)

/- THE SECOND FORM. 'bulk': how many values and letters a reading holds, each counted each time it is reached (what is shared counts as often as it is met; a slice's spare places count too). A statement '..UptoSaid' is the law's where the arguments, and the package variables that the reading takes, are together of bulk at most 1048576: NARROWER than '..Said'. Prove '..Said' where nothing that the law and all that it calls make is longer than what came in: it says more and counts as full. Else prove '..UptoSaid'. A law counts once. -/
mutual
def uptoBulk {H : Type} : DataW H → Nat
  | .lit (.string bytes) => bytes.length + 1
  | .lit _ => 1
  | .nil => 1
  | .ptr d => uptoBulk d + 1
  | .slice elems spare => uptoBulkAll elems + uptoBulkAll spare + 1
  | .agg parts => uptoBulkAll parts + 1
  | .iface _ d => uptoBulk d + 1
  | .map entries => uptoBulkEntries entries + 1
  | .held _ => 1
def uptoBulkAll {H : Type} : List (DataW H) → Nat
  | [] => 0
  | d :: r => uptoBulk d + uptoBulkAll r
def uptoBulkEntries {H : Type} : List (Lit × DataW H) → Nat
  | [] => 0
  | x :: r => uptoBulkEntry x + uptoBulkEntries r
def uptoBulkEntry {H : Type} : Lit × DataW H → Nat
  | (.string bytes, d) => bytes.length + uptoBulk d + 1
  | (_, d) => uptoBulk d + 1
 end
def uptoSmall : (H : Type) → List (DataW H) → Bool := fun _ ds => decide (uptoBulkAll ds ≤ 1048576)
def OpenSpec.upto (s : _root_.Go.ChangeSpec) : _root_.Go.OpenSpec := { _root_.Go.OpenSpec.ofChange s with cond := some uptoSmall }

/-- 'tmplpipelaw05.DechunkDecodeMatchesReference', WHERE WHAT IT READS IS OF BULK AT MOST 1048576: true; the input reads as it did. -/
def dechunkDecodeMatchesReferenceUptoRow : OpenClaim := { program := "ytcaegdcldbggpaadoor", sum := "af63c393a006dec8f8881ad282d7a78d80e979f4f7bef512aaa1f124ebb5b0fa", func := "tmplpipe/tmplpipelaw05.DechunkDecodeMatchesReference", spec := "dechunkDecodeMatchesReference", inPlace := ["internal/bytealg.IndexByteString", "internal/bytealg.IndexString"], unfollowed := true, recurses := true, named := ["unicode/utf8.first", "unicode/utf8.acceptRanges", "internal/bytealg.MaxLen"], apart := false, laid := [("unicode/utf8.acceptRanges", laid_unicode_utf8_acceptRanges), ("unicode/utf8.first", laid_unicode_utf8_first)], narrowed := true }
def DechunkDecodeMatchesReferenceUptoSaid : Prop := dechunkDecodeMatchesReferenceUptoRow.holds Tryd.pinned (OpenSpec.upto dechunkDecodeMatchesReferenceSpec)

/-- 'tmplpipelaw05.DechunkMatchesReference', WHERE WHAT IT READS IS OF BULK AT MOST 1048576: true; the input reads as it did. -/
def dechunkMatchesReferenceUptoRow : OpenClaim := { program := "ytcaegdcldbggpaadoor", sum := "af63c393a006dec8f8881ad282d7a78d80e979f4f7bef512aaa1f124ebb5b0fa", func := "tmplpipe/tmplpipelaw05.DechunkMatchesReference", spec := "dechunkMatchesReference", inPlace := ["internal/bytealg.IndexByteString", "internal/bytealg.IndexString"], unfollowed := true, recurses := true, named := ["unicode/utf8.first", "unicode/utf8.acceptRanges", "internal/bytealg.MaxLen"], apart := false, laid := [("unicode/utf8.acceptRanges", laid_unicode_utf8_acceptRanges), ("unicode/utf8.first", laid_unicode_utf8_first)], narrowed := true }
def DechunkMatchesReferenceUptoSaid : Prop := dechunkMatchesReferenceUptoRow.holds Tryd.pinned (OpenSpec.upto dechunkMatchesReferenceSpec)

/-- 'tmplpipelaw05.DechunkSplitIrrelevant', WHERE WHAT IT READS IS OF BULK AT MOST 1048576: true; the input reads as it did. -/
def dechunkSplitIrrelevantUptoRow : OpenClaim := { program := "ytcaegdcldbggpaadoor", sum := "af63c393a006dec8f8881ad282d7a78d80e979f4f7bef512aaa1f124ebb5b0fa", func := "tmplpipe/tmplpipelaw05.DechunkSplitIrrelevant", spec := "dechunkSplitIrrelevant", inPlace := ["internal/bytealg.IndexByteString", "internal/bytealg.IndexString"], unfollowed := true, recurses := true, named := ["unicode/utf8.first", "unicode/utf8.acceptRanges", "internal/bytealg.MaxLen"], apart := false, laid := [("unicode/utf8.acceptRanges", laid_unicode_utf8_acceptRanges), ("unicode/utf8.first", laid_unicode_utf8_first)], narrowed := true }
def DechunkSplitIrrelevantUptoSaid : Prop := dechunkSplitIrrelevantUptoRow.holds Tryd.pinned (OpenSpec.upto dechunkSplitIrrelevantSpec)

/-- 'tmplpipelaw03.HexlineFormatMatchesReference', WHERE WHAT IT READS IS OF BULK AT MOST 1048576: true; the input reads as it did. -/
def hexlineFormatMatchesReferenceUptoRow : OpenClaim := { program := "ytcaegdcldbggpaadoor", sum := "af63c393a006dec8f8881ad282d7a78d80e979f4f7bef512aaa1f124ebb5b0fa", func := "tmplpipe/tmplpipelaw03.HexlineFormatMatchesReference", spec := "hexlineFormatMatchesReference", inPlace := ["internal/bytealg.IndexByteString", "internal/bytealg.IndexString"], unfollowed := true, recurses := true, named := ["internal/strconv.uint64pow10", "math/bits.deBruijn32tab", "math/bits.deBruijn64tab", "unicode/utf8.first", "unicode/utf8.acceptRanges", "internal/bytealg.MaxLen"], apart := false, laid := [("math/bits.deBruijn32tab", laid_math_bits_deBruijn32tab), ("math/bits.deBruijn64tab", laid_math_bits_deBruijn64tab), ("internal/strconv.uint64pow10", laid_internal_strconv_uint64pow10), ("unicode/utf8.acceptRanges", laid_unicode_utf8_acceptRanges), ("unicode/utf8.first", laid_unicode_utf8_first)], narrowed := true }
def HexlineFormatMatchesReferenceUptoSaid : Prop := hexlineFormatMatchesReferenceUptoRow.holds Tryd.pinned (OpenSpec.upto hexlineFormatMatchesReferenceSpec)

/-- 'tmplpipelaw03.HexlineParseMatchesReference', WHERE WHAT IT READS IS OF BULK AT MOST 1048576: true; the input reads as it did. -/
def hexlineParseMatchesReferenceUptoRow : OpenClaim := { program := "ytcaegdcldbggpaadoor", sum := "af63c393a006dec8f8881ad282d7a78d80e979f4f7bef512aaa1f124ebb5b0fa", func := "tmplpipe/tmplpipelaw03.HexlineParseMatchesReference", spec := "hexlineParseMatchesReference", inPlace := ["internal/bytealg.IndexByteString", "internal/bytealg.IndexString"], unfollowed := true, recurses := true, named := ["internal/strconv.uint64pow10", "math/bits.deBruijn32tab", "math/bits.deBruijn64tab", "unicode/utf8.first", "unicode/utf8.acceptRanges", "internal/bytealg.MaxLen"], apart := false, laid := [("math/bits.deBruijn32tab", laid_math_bits_deBruijn32tab), ("math/bits.deBruijn64tab", laid_math_bits_deBruijn64tab), ("internal/strconv.uint64pow10", laid_internal_strconv_uint64pow10), ("unicode/utf8.acceptRanges", laid_unicode_utf8_acceptRanges), ("unicode/utf8.first", laid_unicode_utf8_first)], narrowed := true }
def HexlineParseMatchesReferenceUptoSaid : Prop := hexlineParseMatchesReferenceUptoRow.holds Tryd.pinned (OpenSpec.upto hexlineParseMatchesReferenceSpec)

/-- 'tmplpipelaw03.HexlineRoundTrip', WHERE WHAT IT READS IS OF BULK AT MOST 1048576: true; the input reads as it did. -/
def hexlineRoundTripUptoRow : OpenClaim := { program := "ytcaegdcldbggpaadoor", sum := "af63c393a006dec8f8881ad282d7a78d80e979f4f7bef512aaa1f124ebb5b0fa", func := "tmplpipe/tmplpipelaw03.HexlineRoundTrip", spec := "hexlineRoundTrip", inPlace := ["internal/bytealg.IndexByteString", "internal/bytealg.IndexString"], unfollowed := true, recurses := true, named := ["internal/strconv.uint64pow10", "math/bits.deBruijn32tab", "math/bits.deBruijn64tab", "unicode/utf8.first", "unicode/utf8.acceptRanges", "internal/bytealg.MaxLen"], apart := false, laid := [("math/bits.deBruijn32tab", laid_math_bits_deBruijn32tab), ("math/bits.deBruijn64tab", laid_math_bits_deBruijn64tab), ("internal/strconv.uint64pow10", laid_internal_strconv_uint64pow10), ("unicode/utf8.acceptRanges", laid_unicode_utf8_acceptRanges), ("unicode/utf8.first", laid_unicode_utf8_first)], narrowed := true }
def HexlineRoundTripUptoSaid : Prop := hexlineRoundTripUptoRow.holds Tryd.pinned (OpenSpec.upto hexlineRoundTripSpec)

/-- 'tmplpipelaw03.HexlineIsCanonical', WHERE WHAT IT READS IS OF BULK AT MOST 1048576: true; the input reads as it did. -/
def hexlineIsCanonicalUptoRow : OpenClaim := { program := "ytcaegdcldbggpaadoor", sum := "af63c393a006dec8f8881ad282d7a78d80e979f4f7bef512aaa1f124ebb5b0fa", func := "tmplpipe/tmplpipelaw03.HexlineIsCanonical", spec := "hexlineIsCanonical", inPlace := ["internal/bytealg.IndexByteString", "internal/bytealg.IndexString"], unfollowed := true, recurses := true, named := ["unicode/utf8.first", "unicode/utf8.acceptRanges", "internal/strconv.uint64pow10", "math/bits.deBruijn32tab", "math/bits.deBruijn64tab", "internal/bytealg.MaxLen"], apart := false, laid := [("math/bits.deBruijn32tab", laid_math_bits_deBruijn32tab), ("math/bits.deBruijn64tab", laid_math_bits_deBruijn64tab), ("internal/strconv.uint64pow10", laid_internal_strconv_uint64pow10), ("unicode/utf8.acceptRanges", laid_unicode_utf8_acceptRanges), ("unicode/utf8.first", laid_unicode_utf8_first)], narrowed := true }
def HexlineIsCanonicalUptoSaid : Prop := hexlineIsCanonicalUptoRow.holds Tryd.pinned (OpenSpec.upto hexlineIsCanonicalSpec)

/-- 'tmplpipelaw03.HexlineOrder', WHERE WHAT IT READS IS OF BULK AT MOST 1048576: true; the input reads as it did. -/
def hexlineOrderUptoRow : OpenClaim := { program := "ytcaegdcldbggpaadoor", sum := "af63c393a006dec8f8881ad282d7a78d80e979f4f7bef512aaa1f124ebb5b0fa", func := "tmplpipe/tmplpipelaw03.HexlineOrder", spec := "hexlineOrder", inPlace := ["internal/bytealg.IndexByteString", "internal/bytealg.IndexString"], unfollowed := true, recurses := true, named := ["internal/strconv.uint64pow10", "math/bits.deBruijn32tab", "math/bits.deBruijn64tab", "unicode/utf8.first", "unicode/utf8.acceptRanges", "internal/bytealg.MaxLen"], apart := false, laid := [("math/bits.deBruijn32tab", laid_math_bits_deBruijn32tab), ("math/bits.deBruijn64tab", laid_math_bits_deBruijn64tab), ("internal/strconv.uint64pow10", laid_internal_strconv_uint64pow10), ("unicode/utf8.acceptRanges", laid_unicode_utf8_acceptRanges), ("unicode/utf8.first", laid_unicode_utf8_first)], narrowed := true }
def HexlineOrderUptoSaid : Prop := hexlineOrderUptoRow.holds Tryd.pinned (OpenSpec.upto hexlineOrderSpec)

end Rows
end Go.Proofs.YtcaegdcldbggpaaDoor
