/-
  NARROWER THAN 'FOR EVERY INPUT', by the rows' own cells (each row's printed sentence says how): FramerEncodeMatchesReference: laid · FramerIsolated: laid · FramerEncodeLength: laid · FramerMatchesReference: laid · FramerPiecesIrrelevant: laid · FramerBusy: laid · DechunkInvertsFramer: laid · DechunkTrailingData: laid.
  DERIVED. THE GIVEN ROWS OF THIS SEAT. 8 by the template 'for every input the law returns true; each argument reads behind the call as it read before'; 0 by the template 'total and deterministic' (their statements: YtcmgeflfapffoaaDoorTotals.lean).
  GIVEN WITH THE SEED: the statements are not yours to turn. If you find one false, say at which input.
  Laid BY PROGRAM, IN A SANDBOX (cutbox-rows.mjs): the forced cells as the released guide's own fill.sh prints them over the translation b2a4eb74a53f3f9d… (all of the seat's roots in one cut). By AI agents, Wed Nov 11 2026. No macro, syntax, notation, axiom, sorry.
-/
import Derived.Test.YtcmgeflfapffoaaDoorChecked
import GoSem.PinnedTables
import GoSem.Claim
import GoSem.ClaimJoined
import GoSem.ClaimMapViews
import Derived.JoinedTies
import Derived.KernelRfl
namespace Go.Proofs.YtcmgeflfapffoaaDoor
/- THE CELL 'sum', in the pinned program and in every row, IS THE sha256 OF THE DUMP (.gsa) THAT YtcmgeflfapffoaaDoorProg.lean LOADS. Nothing in Lean hashes anything: it is a label: what it is worth is what the hold of that sum in a sandbox is worth. -/
noncomputable def Tryd.pinned : Pinned := { name := "ytcmgeflfapffoaadoor", sum := "b2a4eb74a53f3f9d7ca7d7fac57a2a83e77b8914dce5aa33c772be30b5052507", checked := Tryd.checked }
namespace Rows
def none {H : Type} : Left H := { results := [], args := [] }

/- WHAT THE LISTED PACKAGE-LEVEL VARIABLES READ AS WHEN THE CALL BEGINS. Each datum BY PROGRAM (the guide's laid-datum.mjs) off the statement by which the dump's own 'gosem.cut.vars' lays the variable. In a bare row this is a premise. The card (YtcmgeflfapffoaaDoorCards.lean) ties it to the program's text. -/
def laid_math_bits_deBruijn32tab {H : Type} : DataW H := .agg [.lit (.int .u8 0), .lit (.int .u8 1), .lit (.int .u8 28), .lit (.int .u8 2), .lit (.int .u8 29), .lit (.int .u8 14), .lit (.int .u8 24), .lit (.int .u8 3), .lit (.int .u8 30), .lit (.int .u8 22), .lit (.int .u8 20), .lit (.int .u8 15), .lit (.int .u8 25), .lit (.int .u8 17), .lit (.int .u8 4), .lit (.int .u8 8), .lit (.int .u8 31), .lit (.int .u8 27), .lit (.int .u8 13), .lit (.int .u8 23), .lit (.int .u8 21), .lit (.int .u8 19), .lit (.int .u8 16), .lit (.int .u8 7), .lit (.int .u8 26), .lit (.int .u8 12), .lit (.int .u8 18), .lit (.int .u8 6), .lit (.int .u8 11), .lit (.int .u8 5), .lit (.int .u8 10), .lit (.int .u8 9)]
def laid_math_bits_deBruijn64tab {H : Type} : DataW H := .agg [.lit (.int .u8 0), .lit (.int .u8 1), .lit (.int .u8 56), .lit (.int .u8 2), .lit (.int .u8 57), .lit (.int .u8 49), .lit (.int .u8 28), .lit (.int .u8 3), .lit (.int .u8 61), .lit (.int .u8 58), .lit (.int .u8 42), .lit (.int .u8 50), .lit (.int .u8 38), .lit (.int .u8 29), .lit (.int .u8 17), .lit (.int .u8 4), .lit (.int .u8 62), .lit (.int .u8 47), .lit (.int .u8 59), .lit (.int .u8 36), .lit (.int .u8 45), .lit (.int .u8 43), .lit (.int .u8 51), .lit (.int .u8 22), .lit (.int .u8 53), .lit (.int .u8 39), .lit (.int .u8 33), .lit (.int .u8 30), .lit (.int .u8 24), .lit (.int .u8 18), .lit (.int .u8 12), .lit (.int .u8 5), .lit (.int .u8 63), .lit (.int .u8 55), .lit (.int .u8 48), .lit (.int .u8 27), .lit (.int .u8 60), .lit (.int .u8 41), .lit (.int .u8 37), .lit (.int .u8 16), .lit (.int .u8 46), .lit (.int .u8 35), .lit (.int .u8 44), .lit (.int .u8 21), .lit (.int .u8 52), .lit (.int .u8 32), .lit (.int .u8 23), .lit (.int .u8 11), .lit (.int .u8 54), .lit (.int .u8 26), .lit (.int .u8 40), .lit (.int .u8 15), .lit (.int .u8 34), .lit (.int .u8 20), .lit (.int .u8 31), .lit (.int .u8 10), .lit (.int .u8 25), .lit (.int .u8 14), .lit (.int .u8 19), .lit (.int .u8 9), .lit (.int .u8 13), .lit (.int .u8 8), .lit (.int .u8 7), .lit (.int .u8 6)]
def laid_internal_strconv_uint64pow10 {H : Type} : DataW H := .agg [.lit (.int .u64 1), .lit (.int .u64 10), .lit (.int .u64 100), .lit (.int .u64 1000), .lit (.int .u64 10000), .lit (.int .u64 100000), .lit (.int .u64 1000000), .lit (.int .u64 10000000), .lit (.int .u64 100000000), .lit (.int .u64 1000000000), .lit (.int .u64 10000000000), .lit (.int .u64 100000000000), .lit (.int .u64 1000000000000), .lit (.int .u64 10000000000000), .lit (.int .u64 100000000000000), .lit (.int .u64 1000000000000000), .lit (.int .u64 10000000000000000), .lit (.int .u64 100000000000000000), .lit (.int .u64 1000000000000000000), .lit (.int .u64 10000000000000000000)]
def laid_unicode_utf8_acceptRanges {H : Type} : DataW H := .agg [.agg [.lit (.int .u8 128), .lit (.int .u8 191)], .agg [.lit (.int .u8 160), .lit (.int .u8 191)], .agg [.lit (.int .u8 128), .lit (.int .u8 159)], .agg [.lit (.int .u8 144), .lit (.int .u8 191)], .agg [.lit (.int .u8 128), .lit (.int .u8 143)], .agg [.lit (.int .u8 0), .lit (.int .u8 0)], .agg [.lit (.int .u8 0), .lit (.int .u8 0)], .agg [.lit (.int .u8 0), .lit (.int .u8 0)], .agg [.lit (.int .u8 0), .lit (.int .u8 0)], .agg [.lit (.int .u8 0), .lit (.int .u8 0)], .agg [.lit (.int .u8 0), .lit (.int .u8 0)], .agg [.lit (.int .u8 0), .lit (.int .u8 0)], .agg [.lit (.int .u8 0), .lit (.int .u8 0)], .agg [.lit (.int .u8 0), .lit (.int .u8 0)], .agg [.lit (.int .u8 0), .lit (.int .u8 0)], .agg [.lit (.int .u8 0), .lit (.int .u8 0)]]
/-- One of Go's own tables, pinned by name: the form's constant. -/
def laid_unicode_utf8_first : DataW Unit := Go.Pinned.utf8First

/-- 'tmplpipelaw04.FramerEncodeMatchesReference': WHATEVER THE INPUT: true; the input reads as it did. -/
def framerEncodeMatchesReferenceSpec : ChangeSpec := { name := "framerEncodeMatchesReference", fn := fun _ => fun
  | [d1, d2] => { results := [.lit (.bool true)], args := [d1, d2] }
  | _ => none }
def framerEncodeMatchesReferenceRow : OpenClaim := { program := "ytcmgeflfapffoaadoor", sum := "b2a4eb74a53f3f9d7ca7d7fac57a2a83e77b8914dce5aa33c772be30b5052507", func := "tmplpipe/tmplpipelaw04.FramerEncodeMatchesReference", spec := "framerEncodeMatchesReference", unfollowed := true, recurses := true, named := ["internal/strconv.uint64pow10", "math/bits.deBruijn32tab", "math/bits.deBruijn64tab"], apart := false, laid := [("math/bits.deBruijn32tab", laid_math_bits_deBruijn32tab), ("math/bits.deBruijn64tab", laid_math_bits_deBruijn64tab), ("internal/strconv.uint64pow10", laid_internal_strconv_uint64pow10)] }
def FramerEncodeMatchesReferenceSaid : Prop := framerEncodeMatchesReferenceRow.holds Tryd.pinned (OpenSpec.ofChange framerEncodeMatchesReferenceSpec)

/-- ITS FALSE NEIGHBOUR: 'it returns false'. Refute it at one input. -/
def framerEncodeMatchesReferenceWrong : ChangeSpec := { name := "framerEncodeMatchesReference", fn := fun _ => fun
  | [d1, d2] => { results := [.lit (.bool false)], args := [d1, d2] }
  | _ => none }
def FramerEncodeMatchesReferenceWrongFalsely : Prop := framerEncodeMatchesReferenceRow.holds Tryd.pinned (OpenSpec.ofChange framerEncodeMatchesReferenceWrong)

/-- 'tmplpipelaw04.FramerIsolated': WHATEVER THE INPUT: true; the input reads as it did. -/
def framerIsolatedSpec : ChangeSpec := { name := "framerIsolated", fn := fun _ => fun
  | [d] => { results := [.lit (.bool true)], args := [d] }
  | _ => none }
def framerIsolatedRow : OpenClaim := { program := "ytcmgeflfapffoaadoor", sum := "b2a4eb74a53f3f9d7ca7d7fac57a2a83e77b8914dce5aa33c772be30b5052507", func := "tmplpipe/tmplpipelaw04.FramerIsolated", spec := "framerIsolated", unfollowed := true, recurses := true, named := ["internal/strconv.uint64pow10", "math/bits.deBruijn32tab", "math/bits.deBruijn64tab"], apart := false, laid := [("math/bits.deBruijn32tab", laid_math_bits_deBruijn32tab), ("math/bits.deBruijn64tab", laid_math_bits_deBruijn64tab), ("internal/strconv.uint64pow10", laid_internal_strconv_uint64pow10)] }
def FramerIsolatedSaid : Prop := framerIsolatedRow.holds Tryd.pinned (OpenSpec.ofChange framerIsolatedSpec)

/-- ITS FALSE NEIGHBOUR: 'it returns false'. Refute it at one input. -/
def framerIsolatedWrong : ChangeSpec := { name := "framerIsolated", fn := fun _ => fun
  | [d] => { results := [.lit (.bool false)], args := [d] }
  | _ => none }
def FramerIsolatedWrongFalsely : Prop := framerIsolatedRow.holds Tryd.pinned (OpenSpec.ofChange framerIsolatedWrong)

/-- 'tmplpipelaw04.FramerEncodeLength': WHATEVER THE INPUT: true; the input reads as it did. -/
def framerEncodeLengthSpec : ChangeSpec := { name := "framerEncodeLength", fn := fun _ => fun
  | [d1, d2] => { results := [.lit (.bool true)], args := [d1, d2] }
  | _ => none }
def framerEncodeLengthRow : OpenClaim := { program := "ytcmgeflfapffoaadoor", sum := "b2a4eb74a53f3f9d7ca7d7fac57a2a83e77b8914dce5aa33c772be30b5052507", func := "tmplpipe/tmplpipelaw04.FramerEncodeLength", spec := "framerEncodeLength", unfollowed := true, recurses := true, named := ["internal/strconv.uint64pow10", "math/bits.deBruijn32tab", "math/bits.deBruijn64tab"], apart := false, laid := [("math/bits.deBruijn32tab", laid_math_bits_deBruijn32tab), ("math/bits.deBruijn64tab", laid_math_bits_deBruijn64tab), ("internal/strconv.uint64pow10", laid_internal_strconv_uint64pow10)] }
def FramerEncodeLengthSaid : Prop := framerEncodeLengthRow.holds Tryd.pinned (OpenSpec.ofChange framerEncodeLengthSpec)

/-- ITS FALSE NEIGHBOUR: 'it returns false'. Refute it at one input. -/
def framerEncodeLengthWrong : ChangeSpec := { name := "framerEncodeLength", fn := fun _ => fun
  | [d1, d2] => { results := [.lit (.bool false)], args := [d1, d2] }
  | _ => none }
def FramerEncodeLengthWrongFalsely : Prop := framerEncodeLengthRow.holds Tryd.pinned (OpenSpec.ofChange framerEncodeLengthWrong)

/-- 'tmplpipelaw04.FramerMatchesReference': WHATEVER THE INPUT: true; the input reads as it did. -/
def framerMatchesReferenceSpec : ChangeSpec := { name := "framerMatchesReference", fn := fun _ => fun
  | [d1, d2] => { results := [.lit (.bool true)], args := [d1, d2] }
  | _ => none }
def framerMatchesReferenceRow : OpenClaim := { program := "ytcmgeflfapffoaadoor", sum := "b2a4eb74a53f3f9d7ca7d7fac57a2a83e77b8914dce5aa33c772be30b5052507", func := "tmplpipe/tmplpipelaw04.FramerMatchesReference", spec := "framerMatchesReference", unfollowed := true, recurses := true, named := ["internal/strconv.uint64pow10", "math/bits.deBruijn32tab", "math/bits.deBruijn64tab"], apart := false, laid := [("math/bits.deBruijn32tab", laid_math_bits_deBruijn32tab), ("math/bits.deBruijn64tab", laid_math_bits_deBruijn64tab), ("internal/strconv.uint64pow10", laid_internal_strconv_uint64pow10)] }
def FramerMatchesReferenceSaid : Prop := framerMatchesReferenceRow.holds Tryd.pinned (OpenSpec.ofChange framerMatchesReferenceSpec)

/-- ITS FALSE NEIGHBOUR: 'it returns false'. Refute it at one input. -/
def framerMatchesReferenceWrong : ChangeSpec := { name := "framerMatchesReference", fn := fun _ => fun
  | [d1, d2] => { results := [.lit (.bool false)], args := [d1, d2] }
  | _ => none }
def FramerMatchesReferenceWrongFalsely : Prop := framerMatchesReferenceRow.holds Tryd.pinned (OpenSpec.ofChange framerMatchesReferenceWrong)

/-- 'tmplpipelaw04.FramerPiecesIrrelevant': WHATEVER THE INPUT: true; the input reads as it did. -/
def framerPiecesIrrelevantSpec : ChangeSpec := { name := "framerPiecesIrrelevant", fn := fun _ => fun
  | [d1, d2, d3] => { results := [.lit (.bool true)], args := [d1, d2, d3] }
  | _ => none }
def framerPiecesIrrelevantRow : OpenClaim := { program := "ytcmgeflfapffoaadoor", sum := "b2a4eb74a53f3f9d7ca7d7fac57a2a83e77b8914dce5aa33c772be30b5052507", func := "tmplpipe/tmplpipelaw04.FramerPiecesIrrelevant", spec := "framerPiecesIrrelevant", unfollowed := true, recurses := true, named := ["internal/strconv.uint64pow10", "math/bits.deBruijn32tab", "math/bits.deBruijn64tab"], apart := false, laid := [("math/bits.deBruijn32tab", laid_math_bits_deBruijn32tab), ("math/bits.deBruijn64tab", laid_math_bits_deBruijn64tab), ("internal/strconv.uint64pow10", laid_internal_strconv_uint64pow10)] }
def FramerPiecesIrrelevantSaid : Prop := framerPiecesIrrelevantRow.holds Tryd.pinned (OpenSpec.ofChange framerPiecesIrrelevantSpec)

/-- ITS FALSE NEIGHBOUR: 'it returns false'. Refute it at one input. -/
def framerPiecesIrrelevantWrong : ChangeSpec := { name := "framerPiecesIrrelevant", fn := fun _ => fun
  | [d1, d2, d3] => { results := [.lit (.bool false)], args := [d1, d2, d3] }
  | _ => none }
def FramerPiecesIrrelevantWrongFalsely : Prop := framerPiecesIrrelevantRow.holds Tryd.pinned (OpenSpec.ofChange framerPiecesIrrelevantWrong)

/-- 'tmplpipelaw04.FramerBusy': WHATEVER THE INPUT: true; the input reads as it did. -/
def framerBusySpec : ChangeSpec := { name := "framerBusy", fn := fun _ => fun
  | [d1, d2] => { results := [.lit (.bool true)], args := [d1, d2] }
  | _ => none }
def framerBusyRow : OpenClaim := { program := "ytcmgeflfapffoaadoor", sum := "b2a4eb74a53f3f9d7ca7d7fac57a2a83e77b8914dce5aa33c772be30b5052507", func := "tmplpipe/tmplpipelaw04.FramerBusy", spec := "framerBusy", unfollowed := true, recurses := true, named := ["internal/strconv.uint64pow10", "math/bits.deBruijn32tab", "math/bits.deBruijn64tab"], apart := false, laid := [("math/bits.deBruijn32tab", laid_math_bits_deBruijn32tab), ("math/bits.deBruijn64tab", laid_math_bits_deBruijn64tab), ("internal/strconv.uint64pow10", laid_internal_strconv_uint64pow10)] }
def FramerBusySaid : Prop := framerBusyRow.holds Tryd.pinned (OpenSpec.ofChange framerBusySpec)

/-- ITS FALSE NEIGHBOUR: 'it returns false'. Refute it at one input. -/
def framerBusyWrong : ChangeSpec := { name := "framerBusy", fn := fun _ => fun
  | [d1, d2] => { results := [.lit (.bool false)], args := [d1, d2] }
  | _ => none }
def FramerBusyWrongFalsely : Prop := framerBusyRow.holds Tryd.pinned (OpenSpec.ofChange framerBusyWrong)

/-- 'tmplpipelaw05.DechunkInvertsFramer': WHATEVER THE INPUT: true; the input reads as it did. -/
def dechunkInvertsFramerSpec : ChangeSpec := { name := "dechunkInvertsFramer", fn := fun _ => fun
  | [d1, d2, d3] => { results := [.lit (.bool true)], args := [d1, d2, d3] }
  | _ => none }
def dechunkInvertsFramerRow : OpenClaim := { program := "ytcmgeflfapffoaadoor", sum := "b2a4eb74a53f3f9d7ca7d7fac57a2a83e77b8914dce5aa33c772be30b5052507", func := "tmplpipe/tmplpipelaw05.DechunkInvertsFramer", spec := "dechunkInvertsFramer", inPlace := ["internal/bytealg.IndexByteString", "internal/bytealg.IndexString"], unfollowed := true, recurses := true, named := ["unicode/utf8.first", "unicode/utf8.acceptRanges", "internal/strconv.uint64pow10", "math/bits.deBruijn32tab", "math/bits.deBruijn64tab", "internal/bytealg.MaxLen"], apart := false, laid := [("math/bits.deBruijn32tab", laid_math_bits_deBruijn32tab), ("math/bits.deBruijn64tab", laid_math_bits_deBruijn64tab), ("internal/strconv.uint64pow10", laid_internal_strconv_uint64pow10), ("unicode/utf8.acceptRanges", laid_unicode_utf8_acceptRanges), ("unicode/utf8.first", laid_unicode_utf8_first)] }
def DechunkInvertsFramerSaid : Prop := dechunkInvertsFramerRow.holds Tryd.pinned (OpenSpec.ofChange dechunkInvertsFramerSpec)

/-- ITS FALSE NEIGHBOUR: 'it returns false'. Refute it at one input. -/
def dechunkInvertsFramerWrong : ChangeSpec := { name := "dechunkInvertsFramer", fn := fun _ => fun
  | [d1, d2, d3] => { results := [.lit (.bool false)], args := [d1, d2, d3] }
  | _ => none }
def DechunkInvertsFramerWrongFalsely : Prop := dechunkInvertsFramerRow.holds Tryd.pinned (OpenSpec.ofChange dechunkInvertsFramerWrong)

/-- 'tmplpipelaw05.DechunkTrailingData': WHATEVER THE INPUT: true; the input reads as it did. -/
def dechunkTrailingDataSpec : ChangeSpec := { name := "dechunkTrailingData", fn := fun _ => fun
  | [d1, d2] => { results := [.lit (.bool true)], args := [d1, d2] }
  | _ => none }
def dechunkTrailingDataRow : OpenClaim := { program := "ytcmgeflfapffoaadoor", sum := "b2a4eb74a53f3f9d7ca7d7fac57a2a83e77b8914dce5aa33c772be30b5052507", func := "tmplpipe/tmplpipelaw05.DechunkTrailingData", spec := "dechunkTrailingData", inPlace := ["internal/bytealg.IndexByteString", "internal/bytealg.IndexString"], unfollowed := true, recurses := true, named := ["internal/strconv.uint64pow10", "math/bits.deBruijn32tab", "math/bits.deBruijn64tab", "unicode/utf8.first", "unicode/utf8.acceptRanges", "internal/bytealg.MaxLen"], apart := false, laid := [("math/bits.deBruijn32tab", laid_math_bits_deBruijn32tab), ("math/bits.deBruijn64tab", laid_math_bits_deBruijn64tab), ("internal/strconv.uint64pow10", laid_internal_strconv_uint64pow10), ("unicode/utf8.acceptRanges", laid_unicode_utf8_acceptRanges), ("unicode/utf8.first", laid_unicode_utf8_first)] }
def DechunkTrailingDataSaid : Prop := dechunkTrailingDataRow.holds Tryd.pinned (OpenSpec.ofChange dechunkTrailingDataSpec)

/-- ITS FALSE NEIGHBOUR: 'it returns false'. Refute it at one input. -/
def dechunkTrailingDataWrong : ChangeSpec := { name := "dechunkTrailingData", fn := fun _ => fun
  | [d1, d2] => { results := [.lit (.bool false)], args := [d1, d2] }
  | _ => none }
def DechunkTrailingDataWrongFalsely : Prop := dechunkTrailingDataRow.holds Tryd.pinned (OpenSpec.ofChange dechunkTrailingDataWrong)

/- THE SECOND FORM. 'bulk': how many values and letters a reading holds, each counted each time it is reached (what is shared counts as often as it is met; a slice's spare places count too). A statement '..UptoSaid' is the law's where the arguments, and the package variables that the reading takes, are together of bulk at most 1048576: NARROWER than '..Said'. Prove '..Said' where nothing that the law and all that it calls make is longer than what came in: it says more and counts as full. Else prove '..UptoSaid'. A law counts once. -/
mutual
def uptoBulk {H : Type} : DataW H → Nat
  | .lit (.string bytes) => bytes.length + 1
  | .lit _ => 1
  | .nil => 1
  | .ptr d => uptoBulk d + 1
  | .slice elems spare => uptoBulkAll elems + uptoBulkAll spare + 1
  | .agg parts => uptoBulkAll parts + 1
  | .iface _ d => uptoBulk d + 1
  | .map entries => uptoBulkEntries entries + 1
  | .held _ => 1
def uptoBulkAll {H : Type} : List (DataW H) → Nat
  | [] => 0
  | d :: r => uptoBulk d + uptoBulkAll r
def uptoBulkEntries {H : Type} : List (Lit × DataW H) → Nat
  | [] => 0
  | x :: r => uptoBulkEntry x + uptoBulkEntries r
def uptoBulkEntry {H : Type} : Lit × DataW H → Nat
  | (.string bytes, d) => bytes.length + uptoBulk d + 1
  | (_, d) => uptoBulk d + 1
 end
def uptoSmall : (H : Type) → List (DataW H) → Bool := fun _ ds => decide (uptoBulkAll ds ≤ 1048576)
def OpenSpec.upto (s : _root_.Go.ChangeSpec) : _root_.Go.OpenSpec := { _root_.Go.OpenSpec.ofChange s with cond := some uptoSmall }

/-- 'tmplpipelaw04.FramerEncodeMatchesReference', WHERE WHAT IT READS IS OF BULK AT MOST 1048576: true; the input reads as it did. -/
def framerEncodeMatchesReferenceUptoRow : OpenClaim := { program := "ytcmgeflfapffoaadoor", sum := "b2a4eb74a53f3f9d7ca7d7fac57a2a83e77b8914dce5aa33c772be30b5052507", func := "tmplpipe/tmplpipelaw04.FramerEncodeMatchesReference", spec := "framerEncodeMatchesReference", unfollowed := true, recurses := true, named := ["internal/strconv.uint64pow10", "math/bits.deBruijn32tab", "math/bits.deBruijn64tab"], apart := false, laid := [("math/bits.deBruijn32tab", laid_math_bits_deBruijn32tab), ("math/bits.deBruijn64tab", laid_math_bits_deBruijn64tab), ("internal/strconv.uint64pow10", laid_internal_strconv_uint64pow10)], narrowed := true }
def FramerEncodeMatchesReferenceUptoSaid : Prop := framerEncodeMatchesReferenceUptoRow.holds Tryd.pinned (OpenSpec.upto framerEncodeMatchesReferenceSpec)

/-- 'tmplpipelaw04.FramerIsolated', WHERE WHAT IT READS IS OF BULK AT MOST 1048576: true; the input reads as it did. -/
def framerIsolatedUptoRow : OpenClaim := { program := "ytcmgeflfapffoaadoor", sum := "b2a4eb74a53f3f9d7ca7d7fac57a2a83e77b8914dce5aa33c772be30b5052507", func := "tmplpipe/tmplpipelaw04.FramerIsolated", spec := "framerIsolated", unfollowed := true, recurses := true, named := ["internal/strconv.uint64pow10", "math/bits.deBruijn32tab", "math/bits.deBruijn64tab"], apart := false, laid := [("math/bits.deBruijn32tab", laid_math_bits_deBruijn32tab), ("math/bits.deBruijn64tab", laid_math_bits_deBruijn64tab), ("internal/strconv.uint64pow10", laid_internal_strconv_uint64pow10)], narrowed := true }
def FramerIsolatedUptoSaid : Prop := framerIsolatedUptoRow.holds Tryd.pinned (OpenSpec.upto framerIsolatedSpec)

/-- 'tmplpipelaw04.FramerEncodeLength', WHERE WHAT IT READS IS OF BULK AT MOST 1048576: true; the input reads as it did. -/
def framerEncodeLengthUptoRow : OpenClaim := { program := "ytcmgeflfapffoaadoor", sum := "b2a4eb74a53f3f9d7ca7d7fac57a2a83e77b8914dce5aa33c772be30b5052507", func := "tmplpipe/tmplpipelaw04.FramerEncodeLength", spec := "framerEncodeLength", unfollowed := true, recurses := true, named := ["internal/strconv.uint64pow10", "math/bits.deBruijn32tab", "math/bits.deBruijn64tab"], apart := false, laid := [("math/bits.deBruijn32tab", laid_math_bits_deBruijn32tab), ("math/bits.deBruijn64tab", laid_math_bits_deBruijn64tab), ("internal/strconv.uint64pow10", laid_internal_strconv_uint64pow10)], narrowed := true }
def FramerEncodeLengthUptoSaid : Prop := framerEncodeLengthUptoRow.holds Tryd.pinned (OpenSpec.upto framerEncodeLengthSpec)

/-- 'tmplpipelaw04.FramerMatchesReference', WHERE WHAT IT READS IS OF BULK AT MOST 1048576: true; the input reads as it did. -/
def framerMatchesReferenceUptoRow : OpenClaim := { program := "ytcmgeflfapffoaadoor", sum := "b2a4eb74a53f3f9d7ca7d7fac57a2a83e77b8914dce5aa33c772be30b5052507", func := "tmplpipe/tmplpipelaw04.FramerMatchesReference", spec := "framerMatchesReference", unfollowed := true, recurses := true, named := ["internal/strconv.uint64pow10", "math/bits.deBruijn32tab", "math/bits.deBruijn64tab"], apart := false, laid := [("math/bits.deBruijn32tab", laid_math_bits_deBruijn32tab), ("math/bits.deBruijn64tab", laid_math_bits_deBruijn64tab), ("internal/strconv.uint64pow10", laid_internal_strconv_uint64pow10)], narrowed := true }
def FramerMatchesReferenceUptoSaid : Prop := framerMatchesReferenceUptoRow.holds Tryd.pinned (OpenSpec.upto framerMatchesReferenceSpec)

/-- 'tmplpipelaw04.FramerPiecesIrrelevant', WHERE WHAT IT READS IS OF BULK AT MOST 1048576: true; the input reads as it did. -/
def framerPiecesIrrelevantUptoRow : OpenClaim := { program := "ytcmgeflfapffoaadoor", sum := "b2a4eb74a53f3f9d7ca7d7fac57a2a83e77b8914dce5aa33c772be30b5052507", func := "tmplpipe/tmplpipelaw04.FramerPiecesIrrelevant", spec := "framerPiecesIrrelevant", unfollowed := true, recurses := true, named := ["internal/strconv.uint64pow10", "math/bits.deBruijn32tab", "math/bits.deBruijn64tab"], apart := false, laid := [("math/bits.deBruijn32tab", laid_math_bits_deBruijn32tab), ("math/bits.deBruijn64tab", laid_math_bits_deBruijn64tab), ("internal/strconv.uint64pow10", laid_internal_strconv_uint64pow10)], narrowed := true }
def FramerPiecesIrrelevantUptoSaid : Prop := framerPiecesIrrelevantUptoRow.holds Tryd.pinned (OpenSpec.upto framerPiecesIrrelevantSpec)

/-- 'tmplpipelaw04.FramerBusy', WHERE WHAT IT READS IS OF BULK AT MOST 1048576: true; the input reads as it did. -/
def framerBusyUptoRow : OpenClaim := { program := "ytcmgeflfapffoaadoor", sum := "b2a4eb74a53f3f9d7ca7d7fac57a2a83e77b8914dce5aa33c772be30b5052507", func := "tmplpipe/tmplpipelaw04.FramerBusy", spec := "framerBusy", unfollowed := true, recurses := true, named := ["internal/strconv.uint64pow10", "math/bits.deBruijn32tab", "math/bits.deBruijn64tab"], apart := false, laid := [("math/bits.deBruijn32tab", laid_math_bits_deBruijn32tab), ("math/bits.deBruijn64tab", laid_math_bits_deBruijn64tab), ("internal/strconv.uint64pow10", laid_internal_strconv_uint64pow10)], narrowed := true }
def FramerBusyUptoSaid : Prop := framerBusyUptoRow.holds Tryd.pinned (OpenSpec.upto framerBusySpec)

/-- 'tmplpipelaw05.DechunkInvertsFramer', WHERE WHAT IT READS IS OF BULK AT MOST 1048576: true; the input reads as it did. -/
def dechunkInvertsFramerUptoRow : OpenClaim := { program := "ytcmgeflfapffoaadoor", sum := "b2a4eb74a53f3f9d7ca7d7fac57a2a83e77b8914dce5aa33c772be30b5052507", func := "tmplpipe/tmplpipelaw05.DechunkInvertsFramer", spec := "dechunkInvertsFramer", inPlace := ["internal/bytealg.IndexByteString", "internal/bytealg.IndexString"], unfollowed := true, recurses := true, named := ["unicode/utf8.first", "unicode/utf8.acceptRanges", "internal/strconv.uint64pow10", "math/bits.deBruijn32tab", "math/bits.deBruijn64tab", "internal/bytealg.MaxLen"], apart := false, laid := [("math/bits.deBruijn32tab", laid_math_bits_deBruijn32tab), ("math/bits.deBruijn64tab", laid_math_bits_deBruijn64tab), ("internal/strconv.uint64pow10", laid_internal_strconv_uint64pow10), ("unicode/utf8.acceptRanges", laid_unicode_utf8_acceptRanges), ("unicode/utf8.first", laid_unicode_utf8_first)], narrowed := true }
def DechunkInvertsFramerUptoSaid : Prop := dechunkInvertsFramerUptoRow.holds Tryd.pinned (OpenSpec.upto dechunkInvertsFramerSpec)

/-- 'tmplpipelaw05.DechunkTrailingData', WHERE WHAT IT READS IS OF BULK AT MOST 1048576: true; the input reads as it did. -/
def dechunkTrailingDataUptoRow : OpenClaim := { program := "ytcmgeflfapffoaadoor", sum := "b2a4eb74a53f3f9d7ca7d7fac57a2a83e77b8914dce5aa33c772be30b5052507", func := "tmplpipe/tmplpipelaw05.DechunkTrailingData", spec := "dechunkTrailingData", inPlace := ["internal/bytealg.IndexByteString", "internal/bytealg.IndexString"], unfollowed := true, recurses := true, named := ["internal/strconv.uint64pow10", "math/bits.deBruijn32tab", "math/bits.deBruijn64tab", "unicode/utf8.first", "unicode/utf8.acceptRanges", "internal/bytealg.MaxLen"], apart := false, laid := [("math/bits.deBruijn32tab", laid_math_bits_deBruijn32tab), ("math/bits.deBruijn64tab", laid_math_bits_deBruijn64tab), ("internal/strconv.uint64pow10", laid_internal_strconv_uint64pow10), ("unicode/utf8.acceptRanges", laid_unicode_utf8_acceptRanges), ("unicode/utf8.first", laid_unicode_utf8_first)], narrowed := true }
def DechunkTrailingDataUptoSaid : Prop := dechunkTrailingDataUptoRow.holds Tryd.pinned (OpenSpec.upto dechunkTrailingDataSpec)

end Rows
end Go.Proofs.YtcmgeflfapffoaaDoor
