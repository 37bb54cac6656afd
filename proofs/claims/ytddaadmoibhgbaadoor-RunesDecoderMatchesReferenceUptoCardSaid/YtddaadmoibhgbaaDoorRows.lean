/-
  NARROWER THAN 'FOR EVERY INPUT', by the rows' own cells (each row's printed sentence says how): RunesDecoderMatchesReference: laid · RunesSplitIrrelevant: laid · RunesEncodeMatchesReference: laid · RunesDecodeMatchesReference: laid · RunesConcatenation: laid · RunesRoundTrip: laid.
  DERIVED. THE GIVEN ROWS OF THIS SEAT. 6 by the template 'for every input the law returns true; each argument reads behind the call as it read before'; 0 by the template 'total and deterministic' (their statements: YtddaadmoibhgbaaDoorTotals.lean).
  GIVEN WITH THE SEED: the statements are not yours to turn. If you find one false, say at which input.
  Laid BY PROGRAM, IN A SANDBOX (cutbox-rows.mjs): the forced cells as the released guide's own fill.sh prints them over the translation 2cc401c92fbd710f… (all of the seat's roots in one cut). By AI agents, Wed Nov 11 2026. No macro, syntax, notation, axiom, sorry.
-/
import Derived.Test.YtddaadmoibhgbaaDoorChecked
import GoSem.PinnedTables
import GoSem.Claim
import GoSem.ClaimJoined
import GoSem.ClaimMapViews
import Derived.JoinedTies
import Derived.KernelRfl
namespace Go.Proofs.YtddaadmoibhgbaaDoor
/- THE CELL 'sum', in the pinned program and in every row, IS THE sha256 OF THE DUMP (.gsa) THAT YtddaadmoibhgbaaDoorProg.lean LOADS. Nothing in Lean hashes anything: it is a label: what it is worth is what the hold of that sum in a sandbox is worth. -/
noncomputable def Tryd.pinned : Pinned := { name := "ytddaadmoibhgbaadoor", sum := "2cc401c92fbd710f684f2ad4ba694fcf11c6637533dbdb8cfd74daa38ca2f2e3", checked := Tryd.checked }
namespace Rows
def none {H : Type} : Left H := { results := [], args := [] }

/- WHAT THE LISTED PACKAGE-LEVEL VARIABLES READ AS WHEN THE CALL BEGINS. Each datum BY PROGRAM (the guide's laid-datum.mjs) off the statement by which the dump's own 'gosem.cut.vars' lays the variable. In a bare row this is a premise. The card (YtddaadmoibhgbaaDoorCards.lean) ties it to the program's text. -/
def laid_unicode_utf8_acceptRanges {H : Type} : DataW H := .agg [.agg [.lit (.int .u8 128), .lit (.int .u8 191)], .agg [.lit (.int .u8 160), .lit (.int .u8 191)], .agg [.lit (.int .u8 128), .lit (.int .u8 159)], .agg [.lit (.int .u8 144), .lit (.int .u8 191)], .agg [.lit (.int .u8 128), .lit (.int .u8 143)], .agg [.lit (.int .u8 0), .lit (.int .u8 0)], .agg [.lit (.int .u8 0), .lit (.int .u8 0)], .agg [.lit (.int .u8 0), .lit (.int .u8 0)], .agg [.lit (.int .u8 0), .lit (.int .u8 0)], .agg [.lit (.int .u8 0), .lit (.int .u8 0)], .agg [.lit (.int .u8 0), .lit (.int .u8 0)], .agg [.lit (.int .u8 0), .lit (.int .u8 0)], .agg [.lit (.int .u8 0), .lit (.int .u8 0)], .agg [.lit (.int .u8 0), .lit (.int .u8 0)], .agg [.lit (.int .u8 0), .lit (.int .u8 0)], .agg [.lit (.int .u8 0), .lit (.int .u8 0)]]
/-- One of Go's own tables, pinned by name: the form's constant. -/
def laid_unicode_utf8_first : DataW Unit := Go.Pinned.utf8First

/-- 'tmplpipelaw06.RunesDecoderMatchesReference': WHATEVER THE INPUT: true; the input reads as it did. -/
def runesDecoderMatchesReferenceSpec : ChangeSpec := { name := "runesDecoderMatchesReference", fn := fun _ => fun
  | [d1, d2] => { results := [.lit (.bool true)], args := [d1, d2] }
  | _ => none }
def runesDecoderMatchesReferenceRow : OpenClaim := { program := "ytddaadmoibhgbaadoor", sum := "2cc401c92fbd710f684f2ad4ba694fcf11c6637533dbdb8cfd74daa38ca2f2e3", func := "tmplpipe/tmplpipelaw06.RunesDecoderMatchesReference", spec := "runesDecoderMatchesReference", named := ["unicode/utf8.first", "unicode/utf8.acceptRanges"], apart := false, laid := [("unicode/utf8.acceptRanges", laid_unicode_utf8_acceptRanges), ("unicode/utf8.first", laid_unicode_utf8_first)] }
def RunesDecoderMatchesReferenceSaid : Prop := runesDecoderMatchesReferenceRow.holds Tryd.pinned (OpenSpec.ofChange runesDecoderMatchesReferenceSpec)

/-- ITS FALSE NEIGHBOUR: 'it returns false'. Refute it at one input. -/
def runesDecoderMatchesReferenceWrong : ChangeSpec := { name := "runesDecoderMatchesReference", fn := fun _ => fun
  | [d1, d2] => { results := [.lit (.bool false)], args := [d1, d2] }
  | _ => none }
def RunesDecoderMatchesReferenceWrongFalsely : Prop := runesDecoderMatchesReferenceRow.holds Tryd.pinned (OpenSpec.ofChange runesDecoderMatchesReferenceWrong)

/-- 'tmplpipelaw06.RunesSplitIrrelevant': WHATEVER THE INPUT: true; the input reads as it did. -/
def runesSplitIrrelevantSpec : ChangeSpec := { name := "runesSplitIrrelevant", fn := fun _ => fun
  | [d1, d2] => { results := [.lit (.bool true)], args := [d1, d2] }
  | _ => none }
def runesSplitIrrelevantRow : OpenClaim := { program := "ytddaadmoibhgbaadoor", sum := "2cc401c92fbd710f684f2ad4ba694fcf11c6637533dbdb8cfd74daa38ca2f2e3", func := "tmplpipe/tmplpipelaw06.RunesSplitIrrelevant", spec := "runesSplitIrrelevant", named := ["unicode/utf8.first", "unicode/utf8.acceptRanges"], apart := false, laid := [("unicode/utf8.acceptRanges", laid_unicode_utf8_acceptRanges), ("unicode/utf8.first", laid_unicode_utf8_first)] }
def RunesSplitIrrelevantSaid : Prop := runesSplitIrrelevantRow.holds Tryd.pinned (OpenSpec.ofChange runesSplitIrrelevantSpec)

/-- ITS FALSE NEIGHBOUR: 'it returns false'. Refute it at one input. -/
def runesSplitIrrelevantWrong : ChangeSpec := { name := "runesSplitIrrelevant", fn := fun _ => fun
  | [d1, d2] => { results := [.lit (.bool false)], args := [d1, d2] }
  | _ => none }
def RunesSplitIrrelevantWrongFalsely : Prop := runesSplitIrrelevantRow.holds Tryd.pinned (OpenSpec.ofChange runesSplitIrrelevantWrong)

/-- 'tmplpipelaw06.RunesEncodeMatchesReference': WHATEVER THE INPUT: true; the input reads as it did. -/
def runesEncodeMatchesReferenceSpec : ChangeSpec := { name := "runesEncodeMatchesReference", fn := fun _ => fun
  | [d] => { results := [.lit (.bool true)], args := [d] }
  | _ => none }
def runesEncodeMatchesReferenceRow : OpenClaim := { program := "ytddaadmoibhgbaadoor", sum := "2cc401c92fbd710f684f2ad4ba694fcf11c6637533dbdb8cfd74daa38ca2f2e3", func := "tmplpipe/tmplpipelaw06.RunesEncodeMatchesReference", spec := "runesEncodeMatchesReference", named := ["unicode/utf8.first", "unicode/utf8.acceptRanges"], apart := false, laid := [("unicode/utf8.acceptRanges", laid_unicode_utf8_acceptRanges), ("unicode/utf8.first", laid_unicode_utf8_first)] }
def RunesEncodeMatchesReferenceSaid : Prop := runesEncodeMatchesReferenceRow.holds Tryd.pinned (OpenSpec.ofChange runesEncodeMatchesReferenceSpec)

/-- ITS FALSE NEIGHBOUR: 'it returns false'. Refute it at one input. -/
def runesEncodeMatchesReferenceWrong : ChangeSpec := { name := "runesEncodeMatchesReference", fn := fun _ => fun
  | [d] => { results := [.lit (.bool false)], args := [d] }
  | _ => none }
def RunesEncodeMatchesReferenceWrongFalsely : Prop := runesEncodeMatchesReferenceRow.holds Tryd.pinned (OpenSpec.ofChange runesEncodeMatchesReferenceWrong)

/-- 'tmplpipelaw06.RunesDecodeMatchesReference': WHATEVER THE INPUT: true; the input reads as it did. -/
def runesDecodeMatchesReferenceSpec : ChangeSpec := { name := "runesDecodeMatchesReference", fn := fun _ => fun
  | [d] => { results := [.lit (.bool true)], args := [d] }
  | _ => none }
def runesDecodeMatchesReferenceRow : OpenClaim := { program := "ytddaadmoibhgbaadoor", sum := "2cc401c92fbd710f684f2ad4ba694fcf11c6637533dbdb8cfd74daa38ca2f2e3", func := "tmplpipe/tmplpipelaw06.RunesDecodeMatchesReference", spec := "runesDecodeMatchesReference", named := ["unicode/utf8.first", "unicode/utf8.acceptRanges"], apart := false, laid := [("unicode/utf8.acceptRanges", laid_unicode_utf8_acceptRanges), ("unicode/utf8.first", laid_unicode_utf8_first)] }
def RunesDecodeMatchesReferenceSaid : Prop := runesDecodeMatchesReferenceRow.holds Tryd.pinned (OpenSpec.ofChange runesDecodeMatchesReferenceSpec)

/-- ITS FALSE NEIGHBOUR: 'it returns false'. Refute it at one input. -/
def runesDecodeMatchesReferenceWrong : ChangeSpec := { name := "runesDecodeMatchesReference", fn := fun _ => fun
  | [d] => { results := [.lit (.bool false)], args := [d] }
  | _ => none }
def RunesDecodeMatchesReferenceWrongFalsely : Prop := runesDecodeMatchesReferenceRow.holds Tryd.pinned (OpenSpec.ofChange runesDecodeMatchesReferenceWrong)

/-- 'tmplpipelaw06.RunesConcatenation': WHATEVER THE INPUT: true; the input reads as it did. -/
def runesConcatenationSpec : ChangeSpec := { name := "runesConcatenation", fn := fun _ => fun
  | [d1, d2] => { results := [.lit (.bool true)], args := [d1, d2] }
  | _ => none }
def runesConcatenationRow : OpenClaim := { program := "ytddaadmoibhgbaadoor", sum := "2cc401c92fbd710f684f2ad4ba694fcf11c6637533dbdb8cfd74daa38ca2f2e3", func := "tmplpipe/tmplpipelaw06.RunesConcatenation", spec := "runesConcatenation", named := ["unicode/utf8.first", "unicode/utf8.acceptRanges"], apart := false, laid := [("unicode/utf8.acceptRanges", laid_unicode_utf8_acceptRanges), ("unicode/utf8.first", laid_unicode_utf8_first)] }
def RunesConcatenationSaid : Prop := runesConcatenationRow.holds Tryd.pinned (OpenSpec.ofChange runesConcatenationSpec)

/-- ITS FALSE NEIGHBOUR: 'it returns false'. Refute it at one input. -/
def runesConcatenationWrong : ChangeSpec := { name := "runesConcatenation", fn := fun _ => fun
  | [d1, d2] => { results := [.lit (.bool false)], args := [d1, d2] }
  | _ => none }
def RunesConcatenationWrongFalsely : Prop := runesConcatenationRow.holds Tryd.pinned (OpenSpec.ofChange runesConcatenationWrong)

/-- 'tmplpipelaw06.RunesRoundTrip': WHATEVER THE INPUT: true; the input reads as it did. -/
def runesRoundTripSpec : ChangeSpec := { name := "runesRoundTrip", fn := fun _ => fun
  | [d] => { results := [.lit (.bool true)], args := [d] }
  | _ => none }
def runesRoundTripRow : OpenClaim := { program := "ytddaadmoibhgbaadoor", sum := "2cc401c92fbd710f684f2ad4ba694fcf11c6637533dbdb8cfd74daa38ca2f2e3", func := "tmplpipe/tmplpipelaw06.RunesRoundTrip", spec := "runesRoundTrip", named := ["unicode/utf8.first", "unicode/utf8.acceptRanges"], apart := false, laid := [("unicode/utf8.acceptRanges", laid_unicode_utf8_acceptRanges), ("unicode/utf8.first", laid_unicode_utf8_first)] }
def RunesRoundTripSaid : Prop := runesRoundTripRow.holds Tryd.pinned (OpenSpec.ofChange runesRoundTripSpec)

/-- ITS FALSE NEIGHBOUR: 'it returns false'. Refute it at one input. -/
def runesRoundTripWrong : ChangeSpec := { name := "runesRoundTrip", fn := fun _ => fun
  | [d] => { results := [.lit (.bool false)], args := [d] }
  | _ => none }
def RunesRoundTripWrongFalsely : Prop := runesRoundTripRow.holds Tryd.pinned (OpenSpec.ofChange runesRoundTripWrong)

/- THE SECOND FORM. 'bulk': how many values and letters a reading holds, each counted each time it is reached (what is shared counts as often as it is met; a slice's spare places count too). A statement '..UptoSaid' is the law's where the arguments, and the package variables that the reading takes, are together of bulk at most 1048576: NARROWER than '..Said'. Prove '..Said' where nothing that the law and all that it calls make is longer than what came in: it says more and counts as full. Else prove '..UptoSaid'. A law counts once. -/
mutual
def uptoBulk {H : Type} : DataW H → Nat
  | .lit (.string bytes) => bytes.length + 1
  | .lit _ => 1
  | .nil => 1
  | .ptr d => uptoBulk d + 1
  | .slice elems spare => uptoBulkAll elems + uptoBulkAll spare + 1
  | .agg parts => uptoBulkAll parts + 1
  | .iface _ d => uptoBulk d + 1
  | .map entries => uptoBulkEntries entries + 1
  | .held _ => 1
def uptoBulkAll {H : Type} : List (DataW H) → Nat
  | [] => 0
  | d :: r => uptoBulk d + uptoBulkAll r
def uptoBulkEntries {H : Type} : List (Lit × DataW H) → Nat
  | [] => 0
  | x :: r => uptoBulkEntry x + uptoBulkEntries r
def uptoBulkEntry {H : Type} : Lit × DataW H → Nat
  | (.string bytes, d) => bytes.length + uptoBulk d + 1
  | (_, d) => uptoBulk d + 1
 end
def uptoSmall : (H : Type) → List (DataW H) → Bool := fun _ ds => decide (uptoBulkAll ds ≤ 1048576)
def OpenSpec.upto (s : _root_.Go.ChangeSpec) : _root_.Go.OpenSpec := { _root_.Go.OpenSpec.ofChange s with cond := some uptoSmall }

/-- 'tmplpipelaw06.RunesDecoderMatchesReference', WHERE WHAT IT READS IS OF BULK AT MOST 1048576: true; the input reads as it did. -/
def runesDecoderMatchesReferenceUptoRow : OpenClaim := { program := "ytddaadmoibhgbaadoor", sum := "2cc401c92fbd710f684f2ad4ba694fcf11c6637533dbdb8cfd74daa38ca2f2e3", func := "tmplpipe/tmplpipelaw06.RunesDecoderMatchesReference", spec := "runesDecoderMatchesReference", named := ["unicode/utf8.first", "unicode/utf8.acceptRanges"], apart := false, laid := [("unicode/utf8.acceptRanges", laid_unicode_utf8_acceptRanges), ("unicode/utf8.first", laid_unicode_utf8_first)], narrowed := true }
def RunesDecoderMatchesReferenceUptoSaid : Prop := runesDecoderMatchesReferenceUptoRow.holds Tryd.pinned (OpenSpec.upto runesDecoderMatchesReferenceSpec)

/-- 'tmplpipelaw06.RunesSplitIrrelevant', WHERE WHAT IT READS IS OF BULK AT MOST 1048576: true; the input reads as it did. -/
def runesSplitIrrelevantUptoRow : OpenClaim := { program := "ytddaadmoibhgbaadoor", sum := "2cc401c92fbd710f684f2ad4ba694fcf11c6637533dbdb8cfd74daa38ca2f2e3", func := "tmplpipe/tmplpipelaw06.RunesSplitIrrelevant", spec := "runesSplitIrrelevant", named := ["unicode/utf8.first", "unicode/utf8.acceptRanges"], apart := false, laid := [("unicode/utf8.acceptRanges", laid_unicode_utf8_acceptRanges), ("unicode/utf8.first", laid_unicode_utf8_first)], narrowed := true }
def RunesSplitIrrelevantUptoSaid : Prop := runesSplitIrrelevantUptoRow.holds Tryd.pinned (OpenSpec.upto runesSplitIrrelevantSpec)

/-- 'tmplpipelaw06.RunesEncodeMatchesReference', WHERE WHAT IT READS IS OF BULK AT MOST 1048576: true; the input reads as it did. -/
def runesEncodeMatchesReferenceUptoRow : OpenClaim := { program := "ytddaadmoibhgbaadoor", sum := "2cc401c92fbd710f684f2ad4ba694fcf11c6637533dbdb8cfd74daa38ca2f2e3", func := "tmplpipe/tmplpipelaw06.RunesEncodeMatchesReference", spec := "runesEncodeMatchesReference", named := ["unicode/utf8.first", "unicode/utf8.acceptRanges"], apart := false, laid := [("unicode/utf8.acceptRanges", laid_unicode_utf8_acceptRanges), ("unicode/utf8.first", laid_unicode_utf8_first)], narrowed := true }
def RunesEncodeMatchesReferenceUptoSaid : Prop := runesEncodeMatchesReferenceUptoRow.holds Tryd.pinned (OpenSpec.upto runesEncodeMatchesReferenceSpec)

/-- 'tmplpipelaw06.RunesDecodeMatchesReference', WHERE WHAT IT READS IS OF BULK AT MOST 1048576: true; the input reads as it did. -/
def runesDecodeMatchesReferenceUptoRow : OpenClaim := { program := "ytddaadmoibhgbaadoor", sum := "2cc401c92fbd710f684f2ad4ba694fcf11c6637533dbdb8cfd74daa38ca2f2e3", func := "tmplpipe/tmplpipelaw06.RunesDecodeMatchesReference", spec := "runesDecodeMatchesReference", named := ["unicode/utf8.first", "unicode/utf8.acceptRanges"], apart := false, laid := [("unicode/utf8.acceptRanges", laid_unicode_utf8_acceptRanges), ("unicode/utf8.first", laid_unicode_utf8_first)], narrowed := true }
def RunesDecodeMatchesReferenceUptoSaid : Prop := runesDecodeMatchesReferenceUptoRow.holds Tryd.pinned (OpenSpec.upto runesDecodeMatchesReferenceSpec)

/-- 'tmplpipelaw06.RunesConcatenation', WHERE WHAT IT READS IS OF BULK AT MOST 1048576: true; the input reads as it did. -/
def runesConcatenationUptoRow : OpenClaim := { program := "ytddaadmoibhgbaadoor", sum := "2cc401c92fbd710f684f2ad4ba694fcf11c6637533dbdb8cfd74daa38ca2f2e3", func := "tmplpipe/tmplpipelaw06.RunesConcatenation", spec := "runesConcatenation", named := ["unicode/utf8.first", "unicode/utf8.acceptRanges"], apart := false, laid := [("unicode/utf8.acceptRanges", laid_unicode_utf8_acceptRanges), ("unicode/utf8.first", laid_unicode_utf8_first)], narrowed := true }
def RunesConcatenationUptoSaid : Prop := runesConcatenationUptoRow.holds Tryd.pinned (OpenSpec.upto runesConcatenationSpec)

/-- 'tmplpipelaw06.RunesRoundTrip', WHERE WHAT IT READS IS OF BULK AT MOST 1048576: true; the input reads as it did. -/
def runesRoundTripUptoRow : OpenClaim := { program := "ytddaadmoibhgbaadoor", sum := "2cc401c92fbd710f684f2ad4ba694fcf11c6637533dbdb8cfd74daa38ca2f2e3", func := "tmplpipe/tmplpipelaw06.RunesRoundTrip", spec := "runesRoundTrip", named := ["unicode/utf8.first", "unicode/utf8.acceptRanges"], apart := false, laid := [("unicode/utf8.acceptRanges", laid_unicode_utf8_acceptRanges), ("unicode/utf8.first", laid_unicode_utf8_first)], narrowed := true }
def RunesRoundTripUptoSaid : Prop := runesRoundTripUptoRow.holds Tryd.pinned (OpenSpec.upto runesRoundTripSpec)

end Rows
end Go.Proofs.YtddaadmoibhgbaaDoor
