/-
  No cell of these rows narrows 'for every input' (looked for: loops, veiled, ifaces, maps, wideKeys, modest, calm, conditions, laid).
  DERIVED. THE GIVEN ROWS OF THIS SEAT. 8 by the template 'for every input the law returns true; each argument reads behind the call as it read before'; 0 by the template 'total and deterministic' (their statements: YtjlmonghelbihaaTotals.lean).
  GIVEN WITH THE SEED: the statements are not yours to turn. If you find one false, say at which input.
  Laid BY PROGRAM, IN A SANDBOX (cutbox-rows.mjs): the forced cells as the released guide's own fill.sh prints them over the translation d38ab87fccd1e173… (all of the seat's roots in one cut). By AI agents, Wed Nov 11 2026. No macro, syntax, notation, axiom, sorry.
-/
import Derived.Test.YtjlmonghelbihaaChecked
import GoSem.Claim
import GoSem.ClaimJoined
import GoSem.ClaimMapViews
import Derived.JoinedTies
import Derived.KernelRfl
namespace Go.Proofs.Ytjlmonghelbihaa
/- THE CELL 'sum', in the pinned program and in every row, IS THE sha256 OF THE DUMP (.gsa) THAT YtjlmonghelbihaaProg.lean LOADS. Nothing in Lean hashes anything: it is a label: what it is worth is what the hold of that sum in a sandbox is worth. -/
noncomputable def Try.pinned : Pinned := { name := "ytjlmonghelbihaa", sum := "d38ab87fccd1e17361b47e5878933a25fdeb1a14e52b3c79d15b96458286687c", checked := Try.checked }
namespace Rows
def none {H : Type} : Left H := { results := [], args := [] }

/-- 'tmplpipelaw15.HtmlctxMatchesReference': WHATEVER THE INPUT: true; the input reads as it did. -/
def htmlctxMatchesReferenceSpec : ChangeSpec := { name := "htmlctxMatchesReference", fn := fun _ => fun
  | [d] => { results := [.lit (.bool true)], args := [d] }
  | _ => none }
def htmlctxMatchesReferenceRow : OpenClaim := { program := "ytjlmonghelbihaa", sum := "d38ab87fccd1e17361b47e5878933a25fdeb1a14e52b3c79d15b96458286687c", func := "tmplpipe/tmplpipelaw15.HtmlctxMatchesReference", spec := "htmlctxMatchesReference", inPlace := ["internal/bytealg.IndexByteString"], apart := false }
def HtmlctxMatchesReferenceSaid : Prop := htmlctxMatchesReferenceRow.holds Try.pinned (OpenSpec.ofChange htmlctxMatchesReferenceSpec)

/-- ITS FALSE NEIGHBOUR: 'it returns false'. Refute it at one input. -/
def htmlctxMatchesReferenceWrong : ChangeSpec := { name := "htmlctxMatchesReference", fn := fun _ => fun
  | [d] => { results := [.lit (.bool false)], args := [d] }
  | _ => none }
def HtmlctxMatchesReferenceWrongFalsely : Prop := htmlctxMatchesReferenceRow.holds Try.pinned (OpenSpec.ofChange htmlctxMatchesReferenceWrong)

/-- 'tmplpipelaw15.HtmlctxRunComposes': WHATEVER THE INPUT: true; the input reads as it did. -/
def htmlctxRunComposesSpec : ChangeSpec := { name := "htmlctxRunComposes", fn := fun _ => fun
  | [d1, d2] => { results := [.lit (.bool true)], args := [d1, d2] }
  | _ => none }
def htmlctxRunComposesRow : OpenClaim := { program := "ytjlmonghelbihaa", sum := "d38ab87fccd1e17361b47e5878933a25fdeb1a14e52b3c79d15b96458286687c", func := "tmplpipe/tmplpipelaw15.HtmlctxRunComposes", spec := "htmlctxRunComposes", inPlace := ["internal/bytealg.IndexByteString"], apart := false }
def HtmlctxRunComposesSaid : Prop := htmlctxRunComposesRow.holds Try.pinned (OpenSpec.ofChange htmlctxRunComposesSpec)

/-- ITS FALSE NEIGHBOUR: 'it returns false'. Refute it at one input. -/
def htmlctxRunComposesWrong : ChangeSpec := { name := "htmlctxRunComposes", fn := fun _ => fun
  | [d1, d2] => { results := [.lit (.bool false)], args := [d1, d2] }
  | _ => none }
def HtmlctxRunComposesWrongFalsely : Prop := htmlctxRunComposesRow.holds Try.pinned (OpenSpec.ofChange htmlctxRunComposesWrong)

/-- 'tmplpipelaw15.HtmlctxElementContexts': WHATEVER THE INPUT: true; the input reads as it did. -/
def htmlctxElementContextsSpec : ChangeSpec := { name := "htmlctxElementContexts", fn := fun _ => fun
  | [d1, d2] => { results := [.lit (.bool true)], args := [d1, d2] }
  | _ => none }
def htmlctxElementContextsRow : OpenClaim := { program := "ytjlmonghelbihaa", sum := "d38ab87fccd1e17361b47e5878933a25fdeb1a14e52b3c79d15b96458286687c", func := "tmplpipe/tmplpipelaw15.HtmlctxElementContexts", spec := "htmlctxElementContexts", inPlace := ["internal/bytealg.IndexByteString"], apart := false }
def HtmlctxElementContextsSaid : Prop := htmlctxElementContextsRow.holds Try.pinned (OpenSpec.ofChange htmlctxElementContextsSpec)

/-- ITS FALSE NEIGHBOUR: 'it returns false'. Refute it at one input. -/
def htmlctxElementContextsWrong : ChangeSpec := { name := "htmlctxElementContexts", fn := fun _ => fun
  | [d1, d2] => { results := [.lit (.bool false)], args := [d1, d2] }
  | _ => none }
def HtmlctxElementContextsWrongFalsely : Prop := htmlctxElementContextsRow.holds Try.pinned (OpenSpec.ofChange htmlctxElementContextsWrong)

/-- 'tmplpipelaw15.HtmlctxNamesAreBounded': WHATEVER THE INPUT: true; the input reads as it did. -/
def htmlctxNamesAreBoundedSpec : ChangeSpec := { name := "htmlctxNamesAreBounded", fn := fun _ => fun
  | [d] => { results := [.lit (.bool true)], args := [d] }
  | _ => none }
def htmlctxNamesAreBoundedRow : OpenClaim := { program := "ytjlmonghelbihaa", sum := "d38ab87fccd1e17361b47e5878933a25fdeb1a14e52b3c79d15b96458286687c", func := "tmplpipe/tmplpipelaw15.HtmlctxNamesAreBounded", spec := "htmlctxNamesAreBounded", inPlace := ["internal/bytealg.IndexByteString"], apart := false }
def HtmlctxNamesAreBoundedSaid : Prop := htmlctxNamesAreBoundedRow.holds Try.pinned (OpenSpec.ofChange htmlctxNamesAreBoundedSpec)

/-- ITS FALSE NEIGHBOUR: 'it returns false'. Refute it at one input. -/
def htmlctxNamesAreBoundedWrong : ChangeSpec := { name := "htmlctxNamesAreBounded", fn := fun _ => fun
  | [d] => { results := [.lit (.bool false)], args := [d] }
  | _ => none }
def HtmlctxNamesAreBoundedWrongFalsely : Prop := htmlctxNamesAreBoundedRow.holds Try.pinned (OpenSpec.ofChange htmlctxNamesAreBoundedWrong)

/-- 'tmplpipelaw16.InferMatchesReference': WHATEVER THE INPUT: true; the input reads as it did. -/
def inferMatchesReferenceSpec : ChangeSpec := { name := "inferMatchesReference", fn := fun _ => fun
  | [d] => { results := [.lit (.bool true)], args := [d] }
  | _ => none }
def inferMatchesReferenceRow : OpenClaim := { program := "ytjlmonghelbihaa", sum := "d38ab87fccd1e17361b47e5878933a25fdeb1a14e52b3c79d15b96458286687c", func := "tmplpipe/tmplpipelaw16.InferMatchesReference", spec := "inferMatchesReference", inPlace := ["internal/bytealg.IndexByteString"], recurses := true, apart := false }
def InferMatchesReferenceSaid : Prop := inferMatchesReferenceRow.holds Try.pinned (OpenSpec.ofChange inferMatchesReferenceSpec)

/-- ITS FALSE NEIGHBOUR: 'it returns false'. Refute it at one input. -/
def inferMatchesReferenceWrong : ChangeSpec := { name := "inferMatchesReference", fn := fun _ => fun
  | [d] => { results := [.lit (.bool false)], args := [d] }
  | _ => none }
def InferMatchesReferenceWrongFalsely : Prop := inferMatchesReferenceRow.holds Try.pinned (OpenSpec.ofChange inferMatchesReferenceWrong)

/-- 'tmplpipelaw16.InferAfterMatchesReference': WHATEVER THE INPUT: true; the input reads as it did. -/
def inferAfterMatchesReferenceSpec : ChangeSpec := { name := "inferAfterMatchesReference", fn := fun _ => fun
  | [d1, d2] => { results := [.lit (.bool true)], args := [d1, d2] }
  | _ => none }
def inferAfterMatchesReferenceRow : OpenClaim := { program := "ytjlmonghelbihaa", sum := "d38ab87fccd1e17361b47e5878933a25fdeb1a14e52b3c79d15b96458286687c", func := "tmplpipe/tmplpipelaw16.InferAfterMatchesReference", spec := "inferAfterMatchesReference", inPlace := ["internal/bytealg.IndexByteString"], recurses := true, apart := false }
def InferAfterMatchesReferenceSaid : Prop := inferAfterMatchesReferenceRow.holds Try.pinned (OpenSpec.ofChange inferAfterMatchesReferenceSpec)

/-- ITS FALSE NEIGHBOUR: 'it returns false'. Refute it at one input. -/
def inferAfterMatchesReferenceWrong : ChangeSpec := { name := "inferAfterMatchesReference", fn := fun _ => fun
  | [d1, d2] => { results := [.lit (.bool false)], args := [d1, d2] }
  | _ => none }
def InferAfterMatchesReferenceWrongFalsely : Prop := inferAfterMatchesReferenceRow.holds Try.pinned (OpenSpec.ofChange inferAfterMatchesReferenceWrong)

/-- 'tmplpipelaw16.InferComposes': WHATEVER THE INPUT: true; the input reads as it did. -/
def inferComposesSpec : ChangeSpec := { name := "inferComposes", fn := fun _ => fun
  | [d1, d2] => { results := [.lit (.bool true)], args := [d1, d2] }
  | _ => none }
def inferComposesRow : OpenClaim := { program := "ytjlmonghelbihaa", sum := "d38ab87fccd1e17361b47e5878933a25fdeb1a14e52b3c79d15b96458286687c", func := "tmplpipe/tmplpipelaw16.InferComposes", spec := "inferComposes", inPlace := ["internal/bytealg.IndexByteString"], recurses := true, apart := false }
def InferComposesSaid : Prop := inferComposesRow.holds Try.pinned (OpenSpec.ofChange inferComposesSpec)

/-- ITS FALSE NEIGHBOUR: 'it returns false'. Refute it at one input. -/
def inferComposesWrong : ChangeSpec := { name := "inferComposes", fn := fun _ => fun
  | [d1, d2] => { results := [.lit (.bool false)], args := [d1, d2] }
  | _ => none }
def InferComposesWrongFalsely : Prop := inferComposesRow.holds Try.pinned (OpenSpec.ofChange inferComposesWrong)

/-- 'tmplpipelaw16.InferTextOnly': WHATEVER THE INPUT: true; the input reads as it did. -/
def inferTextOnlySpec : ChangeSpec := { name := "inferTextOnly", fn := fun _ => fun
  | [d] => { results := [.lit (.bool true)], args := [d] }
  | _ => none }
def inferTextOnlyRow : OpenClaim := { program := "ytjlmonghelbihaa", sum := "d38ab87fccd1e17361b47e5878933a25fdeb1a14e52b3c79d15b96458286687c", func := "tmplpipe/tmplpipelaw16.InferTextOnly", spec := "inferTextOnly", inPlace := ["internal/bytealg.IndexByteString"], recurses := true, apart := false }
def InferTextOnlySaid : Prop := inferTextOnlyRow.holds Try.pinned (OpenSpec.ofChange inferTextOnlySpec)

/-- ITS FALSE NEIGHBOUR: 'it returns false'. Refute it at one input. -/
def inferTextOnlyWrong : ChangeSpec := { name := "inferTextOnly", fn := fun _ => fun
  | [d] => { results := [.lit (.bool false)], args := [d] }
  | _ => none }
def InferTextOnlyWrongFalsely : Prop := inferTextOnlyRow.holds Try.pinned (OpenSpec.ofChange inferTextOnlyWrong)

/- THE SECOND FORM. 'bulk': how many values and letters a reading holds, each counted each time it is reached (what is shared counts as often as it is met; a slice's spare places count too). A statement '..UptoSaid' is the law's where the arguments, and the package variables that the reading takes, are together of bulk at most 1048576: NARROWER than '..Said'. Prove '..Said' where nothing that the law and all that it calls make is longer than what came in: it says more and counts as full. Else prove '..UptoSaid'. A law counts once. -/
mutual
def uptoBulk {H : Type} : DataW H → Nat
  | .lit (.string bytes) => bytes.length + 1
  | .lit _ => 1
  | .nil => 1
  | .ptr d => uptoBulk d + 1
  | .slice elems spare => uptoBulkAll elems + uptoBulkAll spare + 1
  | .agg parts => uptoBulkAll parts + 1
  | .iface _ d => uptoBulk d + 1
  | .map entries => uptoBulkEntries entries + 1
  | .held _ => 1
def uptoBulkAll {H : Type} : List (DataW H) → Nat
  | [] => 0
  | d :: r => uptoBulk d + uptoBulkAll r
def uptoBulkEntries {H : Type} : List (Lit × DataW H) → Nat
  | [] => 0
  | x :: r => uptoBulkEntry x + uptoBulkEntries r
def uptoBulkEntry {H : Type} : Lit × DataW H → Nat
  | (.string bytes, d) => bytes.length + uptoBulk d + 1
  | (_, d) => uptoBulk d + 1
 end
def uptoSmall : (H : Type) → List (DataW H) → Bool := fun _ ds => decide (uptoBulkAll ds ≤ 1048576)
def OpenSpec.upto (s : _root_.Go.ChangeSpec) : _root_.Go.OpenSpec := { _root_.Go.OpenSpec.ofChange s with cond := some uptoSmall }

/-- 'tmplpipelaw15.HtmlctxMatchesReference', WHERE WHAT IT READS IS OF BULK AT MOST 1048576: true; the input reads as it did. -/
def htmlctxMatchesReferenceUptoRow : OpenClaim := { program := "ytjlmonghelbihaa", sum := "d38ab87fccd1e17361b47e5878933a25fdeb1a14e52b3c79d15b96458286687c", func := "tmplpipe/tmplpipelaw15.HtmlctxMatchesReference", spec := "htmlctxMatchesReference", inPlace := ["internal/bytealg.IndexByteString"], apart := false, narrowed := true }
def HtmlctxMatchesReferenceUptoSaid : Prop := htmlctxMatchesReferenceUptoRow.holds Try.pinned (OpenSpec.upto htmlctxMatchesReferenceSpec)

/-- 'tmplpipelaw15.HtmlctxRunComposes', WHERE WHAT IT READS IS OF BULK AT MOST 1048576: true; the input reads as it did. -/
def htmlctxRunComposesUptoRow : OpenClaim := { program := "ytjlmonghelbihaa", sum := "d38ab87fccd1e17361b47e5878933a25fdeb1a14e52b3c79d15b96458286687c", func := "tmplpipe/tmplpipelaw15.HtmlctxRunComposes", spec := "htmlctxRunComposes", inPlace := ["internal/bytealg.IndexByteString"], apart := false, narrowed := true }
def HtmlctxRunComposesUptoSaid : Prop := htmlctxRunComposesUptoRow.holds Try.pinned (OpenSpec.upto htmlctxRunComposesSpec)

/-- 'tmplpipelaw15.HtmlctxElementContexts', WHERE WHAT IT READS IS OF BULK AT MOST 1048576: true; the input reads as it did. -/
def htmlctxElementContextsUptoRow : OpenClaim := { program := "ytjlmonghelbihaa", sum := "d38ab87fccd1e17361b47e5878933a25fdeb1a14e52b3c79d15b96458286687c", func := "tmplpipe/tmplpipelaw15.HtmlctxElementContexts", spec := "htmlctxElementContexts", inPlace := ["internal/bytealg.IndexByteString"], apart := false, narrowed := true }
def HtmlctxElementContextsUptoSaid : Prop := htmlctxElementContextsUptoRow.holds Try.pinned (OpenSpec.upto htmlctxElementContextsSpec)

/-- 'tmplpipelaw15.HtmlctxNamesAreBounded', WHERE WHAT IT READS IS OF BULK AT MOST 1048576: true; the input reads as it did. -/
def htmlctxNamesAreBoundedUptoRow : OpenClaim := { program := "ytjlmonghelbihaa", sum := "d38ab87fccd1e17361b47e5878933a25fdeb1a14e52b3c79d15b96458286687c", func := "tmplpipe/tmplpipelaw15.HtmlctxNamesAreBounded", spec := "htmlctxNamesAreBounded", inPlace := ["internal/bytealg.IndexByteString"], apart := false, narrowed := true }
def HtmlctxNamesAreBoundedUptoSaid : Prop := htmlctxNamesAreBoundedUptoRow.holds Try.pinned (OpenSpec.upto htmlctxNamesAreBoundedSpec)

/-- 'tmplpipelaw16.InferMatchesReference', WHERE WHAT IT READS IS OF BULK AT MOST 1048576: true; the input reads as it did. -/
def inferMatchesReferenceUptoRow : OpenClaim := { program := "ytjlmonghelbihaa", sum := "d38ab87fccd1e17361b47e5878933a25fdeb1a14e52b3c79d15b96458286687c", func := "tmplpipe/tmplpipelaw16.InferMatchesReference", spec := "inferMatchesReference", inPlace := ["internal/bytealg.IndexByteString"], recurses := true, apart := false, narrowed := true }
def InferMatchesReferenceUptoSaid : Prop := inferMatchesReferenceUptoRow.holds Try.pinned (OpenSpec.upto inferMatchesReferenceSpec)

/-- 'tmplpipelaw16.InferAfterMatchesReference', WHERE WHAT IT READS IS OF BULK AT MOST 1048576: true; the input reads as it did. -/
def inferAfterMatchesReferenceUptoRow : OpenClaim := { program := "ytjlmonghelbihaa", sum := "d38ab87fccd1e17361b47e5878933a25fdeb1a14e52b3c79d15b96458286687c", func := "tmplpipe/tmplpipelaw16.InferAfterMatchesReference", spec := "inferAfterMatchesReference", inPlace := ["internal/bytealg.IndexByteString"], recurses := true, apart := false, narrowed := true }
def InferAfterMatchesReferenceUptoSaid : Prop := inferAfterMatchesReferenceUptoRow.holds Try.pinned (OpenSpec.upto inferAfterMatchesReferenceSpec)

/-- 'tmplpipelaw16.InferComposes', WHERE WHAT IT READS IS OF BULK AT MOST 1048576: true; the input reads as it did. -/
def inferComposesUptoRow : OpenClaim := { program := "ytjlmonghelbihaa", sum := "d38ab87fccd1e17361b47e5878933a25fdeb1a14e52b3c79d15b96458286687c", func := "tmplpipe/tmplpipelaw16.InferComposes", spec := "inferComposes", inPlace := ["internal/bytealg.IndexByteString"], recurses := true, apart := false, narrowed := true }
def InferComposesUptoSaid : Prop := inferComposesUptoRow.holds Try.pinned (OpenSpec.upto inferComposesSpec)

/-- 'tmplpipelaw16.InferTextOnly', WHERE WHAT IT READS IS OF BULK AT MOST 1048576: true; the input reads as it did. -/
def inferTextOnlyUptoRow : OpenClaim := { program := "ytjlmonghelbihaa", sum := "d38ab87fccd1e17361b47e5878933a25fdeb1a14e52b3c79d15b96458286687c", func := "tmplpipe/tmplpipelaw16.InferTextOnly", spec := "inferTextOnly", inPlace := ["internal/bytealg.IndexByteString"], recurses := true, apart := false, narrowed := true }
def InferTextOnlyUptoSaid : Prop := inferTextOnlyUptoRow.holds Try.pinned (OpenSpec.upto inferTextOnlySpec)

end Rows
end Go.Proofs.Ytjlmonghelbihaa
