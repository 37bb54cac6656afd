/-
  No cell of these rows narrows 'for every input' (looked for: loops, veiled, ifaces, maps, wideKeys, modest, calm, conditions, laid).
  DERIVED. THE GIVEN ROWS OF THIS SEAT. 12 by the template 'for every input the law returns true; each argument reads behind the call as it read before'; 0 by the template 'total and deterministic' (their statements: YthiphpcbeeakpaaTotals.lean).
  GIVEN WITH THE SEED: the statements are not yours to turn. If you find one false, say at which input.
  Laid BY PROGRAM, IN A SANDBOX (cutbox-rows.mjs): the forced cells as the released guide's own fill.sh prints them over the translation 9d7d444fe120186b… (all of the seat's roots in one cut). By AI agents, Wed Nov 11 2026. No macro, syntax, notation, axiom, sorry.
-/
import Derived.Test.YthiphpcbeeakpaaChecked
import GoSem.Claim
import GoSem.ClaimJoined
import GoSem.ClaimMapViews
import Derived.JoinedTies
import Derived.KernelRfl
namespace Go.Proofs.Ythiphpcbeeakpaa
/- THE CELL 'sum', in the pinned program and in every row, IS THE sha256 OF THE DUMP (.gsa) THAT YthiphpcbeeakpaaProg.lean LOADS. Nothing in Lean hashes anything: it is a label: what it is worth is what the hold of that sum in a sandbox is worth. -/
noncomputable def Try.pinned : Pinned := { name := "ythiphpcbeeakpaa", sum := "9d7d444fe120186be877ac062d88b42b094c6ee1f20927846413ecdb70bb0978", checked := Try.checked }
namespace Rows
def none {H : Type} : Left H := { results := [], args := [] }

/-- 'tmplpipelaw02.WriterAcceptsPrefix': WHATEVER THE INPUT: true; the input reads as it did. -/
def writerAcceptsPrefixSpec : ChangeSpec := { name := "writerAcceptsPrefix", fn := fun _ => fun
  | [d1, d2] => { results := [.lit (.bool true)], args := [d1, d2] }
  | _ => none }
def writerAcceptsPrefixRow : OpenClaim := { program := "ythiphpcbeeakpaa", sum := "9d7d444fe120186be877ac062d88b42b094c6ee1f20927846413ecdb70bb0978", func := "tmplpipe/tmplpipelaw02.WriterAcceptsPrefix", spec := "writerAcceptsPrefix", apart := false }
def WriterAcceptsPrefixSaid : Prop := writerAcceptsPrefixRow.holds Try.pinned (OpenSpec.ofChange writerAcceptsPrefixSpec)

/-- ITS FALSE NEIGHBOUR: 'it returns false'. Refute it at one input. -/
def writerAcceptsPrefixWrong : ChangeSpec := { name := "writerAcceptsPrefix", fn := fun _ => fun
  | [d1, d2] => { results := [.lit (.bool false)], args := [d1, d2] }
  | _ => none }
def WriterAcceptsPrefixWrongFalsely : Prop := writerAcceptsPrefixRow.holds Try.pinned (OpenSpec.ofChange writerAcceptsPrefixWrong)

/-- 'tmplpipelaw02.WriterEmpty': WHATEVER THE INPUT: true; the input reads as it did. -/
def writerEmptySpec : ChangeSpec := { name := "writerEmpty", fn := fun _ => fun
  | [d] => { results := [.lit (.bool true)], args := [d] }
  | _ => none }
def writerEmptyRow : OpenClaim := { program := "ythiphpcbeeakpaa", sum := "9d7d444fe120186be877ac062d88b42b094c6ee1f20927846413ecdb70bb0978", func := "tmplpipe/tmplpipelaw02.WriterEmpty", spec := "writerEmpty", apart := false }
def WriterEmptySaid : Prop := writerEmptyRow.holds Try.pinned (OpenSpec.ofChange writerEmptySpec)

/-- ITS FALSE NEIGHBOUR: 'it returns false'. Refute it at one input. -/
def writerEmptyWrong : ChangeSpec := { name := "writerEmpty", fn := fun _ => fun
  | [d] => { results := [.lit (.bool false)], args := [d] }
  | _ => none }
def WriterEmptyWrongFalsely : Prop := writerEmptyRow.holds Try.pinned (OpenSpec.ofChange writerEmptyWrong)

/-- 'tmplpipelaw02.WriterFailureIsSticky': WHATEVER THE INPUT: true; the input reads as it did. -/
def writerFailureIsStickySpec : ChangeSpec := { name := "writerFailureIsSticky", fn := fun _ => fun
  | [d1, d2] => { results := [.lit (.bool true)], args := [d1, d2] }
  | _ => none }
def writerFailureIsStickyRow : OpenClaim := { program := "ythiphpcbeeakpaa", sum := "9d7d444fe120186be877ac062d88b42b094c6ee1f20927846413ecdb70bb0978", func := "tmplpipe/tmplpipelaw02.WriterFailureIsSticky", spec := "writerFailureIsSticky", apart := false }
def WriterFailureIsStickySaid : Prop := writerFailureIsStickyRow.holds Try.pinned (OpenSpec.ofChange writerFailureIsStickySpec)

/-- ITS FALSE NEIGHBOUR: 'it returns false'. Refute it at one input. -/
def writerFailureIsStickyWrong : ChangeSpec := { name := "writerFailureIsSticky", fn := fun _ => fun
  | [d1, d2] => { results := [.lit (.bool false)], args := [d1, d2] }
  | _ => none }
def WriterFailureIsStickyWrongFalsely : Prop := writerFailureIsStickyRow.holds Try.pinned (OpenSpec.ofChange writerFailureIsStickyWrong)

/-- 'tmplpipelaw02.WriterCounts': WHATEVER THE INPUT: true; the input reads as it did. -/
def writerCountsSpec : ChangeSpec := { name := "writerCounts", fn := fun _ => fun
  | [d1, d2] => { results := [.lit (.bool true)], args := [d1, d2] }
  | _ => none }
def writerCountsRow : OpenClaim := { program := "ythiphpcbeeakpaa", sum := "9d7d444fe120186be877ac062d88b42b094c6ee1f20927846413ecdb70bb0978", func := "tmplpipe/tmplpipelaw02.WriterCounts", spec := "writerCounts", apart := false }
def WriterCountsSaid : Prop := writerCountsRow.holds Try.pinned (OpenSpec.ofChange writerCountsSpec)

/-- ITS FALSE NEIGHBOUR: 'it returns false'. Refute it at one input. -/
def writerCountsWrong : ChangeSpec := { name := "writerCounts", fn := fun _ => fun
  | [d1, d2] => { results := [.lit (.bool false)], args := [d1, d2] }
  | _ => none }
def WriterCountsWrongFalsely : Prop := writerCountsRow.holds Try.pinned (OpenSpec.ofChange writerCountsWrong)

/-- 'tmplpipelaw01.RingMatchesReference': WHATEVER THE INPUT: true; the input reads as it did. -/
def ringMatchesReferenceSpec : ChangeSpec := { name := "ringMatchesReference", fn := fun _ => fun
  | [d1, d2] => { results := [.lit (.bool true)], args := [d1, d2] }
  | _ => none }
def ringMatchesReferenceRow : OpenClaim := { program := "ythiphpcbeeakpaa", sum := "9d7d444fe120186be877ac062d88b42b094c6ee1f20927846413ecdb70bb0978", func := "tmplpipe/tmplpipelaw01.RingMatchesReference", spec := "ringMatchesReference", apart := false }
def RingMatchesReferenceSaid : Prop := ringMatchesReferenceRow.holds Try.pinned (OpenSpec.ofChange ringMatchesReferenceSpec)

/-- ITS FALSE NEIGHBOUR: 'it returns false'. Refute it at one input. -/
def ringMatchesReferenceWrong : ChangeSpec := { name := "ringMatchesReference", fn := fun _ => fun
  | [d1, d2] => { results := [.lit (.bool false)], args := [d1, d2] }
  | _ => none }
def RingMatchesReferenceWrongFalsely : Prop := ringMatchesReferenceRow.holds Try.pinned (OpenSpec.ofChange ringMatchesReferenceWrong)

/-- 'tmplpipelaw01.RingCapacity': WHATEVER THE INPUT: true; the input reads as it did. -/
def ringCapacitySpec : ChangeSpec := { name := "ringCapacity", fn := fun _ => fun
  | [d] => { results := [.lit (.bool true)], args := [d] }
  | _ => none }
def ringCapacityRow : OpenClaim := { program := "ythiphpcbeeakpaa", sum := "9d7d444fe120186be877ac062d88b42b094c6ee1f20927846413ecdb70bb0978", func := "tmplpipe/tmplpipelaw01.RingCapacity", spec := "ringCapacity", apart := false }
def RingCapacitySaid : Prop := ringCapacityRow.holds Try.pinned (OpenSpec.ofChange ringCapacitySpec)

/-- ITS FALSE NEIGHBOUR: 'it returns false'. Refute it at one input. -/
def ringCapacityWrong : ChangeSpec := { name := "ringCapacity", fn := fun _ => fun
  | [d] => { results := [.lit (.bool false)], args := [d] }
  | _ => none }
def RingCapacityWrongFalsely : Prop := ringCapacityRow.holds Try.pinned (OpenSpec.ofChange ringCapacityWrong)

/-- 'tmplpipelaw01.RingKeepsOrder': WHATEVER THE INPUT: true; the input reads as it did. -/
def ringKeepsOrderSpec : ChangeSpec := { name := "ringKeepsOrder", fn := fun _ => fun
  | [d1, d2, d3] => { results := [.lit (.bool true)], args := [d1, d2, d3] }
  | _ => none }
def ringKeepsOrderRow : OpenClaim := { program := "ythiphpcbeeakpaa", sum := "9d7d444fe120186be877ac062d88b42b094c6ee1f20927846413ecdb70bb0978", func := "tmplpipe/tmplpipelaw01.RingKeepsOrder", spec := "ringKeepsOrder", apart := false }
def RingKeepsOrderSaid : Prop := ringKeepsOrderRow.holds Try.pinned (OpenSpec.ofChange ringKeepsOrderSpec)

/-- ITS FALSE NEIGHBOUR: 'it returns false'. Refute it at one input. -/
def ringKeepsOrderWrong : ChangeSpec := { name := "ringKeepsOrder", fn := fun _ => fun
  | [d1, d2, d3] => { results := [.lit (.bool false)], args := [d1, d2, d3] }
  | _ => none }
def RingKeepsOrderWrongFalsely : Prop := ringKeepsOrderRow.holds Try.pinned (OpenSpec.ofChange ringKeepsOrderWrong)

/-- 'tmplpipelaw01.RingIsolated': WHATEVER THE INPUT: true; the input reads as it did. -/
def ringIsolatedSpec : ChangeSpec := { name := "ringIsolated", fn := fun _ => fun
  | [d] => { results := [.lit (.bool true)], args := [d] }
  | _ => none }
def ringIsolatedRow : OpenClaim := { program := "ythiphpcbeeakpaa", sum := "9d7d444fe120186be877ac062d88b42b094c6ee1f20927846413ecdb70bb0978", func := "tmplpipe/tmplpipelaw01.RingIsolated", spec := "ringIsolated", apart := false }
def RingIsolatedSaid : Prop := ringIsolatedRow.holds Try.pinned (OpenSpec.ofChange ringIsolatedSpec)

/-- ITS FALSE NEIGHBOUR: 'it returns false'. Refute it at one input. -/
def ringIsolatedWrong : ChangeSpec := { name := "ringIsolated", fn := fun _ => fun
  | [d] => { results := [.lit (.bool false)], args := [d] }
  | _ => none }
def RingIsolatedWrongFalsely : Prop := ringIsolatedRow.holds Try.pinned (OpenSpec.ofChange ringIsolatedWrong)

/-- 'tmplpipelaw01.RingSpace': WHATEVER THE INPUT: true; the input reads as it did. -/
def ringSpaceSpec : ChangeSpec := { name := "ringSpace", fn := fun _ => fun
  | [d1, d2, d3] => { results := [.lit (.bool true)], args := [d1, d2, d3] }
  | _ => none }
def ringSpaceRow : OpenClaim := { program := "ythiphpcbeeakpaa", sum := "9d7d444fe120186be877ac062d88b42b094c6ee1f20927846413ecdb70bb0978", func := "tmplpipe/tmplpipelaw01.RingSpace", spec := "ringSpace", apart := false }
def RingSpaceSaid : Prop := ringSpaceRow.holds Try.pinned (OpenSpec.ofChange ringSpaceSpec)

/-- ITS FALSE NEIGHBOUR: 'it returns false'. Refute it at one input. -/
def ringSpaceWrong : ChangeSpec := { name := "ringSpace", fn := fun _ => fun
  | [d1, d2, d3] => { results := [.lit (.bool false)], args := [d1, d2, d3] }
  | _ => none }
def RingSpaceWrongFalsely : Prop := ringSpaceRow.holds Try.pinned (OpenSpec.ofChange ringSpaceWrong)

/-- 'tmplpipelaw01.RingPeekIsPrefix': WHATEVER THE INPUT: true; the input reads as it did. -/
def ringPeekIsPrefixSpec : ChangeSpec := { name := "ringPeekIsPrefix", fn := fun _ => fun
  | [d1, d2, d3] => { results := [.lit (.bool true)], args := [d1, d2, d3] }
  | _ => none }
def ringPeekIsPrefixRow : OpenClaim := { program := "ythiphpcbeeakpaa", sum := "9d7d444fe120186be877ac062d88b42b094c6ee1f20927846413ecdb70bb0978", func := "tmplpipe/tmplpipelaw01.RingPeekIsPrefix", spec := "ringPeekIsPrefix", apart := false }
def RingPeekIsPrefixSaid : Prop := ringPeekIsPrefixRow.holds Try.pinned (OpenSpec.ofChange ringPeekIsPrefixSpec)

/-- ITS FALSE NEIGHBOUR: 'it returns false'. Refute it at one input. -/
def ringPeekIsPrefixWrong : ChangeSpec := { name := "ringPeekIsPrefix", fn := fun _ => fun
  | [d1, d2, d3] => { results := [.lit (.bool false)], args := [d1, d2, d3] }
  | _ => none }
def RingPeekIsPrefixWrongFalsely : Prop := ringPeekIsPrefixRow.holds Try.pinned (OpenSpec.ofChange ringPeekIsPrefixWrong)

/-- 'tmplpipelaw02.WriterMatchesReference': WHATEVER THE INPUT: true; the input reads as it did. -/
def writerMatchesReferenceSpec : ChangeSpec := { name := "writerMatchesReference", fn := fun _ => fun
  | [d1, d2, d3] => { results := [.lit (.bool true)], args := [d1, d2, d3] }
  | _ => none }
def writerMatchesReferenceRow : OpenClaim := { program := "ythiphpcbeeakpaa", sum := "9d7d444fe120186be877ac062d88b42b094c6ee1f20927846413ecdb70bb0978", func := "tmplpipe/tmplpipelaw02.WriterMatchesReference", spec := "writerMatchesReference", apart := false }
def WriterMatchesReferenceSaid : Prop := writerMatchesReferenceRow.holds Try.pinned (OpenSpec.ofChange writerMatchesReferenceSpec)

/-- ITS FALSE NEIGHBOUR: 'it returns false'. Refute it at one input. -/
def writerMatchesReferenceWrong : ChangeSpec := { name := "writerMatchesReference", fn := fun _ => fun
  | [d1, d2, d3] => { results := [.lit (.bool false)], args := [d1, d2, d3] }
  | _ => none }
def WriterMatchesReferenceWrongFalsely : Prop := writerMatchesReferenceRow.holds Try.pinned (OpenSpec.ofChange writerMatchesReferenceWrong)

/-- 'tmplpipelaw02.WriterExtendIsConcatenation': WHATEVER THE INPUT: true; the input reads as it did. -/
def writerExtendIsConcatenationSpec : ChangeSpec := { name := "writerExtendIsConcatenation", fn := fun _ => fun
  | [d1, d2, d3] => { results := [.lit (.bool true)], args := [d1, d2, d3] }
  | _ => none }
def writerExtendIsConcatenationRow : OpenClaim := { program := "ythiphpcbeeakpaa", sum := "9d7d444fe120186be877ac062d88b42b094c6ee1f20927846413ecdb70bb0978", func := "tmplpipe/tmplpipelaw02.WriterExtendIsConcatenation", spec := "writerExtendIsConcatenation", apart := false }
def WriterExtendIsConcatenationSaid : Prop := writerExtendIsConcatenationRow.holds Try.pinned (OpenSpec.ofChange writerExtendIsConcatenationSpec)

/-- ITS FALSE NEIGHBOUR: 'it returns false'. Refute it at one input. -/
def writerExtendIsConcatenationWrong : ChangeSpec := { name := "writerExtendIsConcatenation", fn := fun _ => fun
  | [d1, d2, d3] => { results := [.lit (.bool false)], args := [d1, d2, d3] }
  | _ => none }
def WriterExtendIsConcatenationWrongFalsely : Prop := writerExtendIsConcatenationRow.holds Try.pinned (OpenSpec.ofChange writerExtendIsConcatenationWrong)

/- THE SECOND FORM. 'bulk': how many values and letters a reading holds, each counted each time it is reached (what is shared counts as often as it is met; a slice's spare places count too). A statement '..UptoSaid' is the law's where the arguments, and the package variables that the reading takes, are together of bulk at most 1048576: NARROWER than '..Said'. Prove '..Said' where nothing that the law and all that it calls make is longer than what came in: it says more and counts as full. Else prove '..UptoSaid'. A law counts once. -/
mutual
def uptoBulk {H : Type} : DataW H → Nat
  | .lit (.string bytes) => bytes.length + 1
  | .lit _ => 1
  | .nil => 1
  | .ptr d => uptoBulk d + 1
  | .slice elems spare => uptoBulkAll elems + uptoBulkAll spare + 1
  | .agg parts => uptoBulkAll parts + 1
  | .iface _ d => uptoBulk d + 1
  | .map entries => uptoBulkEntries entries + 1
  | .held _ => 1
def uptoBulkAll {H : Type} : List (DataW H) → Nat
  | [] => 0
  | d :: r => uptoBulk d + uptoBulkAll r
def uptoBulkEntries {H : Type} : List (Lit × DataW H) → Nat
  | [] => 0
  | x :: r => uptoBulkEntry x + uptoBulkEntries r
def uptoBulkEntry {H : Type} : Lit × DataW H → Nat
  | (.string bytes, d) => bytes.length + uptoBulk d + 1
  | (_, d) => uptoBulk d + 1
 end
def uptoSmall : (H : Type) → List (DataW H) → Bool := fun _ ds => decide (uptoBulkAll ds ≤ 1048576)
def OpenSpec.upto (s : _root_.Go.ChangeSpec) : _root_.Go.OpenSpec := { _root_.Go.OpenSpec.ofChange s with cond := some uptoSmall }

/-- 'tmplpipelaw02.WriterAcceptsPrefix', WHERE WHAT IT READS IS OF BULK AT MOST 1048576: true; the input reads as it did. -/
def writerAcceptsPrefixUptoRow : OpenClaim := { program := "ythiphpcbeeakpaa", sum := "9d7d444fe120186be877ac062d88b42b094c6ee1f20927846413ecdb70bb0978", func := "tmplpipe/tmplpipelaw02.WriterAcceptsPrefix", spec := "writerAcceptsPrefix", apart := false, narrowed := true }
def WriterAcceptsPrefixUptoSaid : Prop := writerAcceptsPrefixUptoRow.holds Try.pinned (OpenSpec.upto writerAcceptsPrefixSpec)

/-- 'tmplpipelaw02.WriterEmpty', WHERE WHAT IT READS IS OF BULK AT MOST 1048576: true; the input reads as it did. -/
def writerEmptyUptoRow : OpenClaim := { program := "ythiphpcbeeakpaa", sum := "9d7d444fe120186be877ac062d88b42b094c6ee1f20927846413ecdb70bb0978", func := "tmplpipe/tmplpipelaw02.WriterEmpty", spec := "writerEmpty", apart := false, narrowed := true }
def WriterEmptyUptoSaid : Prop := writerEmptyUptoRow.holds Try.pinned (OpenSpec.upto writerEmptySpec)

/-- 'tmplpipelaw02.WriterFailureIsSticky', WHERE WHAT IT READS IS OF BULK AT MOST 1048576: true; the input reads as it did. -/
def writerFailureIsStickyUptoRow : OpenClaim := { program := "ythiphpcbeeakpaa", sum := "9d7d444fe120186be877ac062d88b42b094c6ee1f20927846413ecdb70bb0978", func := "tmplpipe/tmplpipelaw02.WriterFailureIsSticky", spec := "writerFailureIsSticky", apart := false, narrowed := true }
def WriterFailureIsStickyUptoSaid : Prop := writerFailureIsStickyUptoRow.holds Try.pinned (OpenSpec.upto writerFailureIsStickySpec)

/-- 'tmplpipelaw02.WriterCounts', WHERE WHAT IT READS IS OF BULK AT MOST 1048576: true; the input reads as it did. -/
def writerCountsUptoRow : OpenClaim := { program := "ythiphpcbeeakpaa", sum := "9d7d444fe120186be877ac062d88b42b094c6ee1f20927846413ecdb70bb0978", func := "tmplpipe/tmplpipelaw02.WriterCounts", spec := "writerCounts", apart := false, narrowed := true }
def WriterCountsUptoSaid : Prop := writerCountsUptoRow.holds Try.pinned (OpenSpec.upto writerCountsSpec)

/-- 'tmplpipelaw01.RingMatchesReference', WHERE WHAT IT READS IS OF BULK AT MOST 1048576: true; the input reads as it did. -/
def ringMatchesReferenceUptoRow : OpenClaim := { program := "ythiphpcbeeakpaa", sum := "9d7d444fe120186be877ac062d88b42b094c6ee1f20927846413ecdb70bb0978", func := "tmplpipe/tmplpipelaw01.RingMatchesReference", spec := "ringMatchesReference", apart := false, narrowed := true }
def RingMatchesReferenceUptoSaid : Prop := ringMatchesReferenceUptoRow.holds Try.pinned (OpenSpec.upto ringMatchesReferenceSpec)

/-- 'tmplpipelaw01.RingCapacity', WHERE WHAT IT READS IS OF BULK AT MOST 1048576: true; the input reads as it did. -/
def ringCapacityUptoRow : OpenClaim := { program := "ythiphpcbeeakpaa", sum := "9d7d444fe120186be877ac062d88b42b094c6ee1f20927846413ecdb70bb0978", func := "tmplpipe/tmplpipelaw01.RingCapacity", spec := "ringCapacity", apart := false, narrowed := true }
def RingCapacityUptoSaid : Prop := ringCapacityUptoRow.holds Try.pinned (OpenSpec.upto ringCapacitySpec)

/-- 'tmplpipelaw01.RingKeepsOrder', WHERE WHAT IT READS IS OF BULK AT MOST 1048576: true; the input reads as it did. -/
def ringKeepsOrderUptoRow : OpenClaim := { program := "ythiphpcbeeakpaa", sum := "9d7d444fe120186be877ac062d88b42b094c6ee1f20927846413ecdb70bb0978", func := "tmplpipe/tmplpipelaw01.RingKeepsOrder", spec := "ringKeepsOrder", apart := false, narrowed := true }
def RingKeepsOrderUptoSaid : Prop := ringKeepsOrderUptoRow.holds Try.pinned (OpenSpec.upto ringKeepsOrderSpec)

/-- 'tmplpipelaw01.RingIsolated', WHERE WHAT IT READS IS OF BULK AT MOST 1048576: true; the input reads as it did. -/
def ringIsolatedUptoRow : OpenClaim := { program := "ythiphpcbeeakpaa", sum := "9d7d444fe120186be877ac062d88b42b094c6ee1f20927846413ecdb70bb0978", func := "tmplpipe/tmplpipelaw01.RingIsolated", spec := "ringIsolated", apart := false, narrowed := true }
def RingIsolatedUptoSaid : Prop := ringIsolatedUptoRow.holds Try.pinned (OpenSpec.upto ringIsolatedSpec)

/-- 'tmplpipelaw01.RingSpace', WHERE WHAT IT READS IS OF BULK AT MOST 1048576: true; the input reads as it did. -/
def ringSpaceUptoRow : OpenClaim := { program := "ythiphpcbeeakpaa", sum := "9d7d444fe120186be877ac062d88b42b094c6ee1f20927846413ecdb70bb0978", func := "tmplpipe/tmplpipelaw01.RingSpace", spec := "ringSpace", apart := false, narrowed := true }
def RingSpaceUptoSaid : Prop := ringSpaceUptoRow.holds Try.pinned (OpenSpec.upto ringSpaceSpec)

/-- 'tmplpipelaw01.RingPeekIsPrefix', WHERE WHAT IT READS IS OF BULK AT MOST 1048576: true; the input reads as it did. -/
def ringPeekIsPrefixUptoRow : OpenClaim := { program := "ythiphpcbeeakpaa", sum := "9d7d444fe120186be877ac062d88b42b094c6ee1f20927846413ecdb70bb0978", func := "tmplpipe/tmplpipelaw01.RingPeekIsPrefix", spec := "ringPeekIsPrefix", apart := false, narrowed := true }
def RingPeekIsPrefixUptoSaid : Prop := ringPeekIsPrefixUptoRow.holds Try.pinned (OpenSpec.upto ringPeekIsPrefixSpec)

/-- 'tmplpipelaw02.WriterMatchesReference', WHERE WHAT IT READS IS OF BULK AT MOST 1048576: true; the input reads as it did. -/
def writerMatchesReferenceUptoRow : OpenClaim := { program := "ythiphpcbeeakpaa", sum := "9d7d444fe120186be877ac062d88b42b094c6ee1f20927846413ecdb70bb0978", func := "tmplpipe/tmplpipelaw02.WriterMatchesReference", spec := "writerMatchesReference", apart := false, narrowed := true }
def WriterMatchesReferenceUptoSaid : Prop := writerMatchesReferenceUptoRow.holds Try.pinned (OpenSpec.upto writerMatchesReferenceSpec)

/-- 'tmplpipelaw02.WriterExtendIsConcatenation', WHERE WHAT IT READS IS OF BULK AT MOST 1048576: true; the input reads as it did. -/
def writerExtendIsConcatenationUptoRow : OpenClaim := { program := "ythiphpcbeeakpaa", sum := "9d7d444fe120186be877ac062d88b42b094c6ee1f20927846413ecdb70bb0978", func := "tmplpipe/tmplpipelaw02.WriterExtendIsConcatenation", spec := "writerExtendIsConcatenation", apart := false, narrowed := true }
def WriterExtendIsConcatenationUptoSaid : Prop := writerExtendIsConcatenationUptoRow.holds Try.pinned (OpenSpec.upto writerExtendIsConcatenationSpec)

end Rows
end Go.Proofs.Ythiphpcbeeakpaa
