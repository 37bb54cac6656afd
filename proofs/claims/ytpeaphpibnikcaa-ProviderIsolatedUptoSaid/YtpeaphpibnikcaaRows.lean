/-
  NARROWER THAN 'FOR EVERY INPUT', by the rows' own cells (each row's printed sentence says how): ProviderMatchesReference: loops · ProviderIsolated: loops · ProviderPullsOnce: loops.
  DERIVED. THE GIVEN ROWS OF THIS SEAT. 3 by the template 'for every input the law returns true; each argument reads behind the call as it read before'; 0 by the template 'total and deterministic' (their statements: YtpeaphpibnikcaaTotals.lean).
  GIVEN WITH THE SEED: the statements are not yours to turn. If you find one false, say at which input.
  Laid BY PROGRAM, IN A SANDBOX (cutbox-rows.mjs): the forced cells as the released guide's own fill.sh prints them over the translation f3bb087379a3a940… (all of the seat's roots in one cut). By AI agents, Wed Nov 11 2026. No macro, syntax, notation, axiom, sorry.
-/
import Derived.Test.YtpeaphpibnikcaaChecked
import GoSem.Claim
import GoSem.ClaimJoined
import GoSem.ClaimMapViews
import Derived.JoinedTies
import Derived.KernelRfl
namespace Go.Proofs.Ytpeaphpibnikcaa
/- THE CELL 'sum', in the pinned program and in every row, IS THE sha256 OF THE DUMP (.gsa) THAT YtpeaphpibnikcaaProg.lean LOADS. Nothing in Lean hashes anything: it is a label: what it is worth is what the hold of that sum in a sandbox is worth. -/
noncomputable def Try.pinned : Pinned := { name := "ytpeaphpibnikcaa", sum := "f3bb087379a3a940ce6f83d995f6477853fe184b8bfc419fce37a40f22fe10eb", checked := Try.checked }
namespace Rows
def none {H : Type} : Left H := { results := [], args := [] }

/-- 'tmplpipelaw10.ProviderMatchesReference': WHATEVER THE INPUT: true; the input reads as it did. -/
def providerMatchesReferenceSpec : ChangeSpec := { name := "providerMatchesReference", fn := fun _ => fun
  | [d1, d2, d3] => { results := [.lit (.bool true)], args := [d1, d2, d3] }
  | _ => none }
def providerMatchesReferenceRow : OpenClaim := { program := "ytpeaphpibnikcaa", sum := "f3bb087379a3a940ce6f83d995f6477853fe184b8bfc419fce37a40f22fe10eb", func := "tmplpipe/tmplpipelaw10.ProviderMatchesReference", spec := "providerMatchesReference", unfollowed := true, recurses := true, loops := true, apart := false }
def ProviderMatchesReferenceSaid : Prop := providerMatchesReferenceRow.holds Try.pinned (OpenSpec.ofChange providerMatchesReferenceSpec)

/-- ITS FALSE NEIGHBOUR: 'it returns false'. Refute it at one input. -/
def providerMatchesReferenceWrong : ChangeSpec := { name := "providerMatchesReference", fn := fun _ => fun
  | [d1, d2, d3] => { results := [.lit (.bool false)], args := [d1, d2, d3] }
  | _ => none }
def ProviderMatchesReferenceWrongFalsely : Prop := providerMatchesReferenceRow.holds Try.pinned (OpenSpec.ofChange providerMatchesReferenceWrong)

/-- 'tmplpipelaw10.ProviderIsolated': WHATEVER THE INPUT: true; the input reads as it did. -/
def providerIsolatedSpec : ChangeSpec := { name := "providerIsolated", fn := fun _ => fun
  | [d1, d2] => { results := [.lit (.bool true)], args := [d1, d2] }
  | _ => none }
def providerIsolatedRow : OpenClaim := { program := "ytpeaphpibnikcaa", sum := "f3bb087379a3a940ce6f83d995f6477853fe184b8bfc419fce37a40f22fe10eb", func := "tmplpipe/tmplpipelaw10.ProviderIsolated", spec := "providerIsolated", unfollowed := true, recurses := true, loops := true, apart := false }
def ProviderIsolatedSaid : Prop := providerIsolatedRow.holds Try.pinned (OpenSpec.ofChange providerIsolatedSpec)

/-- ITS FALSE NEIGHBOUR: 'it returns false'. Refute it at one input. -/
def providerIsolatedWrong : ChangeSpec := { name := "providerIsolated", fn := fun _ => fun
  | [d1, d2] => { results := [.lit (.bool false)], args := [d1, d2] }
  | _ => none }
def ProviderIsolatedWrongFalsely : Prop := providerIsolatedRow.holds Try.pinned (OpenSpec.ofChange providerIsolatedWrong)

/-- 'tmplpipelaw10.ProviderPullsOnce': WHATEVER THE INPUT: true; the input reads as it did. -/
def providerPullsOnceSpec : ChangeSpec := { name := "providerPullsOnce", fn := fun _ => fun
  | [d1, d2] => { results := [.lit (.bool true)], args := [d1, d2] }
  | _ => none }
def providerPullsOnceRow : OpenClaim := { program := "ytpeaphpibnikcaa", sum := "f3bb087379a3a940ce6f83d995f6477853fe184b8bfc419fce37a40f22fe10eb", func := "tmplpipe/tmplpipelaw10.ProviderPullsOnce", spec := "providerPullsOnce", unfollowed := true, recurses := true, loops := true, apart := false }
def ProviderPullsOnceSaid : Prop := providerPullsOnceRow.holds Try.pinned (OpenSpec.ofChange providerPullsOnceSpec)

/-- ITS FALSE NEIGHBOUR: 'it returns false'. Refute it at one input. -/
def providerPullsOnceWrong : ChangeSpec := { name := "providerPullsOnce", fn := fun _ => fun
  | [d1, d2] => { results := [.lit (.bool false)], args := [d1, d2] }
  | _ => none }
def ProviderPullsOnceWrongFalsely : Prop := providerPullsOnceRow.holds Try.pinned (OpenSpec.ofChange providerPullsOnceWrong)

/- THE SECOND FORM. 'bulk': how many values and letters a reading holds, each counted each time it is reached (what is shared counts as often as it is met; a slice's spare places count too). A statement '..UptoSaid' is the law's where the arguments, and the package variables that the reading takes, are together of bulk at most 1048576: NARROWER than '..Said'. Prove '..Said' where nothing that the law and all that it calls make is longer than what came in: it says more and counts as full. Else prove '..UptoSaid'. A law counts once. -/
mutual
def uptoBulk {H : Type} : DataW H → Nat
  | .lit (.string bytes) => bytes.length + 1
  | .lit _ => 1
  | .nil => 1
  | .ptr d => uptoBulk d + 1
  | .slice elems spare => uptoBulkAll elems + uptoBulkAll spare + 1
  | .agg parts => uptoBulkAll parts + 1
  | .iface _ d => uptoBulk d + 1
  | .map entries => uptoBulkEntries entries + 1
  | .held _ => 1
def uptoBulkAll {H : Type} : List (DataW H) → Nat
  | [] => 0
  | d :: r => uptoBulk d + uptoBulkAll r
def uptoBulkEntries {H : Type} : List (Lit × DataW H) → Nat
  | [] => 0
  | x :: r => uptoBulkEntry x + uptoBulkEntries r
def uptoBulkEntry {H : Type} : Lit × DataW H → Nat
  | (.string bytes, d) => bytes.length + uptoBulk d + 1
  | (_, d) => uptoBulk d + 1
 end
def uptoSmall : (H : Type) → List (DataW H) → Bool := fun _ ds => decide (uptoBulkAll ds ≤ 1048576)
def OpenSpec.upto (s : _root_.Go.ChangeSpec) : _root_.Go.OpenSpec := { _root_.Go.OpenSpec.ofChange s with cond := some uptoSmall }

/-- 'tmplpipelaw10.ProviderMatchesReference', WHERE WHAT IT READS IS OF BULK AT MOST 1048576: true; the input reads as it did. -/
def providerMatchesReferenceUptoRow : OpenClaim := { program := "ytpeaphpibnikcaa", sum := "f3bb087379a3a940ce6f83d995f6477853fe184b8bfc419fce37a40f22fe10eb", func := "tmplpipe/tmplpipelaw10.ProviderMatchesReference", spec := "providerMatchesReference", unfollowed := true, recurses := true, loops := true, apart := false, narrowed := true }
def ProviderMatchesReferenceUptoSaid : Prop := providerMatchesReferenceUptoRow.holds Try.pinned (OpenSpec.upto providerMatchesReferenceSpec)

/-- 'tmplpipelaw10.ProviderIsolated', WHERE WHAT IT READS IS OF BULK AT MOST 1048576: true; the input reads as it did. -/
def providerIsolatedUptoRow : OpenClaim := { program := "ytpeaphpibnikcaa", sum := "f3bb087379a3a940ce6f83d995f6477853fe184b8bfc419fce37a40f22fe10eb", func := "tmplpipe/tmplpipelaw10.ProviderIsolated", spec := "providerIsolated", unfollowed := true, recurses := true, loops := true, apart := false, narrowed := true }
def ProviderIsolatedUptoSaid : Prop := providerIsolatedUptoRow.holds Try.pinned (OpenSpec.upto providerIsolatedSpec)

/-- 'tmplpipelaw10.ProviderPullsOnce', WHERE WHAT IT READS IS OF BULK AT MOST 1048576: true; the input reads as it did. -/
def providerPullsOnceUptoRow : OpenClaim := { program := "ytpeaphpibnikcaa", sum := "f3bb087379a3a940ce6f83d995f6477853fe184b8bfc419fce37a40f22fe10eb", func := "tmplpipe/tmplpipelaw10.ProviderPullsOnce", spec := "providerPullsOnce", unfollowed := true, recurses := true, loops := true, apart := false, narrowed := true }
def ProviderPullsOnceUptoSaid : Prop := providerPullsOnceUptoRow.holds Try.pinned (OpenSpec.upto providerPullsOnceSpec)

end Rows
end Go.Proofs.Ytpeaphpibnikcaa
