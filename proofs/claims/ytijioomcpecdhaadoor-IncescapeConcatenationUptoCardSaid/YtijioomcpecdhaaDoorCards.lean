/-
  DERIVED. GIVEN WITH THE SEED: THE CARDS: each row of YtijioomcpecdhaaDoorRows.lean that lists a variable, with what it lists TIED to the program's text (the seventh form; the later family's looks); each row that meets fmt, with fmt's text TOLD by the authors' own Lean function (tested against real Go, not proved from fmt's source: count such statements apart). THE CARD IS WHAT COUNTS. Prove the row's statement (the work); the ties are given (YtijioomcpecdhaaDoorTie.lean); close each card by the builder's one call (the guide's Derived/Test/ToyasCard.lean, 'card_holds'). Laid BY PROGRAM, IN A SANDBOX (cutbox-door.mjs). By AI agents, Wed Nov 11 2026. No macro, syntax, notation, axiom, sorry.
-/
import Derived.Test.YtijioomcpecdhaaDoorRows
import GoSem.ClaimSeven
namespace Go.Proofs.YtijioomcpecdhaaDoor
namespace Rows

/-- THE TIED CARD OF 'tmplpipelaw07.EscapeRuneMatchesReference'. -/
def escapeRuneMatchesReferenceCard : Claim7 := { stood := { row := escapeRuneMatchesReferenceRow, standIns := [], harness := (true, "fe495974480437e92782284ce140f2ee0dd4fa0ad9d41ea418173c072059b7ad"), looks := false }, kinds := [], alts := [], laidByText := true, laidKinds := [.data, .data, .data], laidTests := true, laidLooks := .later }
def EscapeRuneMatchesReferenceCardSaid : Prop := Claim7.holds Tryd.pinned (.plain (OpenSpec.ofChange escapeRuneMatchesReferenceSpec)) escapeRuneMatchesReferenceCard

/-- THE TIED CARD OF 'tmplpipelaw07.EscapeKeepsLetters'. -/
def escapeKeepsLettersCard : Claim7 := { stood := { row := escapeKeepsLettersRow, standIns := [], harness := (true, "fe495974480437e92782284ce140f2ee0dd4fa0ad9d41ea418173c072059b7ad"), looks := false }, kinds := [], alts := [], laidByText := true, laidKinds := [.data, .data, .data], laidTests := true, laidLooks := .later }
def EscapeKeepsLettersCardSaid : Prop := Claim7.holds Tryd.pinned (.plain (OpenSpec.ofChange escapeKeepsLettersSpec)) escapeKeepsLettersCard

/-- THE TIED CARD OF 'tmplpipelaw07.EscapeConcatenation'. -/
def escapeConcatenationCard : Claim7 := { stood := { row := escapeConcatenationRow, standIns := [], harness := (true, "fe495974480437e92782284ce140f2ee0dd4fa0ad9d41ea418173c072059b7ad"), looks := false }, kinds := [], alts := [], laidByText := true, laidKinds := [.data, .data, .data, .data, .pinned], laidTests := true, laidLooks := .later }
def EscapeConcatenationCardSaid : Prop := Claim7.holds Tryd.pinned (.plain (OpenSpec.ofChange escapeConcatenationSpec)) escapeConcatenationCard

/-- THE TIED CARD OF 'tmplpipelaw07.EscapeMatchesReference'. -/
def escapeMatchesReferenceCard : Claim7 := { stood := { row := escapeMatchesReferenceRow, standIns := [], harness := (true, "fe495974480437e92782284ce140f2ee0dd4fa0ad9d41ea418173c072059b7ad"), looks := false }, kinds := [], alts := [], laidByText := true, laidKinds := [.data, .data, .data, .data, .pinned], laidTests := true, laidLooks := .later }
def EscapeMatchesReferenceCardSaid : Prop := Claim7.holds Tryd.pinned (.plain (OpenSpec.ofChange escapeMatchesReferenceSpec)) escapeMatchesReferenceCard

/-- THE TIED CARD OF 'tmplpipelaw07.EscapeIsSafe'. -/
def escapeIsSafeCard : Claim7 := { stood := { row := escapeIsSafeRow, standIns := [], harness := (true, "fe495974480437e92782284ce140f2ee0dd4fa0ad9d41ea418173c072059b7ad"), looks := false }, kinds := [], alts := [], laidByText := true, laidKinds := [.data, .data, .data, .data, .pinned], laidTests := true, laidLooks := .later }
def EscapeIsSafeCardSaid : Prop := Claim7.holds Tryd.pinned (.plain (OpenSpec.ofChange escapeIsSafeSpec)) escapeIsSafeCard

/-- THE TIED CARD OF 'tmplpipelaw07.EscapeIsInjective'. -/
def escapeIsInjectiveCard : Claim7 := { stood := { row := escapeIsInjectiveRow, standIns := [], harness := (true, "fe495974480437e92782284ce140f2ee0dd4fa0ad9d41ea418173c072059b7ad"), looks := false }, kinds := [], alts := [], laidByText := true, laidKinds := [.data, .data, .data, .data, .pinned], laidTests := true, laidLooks := .later }
def EscapeIsInjectiveCardSaid : Prop := Claim7.holds Tryd.pinned (.plain (OpenSpec.ofChange escapeIsInjectiveSpec)) escapeIsInjectiveCard

/-- THE TIED CARD OF 'tmplpipelaw08.IncescapeNumbers'. -/
def incescapeNumbersCard : Claim7 := { stood := { row := incescapeNumbersRow, standIns := [], harness := (true, "fe495974480437e92782284ce140f2ee0dd4fa0ad9d41ea418173c072059b7ad"), looks := false }, kinds := [], alts := [], laidByText := true, laidKinds := [.data, .data, .data, .data, .pinned], laidTests := true, laidLooks := .later }
def IncescapeNumbersCardSaid : Prop := Claim7.holds Tryd.pinned (.plain (OpenSpec.ofChange incescapeNumbersSpec)) incescapeNumbersCard

/-- THE TIED CARD OF 'tmplpipelaw08.IncescapeMatchesReference'. -/
def incescapeMatchesReferenceCard : Claim7 := { stood := { row := incescapeMatchesReferenceRow, standIns := [], harness := (true, "fe495974480437e92782284ce140f2ee0dd4fa0ad9d41ea418173c072059b7ad"), looks := false }, kinds := [], alts := [], laidByText := true, laidKinds := [.data, .data, .data, .data, .pinned], laidTests := true, laidLooks := .later }
def IncescapeMatchesReferenceCardSaid : Prop := Claim7.holds Tryd.pinned (.plain (OpenSpec.ofChange incescapeMatchesReferenceSpec)) incescapeMatchesReferenceCard

/-- THE TIED CARD OF 'tmplpipelaw08.IncescapeHoldsLittle'. -/
def incescapeHoldsLittleCard : Claim7 := { stood := { row := incescapeHoldsLittleRow, standIns := [], harness := (true, "fe495974480437e92782284ce140f2ee0dd4fa0ad9d41ea418173c072059b7ad"), looks := false }, kinds := [], alts := [], laidByText := true, laidKinds := [.data, .data, .data, .data, .pinned], laidTests := true, laidLooks := .later }
def IncescapeHoldsLittleCardSaid : Prop := Claim7.holds Tryd.pinned (.plain (OpenSpec.ofChange incescapeHoldsLittleSpec)) incescapeHoldsLittleCard

/-- THE TIED CARD OF 'tmplpipelaw08.IncescapeNext'. -/
def incescapeNextCard : Claim7 := { stood := { row := incescapeNextRow, standIns := [], harness := (true, "fe495974480437e92782284ce140f2ee0dd4fa0ad9d41ea418173c072059b7ad"), looks := false }, kinds := [], alts := [], laidByText := true, laidKinds := [.data, .data, .data, .data, .pinned], laidTests := true, laidLooks := .later }
def IncescapeNextCardSaid : Prop := Claim7.holds Tryd.pinned (.plain (OpenSpec.ofChange incescapeNextSpec)) incescapeNextCard

/-- THE TIED CARD OF 'tmplpipelaw08.IncescapeSplitIrrelevant'. -/
def incescapeSplitIrrelevantCard : Claim7 := { stood := { row := incescapeSplitIrrelevantRow, standIns := [], harness := (true, "fe495974480437e92782284ce140f2ee0dd4fa0ad9d41ea418173c072059b7ad"), looks := false }, kinds := [], alts := [], laidByText := true, laidKinds := [.data, .data, .data, .data, .pinned], laidTests := true, laidLooks := .later }
def IncescapeSplitIrrelevantCardSaid : Prop := Claim7.holds Tryd.pinned (.plain (OpenSpec.ofChange incescapeSplitIrrelevantSpec)) incescapeSplitIrrelevantCard

/-- THE TIED CARD OF 'tmplpipelaw08.IncescapeConcatenation'. -/
def incescapeConcatenationCard : Claim7 := { stood := { row := incescapeConcatenationRow, standIns := [], harness := (true, "fe495974480437e92782284ce140f2ee0dd4fa0ad9d41ea418173c072059b7ad"), looks := false }, kinds := [], alts := [], laidByText := true, laidKinds := [.data, .data, .data, .data, .pinned], laidTests := true, laidLooks := .later }
def IncescapeConcatenationCardSaid : Prop := Claim7.holds Tryd.pinned (.plain (OpenSpec.ofChange incescapeConcatenationSpec)) incescapeConcatenationCard

/-- THE SECOND FORM's CARD OF 'tmplpipelaw07.EscapeRuneMatchesReference'. -/
def escapeRuneMatchesReferenceUptoCard : Claim7 := { stood := { row := escapeRuneMatchesReferenceUptoRow, standIns := [], harness := (true, "fe495974480437e92782284ce140f2ee0dd4fa0ad9d41ea418173c072059b7ad"), looks := false }, kinds := [], alts := [], laidByText := true, laidKinds := [.data, .data, .data], laidTests := true, laidLooks := .later }
def EscapeRuneMatchesReferenceUptoCardSaid : Prop := Claim7.holds Tryd.pinned (.plain (OpenSpec.upto escapeRuneMatchesReferenceSpec)) escapeRuneMatchesReferenceUptoCard

/-- THE SECOND FORM's CARD OF 'tmplpipelaw07.EscapeKeepsLetters'. -/
def escapeKeepsLettersUptoCard : Claim7 := { stood := { row := escapeKeepsLettersUptoRow, standIns := [], harness := (true, "fe495974480437e92782284ce140f2ee0dd4fa0ad9d41ea418173c072059b7ad"), looks := false }, kinds := [], alts := [], laidByText := true, laidKinds := [.data, .data, .data], laidTests := true, laidLooks := .later }
def EscapeKeepsLettersUptoCardSaid : Prop := Claim7.holds Tryd.pinned (.plain (OpenSpec.upto escapeKeepsLettersSpec)) escapeKeepsLettersUptoCard

/-- THE SECOND FORM's CARD OF 'tmplpipelaw07.EscapeConcatenation'. -/
def escapeConcatenationUptoCard : Claim7 := { stood := { row := escapeConcatenationUptoRow, standIns := [], harness := (true, "fe495974480437e92782284ce140f2ee0dd4fa0ad9d41ea418173c072059b7ad"), looks := false }, kinds := [], alts := [], laidByText := true, laidKinds := [.data, .data, .data, .data, .pinned], laidTests := true, laidLooks := .later }
def EscapeConcatenationUptoCardSaid : Prop := Claim7.holds Tryd.pinned (.plain (OpenSpec.upto escapeConcatenationSpec)) escapeConcatenationUptoCard

/-- THE SECOND FORM's CARD OF 'tmplpipelaw07.EscapeMatchesReference'. -/
def escapeMatchesReferenceUptoCard : Claim7 := { stood := { row := escapeMatchesReferenceUptoRow, standIns := [], harness := (true, "fe495974480437e92782284ce140f2ee0dd4fa0ad9d41ea418173c072059b7ad"), looks := false }, kinds := [], alts := [], laidByText := true, laidKinds := [.data, .data, .data, .data, .pinned], laidTests := true, laidLooks := .later }
def EscapeMatchesReferenceUptoCardSaid : Prop := Claim7.holds Tryd.pinned (.plain (OpenSpec.upto escapeMatchesReferenceSpec)) escapeMatchesReferenceUptoCard

/-- THE SECOND FORM's CARD OF 'tmplpipelaw07.EscapeIsSafe'. -/
def escapeIsSafeUptoCard : Claim7 := { stood := { row := escapeIsSafeUptoRow, standIns := [], harness := (true, "fe495974480437e92782284ce140f2ee0dd4fa0ad9d41ea418173c072059b7ad"), looks := false }, kinds := [], alts := [], laidByText := true, laidKinds := [.data, .data, .data, .data, .pinned], laidTests := true, laidLooks := .later }
def EscapeIsSafeUptoCardSaid : Prop := Claim7.holds Tryd.pinned (.plain (OpenSpec.upto escapeIsSafeSpec)) escapeIsSafeUptoCard

/-- THE SECOND FORM's CARD OF 'tmplpipelaw07.EscapeIsInjective'. -/
def escapeIsInjectiveUptoCard : Claim7 := { stood := { row := escapeIsInjectiveUptoRow, standIns := [], harness := (true, "fe495974480437e92782284ce140f2ee0dd4fa0ad9d41ea418173c072059b7ad"), looks := false }, kinds := [], alts := [], laidByText := true, laidKinds := [.data, .data, .data, .data, .pinned], laidTests := true, laidLooks := .later }
def EscapeIsInjectiveUptoCardSaid : Prop := Claim7.holds Tryd.pinned (.plain (OpenSpec.upto escapeIsInjectiveSpec)) escapeIsInjectiveUptoCard

/-- THE SECOND FORM's CARD OF 'tmplpipelaw08.IncescapeNumbers'. -/
def incescapeNumbersUptoCard : Claim7 := { stood := { row := incescapeNumbersUptoRow, standIns := [], harness := (true, "fe495974480437e92782284ce140f2ee0dd4fa0ad9d41ea418173c072059b7ad"), looks := false }, kinds := [], alts := [], laidByText := true, laidKinds := [.data, .data, .data, .data, .pinned], laidTests := true, laidLooks := .later }
def IncescapeNumbersUptoCardSaid : Prop := Claim7.holds Tryd.pinned (.plain (OpenSpec.upto incescapeNumbersSpec)) incescapeNumbersUptoCard

/-- THE SECOND FORM's CARD OF 'tmplpipelaw08.IncescapeMatchesReference'. -/
def incescapeMatchesReferenceUptoCard : Claim7 := { stood := { row := incescapeMatchesReferenceUptoRow, standIns := [], harness := (true, "fe495974480437e92782284ce140f2ee0dd4fa0ad9d41ea418173c072059b7ad"), looks := false }, kinds := [], alts := [], laidByText := true, laidKinds := [.data, .data, .data, .data, .pinned], laidTests := true, laidLooks := .later }
def IncescapeMatchesReferenceUptoCardSaid : Prop := Claim7.holds Tryd.pinned (.plain (OpenSpec.upto incescapeMatchesReferenceSpec)) incescapeMatchesReferenceUptoCard

/-- THE SECOND FORM's CARD OF 'tmplpipelaw08.IncescapeHoldsLittle'. -/
def incescapeHoldsLittleUptoCard : Claim7 := { stood := { row := incescapeHoldsLittleUptoRow, standIns := [], harness := (true, "fe495974480437e92782284ce140f2ee0dd4fa0ad9d41ea418173c072059b7ad"), looks := false }, kinds := [], alts := [], laidByText := true, laidKinds := [.data, .data, .data, .data, .pinned], laidTests := true, laidLooks := .later }
def IncescapeHoldsLittleUptoCardSaid : Prop := Claim7.holds Tryd.pinned (.plain (OpenSpec.upto incescapeHoldsLittleSpec)) incescapeHoldsLittleUptoCard

/-- THE SECOND FORM's CARD OF 'tmplpipelaw08.IncescapeNext'. -/
def incescapeNextUptoCard : Claim7 := { stood := { row := incescapeNextUptoRow, standIns := [], harness := (true, "fe495974480437e92782284ce140f2ee0dd4fa0ad9d41ea418173c072059b7ad"), looks := false }, kinds := [], alts := [], laidByText := true, laidKinds := [.data, .data, .data, .data, .pinned], laidTests := true, laidLooks := .later }
def IncescapeNextUptoCardSaid : Prop := Claim7.holds Tryd.pinned (.plain (OpenSpec.upto incescapeNextSpec)) incescapeNextUptoCard

/-- THE SECOND FORM's CARD OF 'tmplpipelaw08.IncescapeSplitIrrelevant'. -/
def incescapeSplitIrrelevantUptoCard : Claim7 := { stood := { row := incescapeSplitIrrelevantUptoRow, standIns := [], harness := (true, "fe495974480437e92782284ce140f2ee0dd4fa0ad9d41ea418173c072059b7ad"), looks := false }, kinds := [], alts := [], laidByText := true, laidKinds := [.data, .data, .data, .data, .pinned], laidTests := true, laidLooks := .later }
def IncescapeSplitIrrelevantUptoCardSaid : Prop := Claim7.holds Tryd.pinned (.plain (OpenSpec.upto incescapeSplitIrrelevantSpec)) incescapeSplitIrrelevantUptoCard

/-- THE SECOND FORM's CARD OF 'tmplpipelaw08.IncescapeConcatenation'. -/
def incescapeConcatenationUptoCard : Claim7 := { stood := { row := incescapeConcatenationUptoRow, standIns := [], harness := (true, "fe495974480437e92782284ce140f2ee0dd4fa0ad9d41ea418173c072059b7ad"), looks := false }, kinds := [], alts := [], laidByText := true, laidKinds := [.data, .data, .data, .data, .pinned], laidTests := true, laidLooks := .later }
def IncescapeConcatenationUptoCardSaid : Prop := Claim7.holds Tryd.pinned (.plain (OpenSpec.upto incescapeConcatenationSpec)) incescapeConcatenationUptoCard
end Rows
end Go.Proofs.YtijioomcpecdhaaDoor
